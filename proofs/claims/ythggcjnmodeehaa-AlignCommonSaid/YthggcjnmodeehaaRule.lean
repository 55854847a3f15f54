/-
  Rules for scripts: frames that are written out, splits, loops with an invariant, known branches.
-/
import Derived.Test.YthggcjnmodeehaaDraw1
set_option linter.all false
namespace Go.Lic

/-- A frame that is written out; of the other slots nothing is known. -/
@[reducible] def asg : List (Nat × D) → Nat → D
  | [], _ => .top
  | (k, d) :: l, t => sel (Nat.beq t k) d (asg l t)

def Cov (fr fr0 : Nat → D) : Prop := ∀ t, fr0 t = .top ∨ fr0 t = fr t

def covL (fr : Nat → D) : List (Nat × D) → Prop
  | [] => True
  | (k, d) :: l => fr k = d ∧ covL fr l

theorem Cov.asg {fr : Nat → D} : ∀ {l : List (Nat × D)}, covL fr l → Cov fr (asg l)
  | [], _, _ => .inl rfl
  | (k, d) :: l, h, t => by
    show sel (Nat.beq t k) d (Lic.asg l t) = .top ∨ sel (Nat.beq t k) d (Lic.asg l t) = fr t
    cases hb : Nat.beq t k with
    | true =>
      have := Nat.eq_of_beq_eq_true hb
      subst this
      exact .inr h.1.symm
    | false => exact Cov.asg h.2 t

theorem Rel.cov {n : Nat} {A M : Nat → Prop} {w0 : World} {fr fr0 : Nat → D} {h : Heap} {a : Act} {w : World} (r : Rel n A M w0 fr h a w) (hc : Cov fr fr0) : Rel n A M w0 fr0 h a w :=
  ⟨r.size, fun i => by rcases hc i with h1 | h1 <;> rw [h1]; exact .top _; exact r.frame i, r.defers, r.heap⟩

theorem D.ok.of {sz : Nat} {d : D} (h : (Nat.beq d.flat.length sz && d.flat.all D.cell) = true) : d.ok sz := by
  simp only [Bool.and_eq_true, List.all_eq_true] at h
  exact ⟨Nat.eq_of_beq_eq_true h.1, h.2⟩

theorem getM {α β : Type} (f : α → β) (l : List α) (i : Nat) (h : i < l.length) : (l.map f)[i]? = some (f l[i]) := by simp [h]
theorem getL {α : Type} (l : List α) (i : Nat) (h : i < l.length) : l[i]? = some l[i] := List.getElem?_eq_getElem h

section
variable {P : Program} {n : Nat} {ops : Array Oper} {Q : Post} {fr fr0 : Nat → D} {h : Heap} {l : List Oper}

theorem wpA_cov {c : Code} (hc : Cov fr fr0) (hh : wpA P n c Q fr0 h) : wpA P n c Q fr h := fun A M w0 a w r => hh A M w0 a w (r.cov hc)
theorem wpL_cov (hc : Cov fr fr0) (hh : wpL P n ops l Q fr0 h) : wpL P n ops l Q fr h := fun A M w0 a w r => hh A M w0 a w (r.cov hc)

theorem upd_self {s : Nat} {d : D} (h : fr s = d) : upd fr s d = fr := by
  funext t
  by_cases ht : t = s
  · subst ht; rw [upd_same, h]
  · rw [upd_ne _ _ ht]

/-- A bool in a slot: both cases. -/
theorem wpL_split {s : Nat} {b : Bool} (hb : fr s = .b b) (ht : b = true → wpL P n ops l Q (upd fr s (.b true)) h) (hf : b = false → wpL P n ops l Q (upd fr s (.b false)) h) : wpL P n ops l Q fr h := by
  cases b with
  | true => have := ht rfl; rwa [upd_self hb] at this
  | false => have := hf rfl; rwa [upd_self hb] at this

theorem DetK_split {C : (Nat → D) → Prop} {s : Nat} {b : Bool} (hb : fr s = .b b) (ht : b = true → DetK P ops h l (upd fr s (.b true)) C) (hf : b = false → DetK P ops h l (upd fr s (.b false)) C) : DetK P ops h l fr C := by
  cases b with
  | true => have := ht rfl; rwa [upd_self hb] at this
  | false => have := hf rfl; rwa [upd_self hb] at this

theorem wpA_split {c : Code} {s : Nat} {b : Bool} (hb : fr s = .b b) (ht : b = true → wpA P n c Q (upd fr s (.b true)) h) (hf : b = false → wpA P n c Q (upd fr s (.b false)) h) : wpA P n c Q fr h := by
  cases b with
  | true => have := ht rfl; rwa [upd_self hb] at this
  | false => have := hf rfl; rwa [upd_self hb] at this

theorem wpA_condT {c : Operand} {x y : Code} (hb : ev fr c = .b true) (ht : wpA P n x Q fr h) : wpA P n (.cond c x y) Q fr h := wpA_cond hb (fun _ => ht) (fun h => by cases h)
theorem wpA_condF {c : Operand} {x y : Code} (hb : ev fr c = .b false) (hf : wpA P n y Q fr h) : wpA P n (.cond c x y) Q fr h := wpA_cond hb (fun h => by cases h) (fun _ => hf)

/-- A loop, its frame and heap written out at the head of each round. -/
theorem wpA_loopE {c : Code} (I : Nat → (Nat → D) → Heap → Prop) (h0 : ∃ k fr0, I k fr0 h ∧ Cov fr fr0)
    (round : ∀ k fr h, I k fr h → wpA P n c (fun e fr' h' => match e with | .normal => ∃ k' fr0, k' < k ∧ I k' fr0 h' ∧ Cov fr' fr0 | e => Q e fr' h') fr h) : wpA P n (.loop c) Q fr h := by
  obtain ⟨k, fr0, hI, hc⟩ := h0
  refine wpA_cov hc (wpA_loop I hI fun k fr h hI => ?_)
  intro A M w0 a w r
  refine wp_mono (round k fr h hI A M w0 a w r) ?_
  rintro e a' w' ⟨fr', h', hq, r'⟩
  cases e with
  | normal =>
    obtain ⟨k', fr0, hk, hI', hc'⟩ := hq
    exact ⟨fr0, h', ⟨k', hk, hI'⟩, r'.cov hc'⟩
  | exit id => exact ⟨fr', h', hq, r'⟩
  | goto l => exact ⟨fr', h', hq, r'⟩
  | ret => exact ⟨fr', h', hq, r'⟩
  | panic ch => exact ⟨fr', h', hq, r'⟩
  | outgrown => exact ⟨fr', h', hq, r'⟩

/-- A cut: J says what is needed of the state behind x, its frame written out. -/
theorem wpA_cutE {x y : Code} (J : (Nat → D) → Heap → Prop) (hx : wpA P n x (fun e fr' h' => match e with | .normal => ∃ fr0, J fr0 h' ∧ Cov fr' fr0 | e => Q e fr' h') fr h)
    (hy : ∀ fr h, J fr h → wpA P n y Q fr h) : wpA P n (.seq x y) Q fr h :=
  wpA_cut (fun fr' h' => ∃ fr0, J fr0 h' ∧ Cov fr' fr0) hx fun _ _ ⟨fr0, hJ, hc⟩ => wpA_cov hc (hy fr0 _ hJ)

/-- The nil slice in a slot becomes a slice of our own without memory. -/
theorem wpA_ghost {c : Code} {s sz : Nat} (hs : fr s = .v (.slice none 0 0)) (hn : Nat.blt s n = true) (hh : ∀ g, wpA P n c Q (upd fr s (.own g sz 0 0)) ((g, .cells sz []) :: h)) : wpA P n c Q fr h :=
  fun A M w0 a w r => by
    obtain ⟨g, _, _, hr, hm⟩ := r.heap.ghost sz
    refine hh g A M w0 a w ⟨r.size, fun i => ?_, r.defers, hr⟩
    by_cases hi : i = s
    · subst hi
      rw [upd_same]
      have := r.frame i
      rw [hs] at this
      generalize a.tmps.getD i undef = x at this
      cases this
      exact .own (Nat.le_refl _) (.inr ⟨rfl, rfl⟩)
    · rw [upd_ne _ _ hi]
      exact (r.frame i).mono hm

/-- Own memory from now on looked at as data: d in slot s becomes d'; the block is forgotten. -/
theorem wpA_freeze {c : Code} {s : Nat} {d d' : D} {h0 : Heap} {x : Nat × Blk} (hp : h.Perm (x :: h0)) (hd : fr s = d) (hsn : Snap false [x] [d] [d']) (hh : wpA P n c Q (upd fr s d') h0) : wpA P n c Q fr h :=
  fun A M w0 a w r => by
    obtain ⟨r1, m1⟩ := r.heap.perm hp
    obtain ⟨r2, m2⟩ := r1.tail
    have r' := r.turn r2 (m1.trans m2)
    refine hh A M w0 a w ⟨r'.size, fun i => ?_, r'.defers, r'.heap⟩
    by_cases hi : i = s
    · subst hi
      rw [upd_same]
      have hv := (r.frame i).mono m1
      rw [hd] at hv
      have hk : x.1 ∉ keys h0 := (List.nodup_cons.1 (by simpa using r1.nodup)).1
      have := hsn.sound (X' := XX A h0) r1 (fun c b hh => by cases hh with | head => exact .head | tail t => cases t) (fun _ b hb => by
          rcases hb with hb | hb
          · exact .inl hb
          · exact .inr (by simp [hb])) (fun c hc hev hx => by
          simp at hc; subst hc
          rcases hx with hx | hx
          · rw [show 2 * (x.1 / 2) = x.1 from by omega] at hx
            exact r1.free x.1 (by simp) hx
          · rw [show 2 * (x.1 / 2) = x.1 from by omega] at hx
            exact hk hx) [_] (.cons hv .nil)
      cases this with
      | cons h1 _ => exact h1
    · rw [upd_ne _ _ hi]
      exact r'.frame i
end
end Go.Lic
