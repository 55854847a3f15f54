/-
  Texts of sets of lines: plain functions.
-/
import Derived.Test.YtjncggaheahjiaaGreatDoorLm
import Derived.Lib.AtoiAllCases
set_option linter.all false
namespace Go.Lic
open Go.Sort
def scutF (s sep : ByteArray) : ByteArray × ByteArray × Bool := if 0 ≤ indexF s sep then (ssub s 0 (indexF s sep), ssub s (indexF s sep + sep.size) s.size, true) else (s, ⟨#[]⟩, false)
def numF (s : ByteArray) : Int := match Lib.atoiAll s.data.toList with | .ok v => if s.size ≤ 4 ∧ itoaF v = s then v else -1 | _ => -1
def splitB (s : ByteArray) (c : Int) : List ByteArray := splitF s ⟨#[UInt8.ofNat c.toNat]⟩
def digB (c : Int) : Bool := decide (48 ≤ c) && decide (c ≤ 57)
def numR (s : ByteArray) (d : Int) : Int × Bool :=
 if (s.size : Int) < 1 ∨ d < s.size ∨ ((1 : Int) < s.size ∧ sgi s 0 = 48) then (0, false) else if (sbytes s).all digB then ((sbytes s).foldl (fun n c => 10 * n + (c - 48)) 0, true) else (0, false)
def noSpan : Span := ⟨⟨#[]⟩, 0, 0⟩
def spanN (w : List ByteArray) : Span := ⟨gi w 0, numF (gi w 1), numF (gi w 2)⟩
def codeS (s : Span) (before : List Span) : Int :=
 if s.from_ < 0 ∨ s.to < 0 then 4 else if pathF s.path ≠ 0 then 2 else if insideF s = false then 3 else if 0 < before.length ∧ behindF (lastD before) s = false then 5 else 0
def spanF (line : ByteArray) (before : List Span) : Span × Int :=
 if (splitF line ⟨#[32]⟩).length = 3 then (spanN (splitF line ⟨#[32]⟩), codeS (spanN (splitF line ⟨#[32]⟩)) before) else (noSpan, 4)
def oneF (line : ByteArray) : Span × Int := if (spanF line []).2 = 0 then spanF line [] else (noSpan, (spanF line []).2)
def parseL : Int → List Span → List ByteArray → List Span × Int × Int
 | _, out, [] => (out, -1, 0)
 | i, out, [l] => if l.size = 0 then (out, -1, 0) else ([], i, 4)
 | i, out, l :: m :: r => if (spanF l out).2 = 0 then parseL (i + 1) (out ++ [(spanF l out).1]) (m :: r) else ([], i, (spanF l out).2)
def parseF (s : ByteArray) : List Span × Int × Int := parseL 0 [] (splitF s ⟨#[10]⟩)
end Go.Lic
