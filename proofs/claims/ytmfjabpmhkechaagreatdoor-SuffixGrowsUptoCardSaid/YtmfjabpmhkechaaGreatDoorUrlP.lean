/- Plain words for URLs: paths, what a text is read as, texts. -/
import Derived.Test.YtmfjabpmhkechaaGreatDoorHostQ
import Derived.Test.YtmfjabpmhkechaaGreatDoorLower
import Derived.Lib.IndexAny
namespace Go.Proofs.YtmfjabpmhkechaaGreatDoor
open Go Go.RowKit
set_option linter.unusedSimpArgs false
set_option linter.unusedVariables false

def pathC (c : UInt8) : Bool := (decide ((33 : Int) ≤ c.toNat) && decide ((c.toNat : Int) ≤ 126)) && (!(c == 63) && !(c == 35))
def pathOk (s : List UInt8) : Bool := decide (1 ≤ s.length) && (decide (s.length ≤ 2048) && ((s.headD 0 == 47) && s.all pathC))
def rightU (h : GHost) (po : Int) (pa : List UInt8) : Bool := rightB h && (decide (1 ≤ po) && (decide (po ≤ 65535) && pathOk pa))
def httpT : List UInt8 := [104, 116, 116, 112, 58, 47, 47]
def httpsT : List UInt8 := [104, 116, 116, 112, 115, 58, 47, 47]
def usualT (safe : Bool) : List UInt8 := if safe = true then httpsT else httpT
def usualP (safe : Bool) : Int := if safe = true then 443 else 80
/-- A text of a URL that can be. -/
def goodT (safe : Bool) (h : GHost) (po : Int) (pa : List UInt8) : List UInt8 := usualT safe ++ textH h ++ (if po = usualP safe then [] else [58] ++ Lib.decDigits po.toNat) ++ pa
def textU (safe : Bool) (h : GHost) (po : Int) (pa : List UInt8) : List UInt8 := if rightU h po pa = true then goodT safe h po pa else []
theorem path_byte {s : List UInt8} (h : pathOk s = true) : 1 ≤ s.length ∧ s.length ≤ 2048 ∧ s.headD 0 = 47 ∧ s.all pathC = true := by
  unfold pathOk at h
  simp only [Bool.and_eq_true, decide_eq_true_eq, beq_iff_eq] at h
  exact ⟨h.1, h.2.1, h.2.2.1, h.2.2.2⟩
theorem pathC_cases (c : UInt8) : ((c.toNat : Int) < 33 ∧ pathC c = false) ∨ ((126 : Int) < c.toNat ∧ pathC c = false) ∨ ((33 : Int) ≤ c.toNat ∧ (c.toNat : Int) ≤ 126 ∧ (((c.toNat : Int) == 63) = true) ∧ (((c.toNat : Int) == 35) = false) ∧ pathC c = false) ∨
    ((33 : Int) ≤ c.toNat ∧ (c.toNat : Int) ≤ 126 ∧ (((c.toNat : Int) == 63) = false) ∧ (((c.toNat : Int) == 35) = true) ∧ pathC c = false) ∨ ((33 : Int) ≤ c.toNat ∧ (c.toNat : Int) ≤ 126 ∧ (((c.toNat : Int) == 63) = false) ∧ (((c.toNat : Int) == 35) = false) ∧ pathC c = true) := by
  have key : ∀ i : Fin 256, ((i.val : Int) < 33 ∧ pathC (UInt8.ofNat i.val) = false) ∨ ((126 : Int) < i.val ∧ pathC (UInt8.ofNat i.val) = false) ∨ ((33 : Int) ≤ i.val ∧ (i.val : Int) ≤ 126 ∧ (((i.val : Int) == 63) = true) ∧ (((i.val : Int) == 35) = false) ∧ pathC (UInt8.ofNat i.val) = false) ∨
    ((33 : Int) ≤ i.val ∧ (i.val : Int) ≤ 126 ∧ (((i.val : Int) == 63) = false) ∧ (((i.val : Int) == 35) = true) ∧ pathC (UInt8.ofNat i.val) = false) ∨ ((33 : Int) ≤ i.val ∧ (i.val : Int) ≤ 126 ∧ (((i.val : Int) == 63) = false) ∧ (((i.val : Int) == 35) = false) ∧ pathC (UInt8.ofNat i.val) = true) := by decide +kernel
  have := key ⟨c.toNat, c.toNat_lt⟩
  simpa using this
/-! ### what a text is read as -/
def afterB (s f : List UInt8) : Bool := decide (f.length ≤ s.length) && sameB (s.take f.length) f
/-- The text of a host, and what stands behind it. -/
def cutHP (s : List UInt8) : List UInt8 × List UInt8 :=
  if Lib.hasPrefix s [91] = true then (if 0 ≤ Lib.indexByte s 93 then (s.take ((Lib.indexByte s 93).toNat + 1), s.drop ((Lib.indexByte s 93).toNat + 1)) else (s, []))
  else if 0 ≤ Lib.indexByte s 58 then (s.take (Lib.indexByte s 58).toNat, s.drop (Lib.indexByte s 58).toNat) else (s, [])
/-- The error, the host, the port. -/
def placeL (s : List UInt8) (port : Int) : Int × GHost × Int :=
  let n := (cutHP s).1
  let b := (cutHP s).2
  if parseOk n = false ∨ (b ≠ [] ∧ b.headD 0 ≠ 58) then (31, zeroH, 0)
  else if b = [] then (0, parseH n, port)
  else if numOk b.tail = false ∨ numV b.tail < 1 ∨ 65535 < numV b.tail then (42, zeroH, 0)
  else (0, parseH n, numV b.tail)
def cutAny (s cs : List UInt8) : Nat := if 0 ≤ Lib.indexAny s cs then (Lib.indexAny s cs).toNat else s.length
def pathOf (s : List UInt8) : List UInt8 := if s.take (cutAny s [63, 35]) = [] then [47] else s.take (cutAny s [63, 35])
/-- The error, the host, the port, the path of what stands behind the scheme. -/
def restL (safe : Bool) (r : List UInt8) : Int × GHost × Int × List UInt8 :=
  let at' := cutAny r [47, 63, 35]
  let p := placeL (r.take at') (usualP safe)
  if p.1 ≠ 0 then (p.1, zeroH, 0, [])
  else if pathOk (pathOf (r.drop at')) = false then (43, zeroH, 0, [])
  else (0, p.2.1, p.2.2, pathOf (r.drop at'))
/-- The error, and what a text is read as. -/
def outOf (safe : Bool) (x : Int × GHost × Int × List UInt8) : Int × (Bool × GHost × Int × List UInt8) := if x.1 = 0 then (0, safe, x.2) else (x.1, false, zeroH, 0, [])
def urlOut (s : List UInt8) : Int × (Bool × GHost × Int × List UInt8) :=
  if afterB s httpsT = true then outOf true (restL true (s.drop 8)) else if afterB s httpT = true then outOf false (restL false (s.drop 7)) else (41, false, zeroH, 0, [])
def asc (c : UInt8) : Bool := decide (c.toNat < 128)
end Go.Proofs.YtmfjabpmhkechaaGreatDoor
