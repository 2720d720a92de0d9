/- Plain words for hosts: labels, what a text is read as, texts, tails, what is below what. -/
import Derived.Test.YtmfjabpmhkechaaGreatDoorHost
import Derived.Test.YtmfjabpmhkechaaGreatDoorAddrQ
import Derived.Test.YtmfjabpmhkechaaGreatDoorOctetPlain
namespace Go.Proofs.YtmfjabpmhkechaaGreatDoor
open Go Go.RowKit
set_option linter.unusedSimpArgs false
set_option linter.unusedVariables false

/-! ### labels -/
def labC (c : UInt8) : Bool := (decide ((97 : Int) ≤ c.toNat) && decide ((c.toNat : Int) ≤ 122)) || ((decide ((48 : Int) ≤ c.toNat) && decide ((c.toNat : Int) ≤ 57)) || (c == 45 || c == 95))
def labOk (x : List UInt8) : Bool := !x.isEmpty && (decide (x.length ≤ 63) && x.all labC)
theorem labOk_ne {x : List UInt8} (h : labOk x = true) : x ≠ [] := by rintro rfl; cases h
/-! ### hosts -/
def zeroH : GHost := ⟨0, [], zeroA, rfl, Nat.zero_le _⟩
def v4H (a : GAddr) : GHost := ⟨2, [], a, rfl, Nat.zero_le _⟩
def v6H (a : GAddr) : GHost := ⟨3, [], a, rfl, Nat.zero_le _⟩
def nameH (n : List UInt8) : GHost := if h : n.length ≤ 253 then ⟨1, n, zeroA, rfl, Nat.le_trans h (by decide)⟩ else zeroH
theorem nameH_eq {n : List UInt8} (h : n.length ≤ 253) : nameH n = ⟨1, n, zeroA, rfl, Nat.le_trans h (by decide)⟩ := dif_pos h
theorem nameH_name {n : List UInt8} (h : n.length ≤ 253) : (nameH n).kind = 1 ∧ (nameH n).name = n ∧ (nameH n).addr = zeroA := by rw [nameH_eq h]; exact ⟨rfl, rfl, rfl⟩
/-! ### what a text is read as -/
def six (s : List UInt8) : Bool := Lib.hasPrefix s [91]
def in1 (s : List UInt8) : List UInt8 := Lib.trimPrefix s [91]
def closedB (s : List UInt8) : Bool := Lib.hasSuffix (in1 s) [93]
def in6 (s : List UInt8) : List UInt8 := Lib.trimSuffix (in1 s) [93]
def labsL (s : List UInt8) : List (List UInt8) := splitL 46 (lowerL s)
def lastL (s : List UInt8) : List UInt8 := (labsL s).getLastD []
def lastD (s : List UInt8) : Bool := digitsB (lastL s)
def nameB (s : List UInt8) : Bool := decide (s.length ≤ 253) && (labsL s).all labOk
def parseOk (s : List UInt8) : Bool := if six s = true then v6Ok (in6 s) && closedB s else if lastD s = true then v4Ok s else nameB s
def parseH (s : List UInt8) : GHost := if parseOk s = true then (if six s = true then v6H (v6A (in6 s)) else if lastD s = true then v4H (v4A s) else nameH (lowerL s)) else zeroH
def parseE (s : List UInt8) : Int := if parseOk s = true then 0 else 31
def addrOk (k : Int) (a : GAddr) (ok : Bool) : GHost := if ok = true then (if k = 2 then v4H a else v6H a) else zeroH
def errOf (ok : Bool) : Int := if ok = true then 0 else 31
theorem parseOk_six {s : List UInt8} (h : six s = true) : parseOk s = (v6Ok (in6 s) && closedB s) := if_pos h
theorem parseOk_four {s : List UInt8} (h : six s = false) (h2 : lastD s = true) : parseOk s = v4Ok s := by
  unfold parseOk; simp [h, h2]
theorem parseOk_name {s : List UInt8} (h : six s = false) (h2 : lastD s = false) : parseOk s = nameB s := by
  unfold parseOk; simp [h, h2]
theorem parse_six {s : List UInt8} (h : six s = true) : parseH s = addrOk 3 (v6A (in6 s)) (v6Ok (in6 s) && closedB s) ∧ parseE s = errOf (v6Ok (in6 s) && closedB s) := by
  unfold parseH parseE
  rw [parseOk_six h, h]
  exact ⟨rfl, rfl⟩
theorem parse_four {s : List UInt8} (h : six s = false) (h2 : lastD s = true) : parseH s = addrOk 2 (v4A s) (v4Ok s) ∧ parseE s = errOf (v4Ok s) := by
  unfold parseH parseE
  rw [parseOk_four h h2, h, h2]
  exact ⟨rfl, rfl⟩
theorem parse_name {s : List UInt8} (h : six s = false) (h2 : lastD s = false) (h3 : nameB s = true) : parseH s = nameH (lowerL s) ∧ parseE s = 0 := by
  unfold parseH parseE
  rw [parseOk_name h h2, h3, h, h2]
  exact ⟨rfl, rfl⟩
theorem parse_none {s : List UInt8} (h : six s = false) (h2 : lastD s = false) (h3 : nameB s = false) : parseH s = zeroH ∧ parseE s = 31 := by
  unfold parseH parseE
  rw [parseOk_name h h2, h3]
  exact ⟨rfl, rfl⟩
theorem nameB_cases (s : List UInt8) : (253 < s.length ∧ nameB s = false) ∨ (s.length ≤ 253 ∧ (labsL s).any (fun x => !labOk x) = true ∧ nameB s = false) ∨ (s.length ≤ 253 ∧ (labsL s).any (fun x => !labOk x) = false ∧ nameB s = true) := by
  by_cases h : s.length ≤ 253
  · have e : (labsL s).all labOk = !(labsL s).any (fun x => !labOk x) := by
      rw [List.all_eq_not_any_not]
    cases ha : (labsL s).any (fun x => !labOk x)
    · exact .inr (.inr ⟨h, rfl, by rw [nameB, e, ha]; simp [h]⟩)
    · exact .inr (.inl ⟨h, rfl, by rw [nameB, e, ha]; simp⟩)
  · exact .inl ⟨by omega, by simp [nameB, h]⟩
theorem labs_join (s : List UInt8) : joinL 46 (labsL s) = lowerL s := join_split 46 _
theorem labs_ne (s : List UInt8) : labsL s ≠ [] := splitL_ne 46 _
theorem lastL_eq (s : List UInt8) (h : (labsL s).length - 1 < (labsL s).length) : (labsL s)[(labsL s).length - 1]'h = lastL s := by
  unfold lastL
  rw [List.getLastD_eq_getLast?, List.getLast?_eq_getElem?, List.getElem?_eq_getElem h]
  rfl
/-! ### texts -/
def textH (h : GHost) : List UInt8 := if h.kind = 1 then h.name else if h.kind = 2 then text4L h.addr.b else if h.kind = 3 then [91] ++ text6L h.addr.b ++ [93] else []
def rightB (h : GHost) : Bool := parseOk (textH h) && hostEq (parseH (textH h)) h
def nameOk (h : GHost) : Bool := h.kind == 1 && rightB h
def labelsL (h : GHost) : List (List UInt8) := if nameOk h = true then splitL 46 h.name else []
def tailOk (h : GHost) (n : Int) : Bool := decide (1 ≤ n) && decide (n ≤ (labelsL h).length)
def tailN (h : GHost) (n : Int) : List UInt8 := joinL 46 ((labelsL h).drop ((labelsL h).length - n.toNat))
def tailH (h : GHost) (n : Int) : GHost := if tailOk h n = true then nameH (tailN h n) else zeroH
def underB (h d : GHost) : Bool := if (labelsL d).length = 0 ∨ (labelsL h).length ≤ (labelsL d).length then false else hostEq (tailH h (labelsL d).length) d
end Go.Proofs.YtmfjabpmhkechaaGreatDoor
