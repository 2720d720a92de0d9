/- Rules of one's own for the walk: strings as lists of bytes. No program in sight. -/
import Derived.WalkKit
import Derived.WalkSpells
import Derived.WalkLawsBesides
import Derived.Lib.Strings
import Derived.Lib.Hide
namespace Go.Proofs.Ytaondmaebgicgaa
open Go Go.RowKit

/-! ### strings as lists of bytes -/
@[go_sem] theorem bs_get (l : List UInt8) (i : Nat) (h : i < (ByteArray.mk l.toArray).size) : (ByteArray.mk l.toArray)[i]'h = l[i]'(by simpa [ByteArray.size] using h) := rfl
@[go_sem] theorem bs_extract (l : List UInt8) (a b : Nat) : (ByteArray.mk l.toArray).extract a b = ⟨((l.drop a).take (b - a)).toArray⟩ := by
  rw [Go.Lib.extract_eq]
@[go_sem high] theorem bs_extract_end (l : List UInt8) (a : Nat) : (ByteArray.mk l.toArray).extract a l.length = ⟨(l.drop a).toArray⟩ := by
  rw [Go.Lib.extract_eq]
  congr 2
  exact List.take_of_length_le (by simp)
@[go_sem] theorem bs_append (a b : List UInt8) : ByteArray.mk a.toArray ++ ByteArray.mk b.toArray = ⟨(a ++ b).toArray⟩ := by
  apply ByteArray.ext
  simp
theorem bs_mk (s : ByteArray) : ∃ l : List UInt8, s = ⟨l.toArray⟩ := ⟨s.data.toList, by cases s; rfl⟩

/-- A byte against a literal, as the walk spells it. -/
theorem u8_lit (c d : UInt8) (k : Int) (h : (d.toNat : Int) = k) : ((c.toNat : Int) == k) = (c == d) := by
  subst h
  rw [Bool.eq_iff_iff, beq_iff_eq, beq_iff_eq, Int.ofNat_inj, UInt8.toNat_inj]
theorem u8_lit_ne (c d : UInt8) (k : Int) (h : (d.toNat : Int) = k) : ((c.toNat : Int) != k) = (c != d) := by
  rw [bne, bne, u8_lit c d k h]
/-- Both tests at once. -/
theorem u8_both (c d : UInt8) (k : Int) (h : (d.toNat : Int) = k) : ((c.toNat : Int) == k) = (c == d) ∧ ((c.toNat : Int) != k) = !(c == d) :=
  ⟨u8_lit c d k h, by rw [bne, u8_lit c d k h]⟩
theorem ret_bool {a b : Bool} (h : a = b) : Ending.returned (.bool a) = .returned (.bool b) := by rw [h]
theorem ret_str {a b : List UInt8} (h : a = b) : Ending.returned (.string ⟨a.toArray⟩) = .returned (.string ⟨b.toArray⟩) := by rw [h]
theorem ret_int {k : IntKind} {a b : Int} (h : a = b) : Ending.returned (.int k a) = .returned (.int k b) := by rw [h]

def strLen : Value → Nat
  | .string s => s.data.size
  | _ => 0
theorem strLen_mk (l : List UInt8) : strLen (.string ⟨l.toArray⟩) = l.length := by simp [strLen]

/-! ### what a contract that makes memory leaves -/
theorem bcell {W w1 : World} (hb : Below W.heap.size W w1) : (∀ b o, b < W.heap.size → w1.cell? ⟨b, o, none⟩ = W.cell? ⟨b, o, none⟩) ∧ (∀ b o, b < W.heap.size → w1.frozen? ⟨b, o, none⟩ = W.frozen? ⟨b, o, none⟩) :=
  ⟨fun b o h => hb.cell (p := ⟨b, o, none⟩) h, fun b o h => hb.frozen (p := ⟨b, o, none⟩) h⟩
end Go.Proofs.Ytaondmaebgicgaa
