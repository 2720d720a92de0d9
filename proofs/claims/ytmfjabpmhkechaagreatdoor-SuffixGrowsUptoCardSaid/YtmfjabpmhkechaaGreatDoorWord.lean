/- The walks of Word: any bytes as a word. -/
import Derived.Test.YtmfjabpmhkechaaGreatDoorOwnB
namespace Go.Proofs.YtmfjabpmhkechaaGreatDoor
open Go Go.RowKit

def hexCs : List UInt8 := [48, 49, 50, 51, 52, 53, 54, 55, 56, 57, 65, 66, 67, 68, 69, 70]
def hexU (n : Nat) : UInt8 := hexCs.getD n 0
def plainC (c : UInt8) : Bool := decide ((33 : Int) ≤ c.toNat) && (decide ((c.toNat : Int) ≤ 126) && !(c == 37))
def wordC (c : UInt8) : List UInt8 := if plainC c = true then [c] else [37, hexU (c.toNat / 16), hexU (c.toNat % 16)]
def wordBody (l : List UInt8) : List UInt8 := l.flatMap wordC
def wordL (l : List UInt8) : List UInt8 := if l = [] then [37] else wordBody l
theorem bytesAt.drew {w : World} {p : Addr} {l : List UInt8} (h : bytesAt w p l) : bytesAt w.drew p l := h
theorem wordBody_take (l : List UInt8) (k : Nat) (h : k < l.length) : wordBody (l.take (k + 1)) = wordBody (l.take k) ++ wordC (l[k]'h) := by
  rw [wordBody, List.take_succ_eq_append_getElem h, List.flatMap_append]
  simp [wordBody]
theorem hex_at (n : Nat) (h : ((n : Int)).toNat < hexCs.length) : hexCs[((n : Int)).toNat]'h = hexU n := by
  simp only [Int.toNat_natCast] at h ⊢
  rw [hexU, List.getD_eq_getElem?_getD, List.getElem?_eq_getElem h, Option.getD_some]
theorem low_nibble (c : UInt8) : bits .and .u8 (c.toNat : Int) 15 = (c.toNat : Int) % 16 := by
  have : ∀ i : Fin 256, bits .and .u8 (i.val : Int) 15 = (i.val : Int) % 16 := by decide +kernel
  exact this ⟨c.toNat, c.toNat_lt⟩
theorem wordC_length (c : UInt8) : (wordC c).length ≤ 3 := by unfold wordC; split <;> simp
theorem wordBody_length (l : List UInt8) : (wordBody l).length ≤ 3 * l.length := by
  induction l with
  | nil => simp [wordBody]
  | cons c l ih =>
    have : wordBody (c :: l) = wordC c ++ wordBody l := by simp [wordBody]
    rw [this, List.length_append, List.length_cons]
    have := wordC_length c
    omega

end Go.Proofs.YtmfjabpmhkechaaGreatDoor
