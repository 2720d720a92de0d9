/- The walks of the document's Split, Lines, Words and Same. -/
import Derived.Test.YtmfjabpmhkechaaGreatDoorBytes
import Derived.Test.YtmfjabpmhkechaaGreatDoorPieces
import Derived.Test.YtmfjabpmhkechaaGreatDoorCod
namespace Go.Proofs.YtmfjabpmhkechaaGreatDoor
open Go Go.RowKit

theorem drop_at (c : UInt8) (l : List UInt8) (f k : Nat) (hf : f ≤ k) (hk : k < l.length) (hc : l[k]'hk = c) : l.drop f = (l.take k).drop f ++ c :: l.drop (k + 1) := by
  have e : l = l.take k ++ (c :: l.drop (k + 1)) := by
    rw [← hc, ← List.drop_eq_getElem_cons hk, List.take_append_drop]
  conv => lhs; rw [e]
  rw [List.drop_append]
  have : f - (l.take k).length = 0 := by rw [List.length_take]; omega
  rw [this, List.drop_zero]
theorem drop_take_swap (l : List UInt8) (f k : Nat) : (l.drop f).take (k - f) = (l.take k).drop f := by
  rw [List.drop_take]
theorem take_succ_drop (l : List UInt8) (f k : Nat) (hf : f ≤ k) (hk : k < l.length) : (l.take (k + 1)).drop f = (l.take k).drop f ++ [l[k]'hk] := by
  rw [List.take_succ_eq_append_getElem hk, List.drop_append]
  have : f - (l.take k).length = 0 := by rw [List.length_take]; omega
  rw [this, List.drop_zero]
def SplitInv (c : UInt8) (l : List UInt8) (P : List (List UInt8)) (f k : Nat) : Prop := splitL c l = P ++ splitL c (l.drop f) ∧ c ∉ (l.take k).drop f
theorem SplitInv.hit {c : UInt8} {l : List UInt8} {P : List (List UInt8)} {f k : Nat} (h : SplitInv c l P f k) (hf : f ≤ k) (hk : k < l.length) (hc : l[k]'hk = c) : SplitInv c l (P ++ [(l.drop f).take (k - f)]) (k + 1) (k + 1) := by
  obtain ⟨h1, h2⟩ := h
  refine ⟨?_, by simp⟩
  rw [drop_take_swap, h1, drop_at c l f k hf hk hc, splitL_append c _ _ h2]
  simp
theorem SplitInv.miss {c : UInt8} {l : List UInt8} {P : List (List UInt8)} {f k : Nat} (h : SplitInv c l P f k) (hf : f ≤ k) (hk : k < l.length) (hc : l[k]'hk ≠ c) : SplitInv c l P f (k + 1) := by
  obtain ⟨h1, h2⟩ := h
  refine ⟨h1, ?_⟩
  rw [take_succ_drop l f k hf hk, List.mem_append]
  rintro (h | h)
  · exact h2 h
  · exact hc (List.mem_singleton.1 h).symm
theorem SplitInv.done {c : UInt8} {l : List UInt8} {P : List (List UInt8)} {f : Nat} (h : SplitInv c l P f l.length) : P ++ [l.drop f] = splitL c l := by
  obtain ⟨h1, h2⟩ := h
  rw [List.take_length] at h2
  rw [h1, splitL_none c _ h2]

set_option maxHeartbeats 400000 in
theorem refSplit_any (l : List UInt8) (c : UInt8) (hl : l.length ≤ 4294967280) (w : World) :
    Calls Tryz.prog 28 #[.string ⟨l.toArray⟩, .int .u8 (c.toNat : Int)] w (Gives strCod (splitL c l) w) := by
  go_enter Tryz.func28, Tryz.ntmps28
  go_wp2
  go_loopw [5, 6, 7] (fun out fr i wr => ∃ (P : List (List UInt8)) (f k : Nat), f ≤ k ∧ k ≤ l.length ∧ P.length ≤ f ∧ fr = .int .i64 f ∧ i = .int .i64 k ∧ Below w.heap.size w wr ∧ Own strCod (From w.heap.size) wr out P ∧ SplitInv c l P f k) (fun _ _ i _ => l.length - (intOf i).toNat)
  case atStart => exact ⟨[], 0, 0, Nat.le_refl _, Nat.zero_le _, Nat.le_refl _, rfl, rfl, (by repeat (first | exact Below.refl _ _ | assumption | refine below_grown ?_ (by first | omega | (simp [go_sem]; done) | (simp [go_sem] <;> omega)) _ | refine Below.alloc ?_ (by first | omega | (simp [go_sem]; done) | (simp [go_sem] <;> omega)) _ | refine below_bytesW ?_ (by first | omega | (simp [go_sem]; done) | (simp [go_sem] <;> omega)) _ | refine Below.drew ?_ | refine below_drewN ?_ _)), Own.made0 (Nat.le_refl _) rfl, rfl, by simp⟩
  case round =>
    obtain ⟨P, f, k, hf, hk, hP, rfl, rfl, hb, ho, hv⟩ := hrel
    have hsz := hb.size
    have HB := Lib.hid hb
    have HO := Lib.hid ho
    clear hb ho
    by_cases hlt : k < l.length
    · by_cases hc : l[k]'hlt = c
      · have HV := Lib.hid (hv.hit hf hlt hc)
        have hc' : ∀ h, l[k]'h = c := fun _ => hc
        clear hv hc
        go_wp2_with (at_builtin; refine wpList_append_list rfl strCod (.tmp 20) (.tmp 25) 46 rfl rfl (From w.heap.size) _ _ (P) rfl (HO.out.alloc _) _ 0 _ _ [(l.drop f).take (k - f)] rfl rfl (listAt_new _ _ [_] _ rfl (by first | rfl | (simp [go_sem]; done))) (by first | omega | (simp; done) | (simp; omega) | (simp [go_sem]; done) | (simp [go_sem]; omega) | (simp [strCod]; omega)) (by first | omega | (simp; done) | (simp; omega) | (simp [go_sem]; done) | (simp [go_sem]; omega) | (simp [strCod]; omega)) (by first | (show _ ≤ _; first | omega | (simp; omega) | (simp [go_sem]; omega)) | (show _ ∨ _; right; first | omega | (simp; omega) | (simp [go_sem]; omega))) ?_; intro v' w1 ho1 hb1; have HO1 := Lib.hid ho1; have HB1 := Lib.hid hb1; clear ho1 hb1)
        go_roundw
        case rel => exact ⟨_, k + 1, k + 1, Nat.le_refl _, by omega, by simp; omega, by go_num, by go_num, (HB.out.alloc (by first | omega | (simp; done) | (simp; omega) | (simp [go_sem]; done) | (simp [go_sem]; omega) | (simp [strCod]; omega)) _).trans (HB1.out.below_from (by first | omega | (simp; done) | (simp; omega) | (simp [go_sem]; done) | (simp [go_sem]; omega) | (simp [strCod]; omega))), HO1.out, HV.out⟩
        case measure => simp [intOf]; omega
      · have HV := Lib.hid (hv.miss hf hlt hc)
        have hc' : ∀ h, (((l[k]'h).toNat : Int) == (c.toNat : Int)) = false := fun h => by
          rw [u8_lit _ c _ rfl]; simpa using hc
        clear hv hc
        go_wp2
        go_roundw
        case rel => exact ⟨P, f, k + 1, by omega, by omega, hP, rfl, by go_num, HB.out, HO.out, HV.out⟩
        case measure => simp [intOf]; omega
    · obtain rfl : k = l.length := by omega
      have HV := Lib.hid hv.done
      clear hv
      go_wp2_with (at_builtin; refine wpList_append_list rfl strCod (.tmp 29) (.tmp 33) 46 rfl rfl (From w.heap.size) _ _ (P) rfl (HO.out.alloc _) _ 0 _ _ [l.drop f] rfl rfl (listAt_new _ _ [_] _ rfl (by first | rfl | (simp [go_sem]; done))) (by first | omega | (simp; done) | (simp; omega) | (simp [go_sem]; done) | (simp [go_sem]; omega) | (simp [strCod]; omega)) (by first | omega | (simp; done) | (simp; omega) | (simp [go_sem]; done) | (simp [go_sem]; omega) | (simp [strCod]; omega)) (by first | (show _ ≤ _; first | omega | (simp; omega) | (simp [go_sem]; omega)) | (show _ ∨ _; right; first | omega | (simp; omega) | (simp [go_sem]; omega))) ?_; intro v' w1 ho1 hb1; have HO1 := Lib.hid ho1; have HB1 := Lib.hid hb1; clear ho1 hb1)
      go_ret
      rw [← HV.out]
      exact HO1.out.gives (fun _ h => h) ((HB.out.alloc (by first | omega | (simp; done) | (simp; omega) | (simp [go_sem]; done) | (simp [go_sem]; omega) | (simp [strCod]; omega)) _).trans (HB1.out.below_from (by first | omega | (simp; done) | (simp; omega) | (simp [go_sem]; done) | (simp [go_sem]; omega) | (simp [strCod]; omega))))
end Go.Proofs.YtmfjabpmhkechaaGreatDoor
