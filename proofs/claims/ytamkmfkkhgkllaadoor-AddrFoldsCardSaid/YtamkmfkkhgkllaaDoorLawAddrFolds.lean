/- The walk of the statement AddrFolds. -/
import Derived.Test.YtamkmfkkhgkllaaDoorAddrAlive
namespace Go.Proofs.YtamkmfkkhgkllaaDoor
open Go Go.RowKit
set_option maxRecDepth 20000
set_option linter.unusedSimpArgs false
set_option linter.unusedVariables false

def upC (c : UInt8) : UInt8 := if 97 ≤ c ∧ c ≤ 102 then c - 32 else c
def upL (l : List UInt8) : List UInt8 := l.map upC
theorem upC_all (c : UInt8) : lowC (upC c) = lowC c ∧ (upC c = 58 ↔ c = 58) := by
  have key : ∀ i : Fin 256, lowC (upC (UInt8.ofNat i.val)) = lowC (UInt8.ofNat i.val) ∧ (upC (UInt8.ofNat i.val) = 58 ↔ UInt8.ofNat i.val = 58) := by decide +kernel
  have := key ⟨c.toNat, c.toNat_lt⟩
  simpa using this
theorem split_up : ∀ l, splitL 58 (upL l) = (splitL 58 l).map upL
  | [] => rfl
  | x :: l => by
    have ih := split_up l
    have e : upL (x :: l) = upC x :: upL l := rfl
    rw [e]
    by_cases h : x = 58
    · rw [splitL, if_pos ((upC_all x).2.2 h), splitL, if_pos h, ih]; rfl
    · rw [splitL, if_neg (fun h' => h ((upC_all x).2.1 h')), splitL, if_neg h, ih]
      rcases hs : splitL 58 l with _ | ⟨p, ps⟩
      · exact absurd hs (splitL_ne 58 l)
      · rfl
theorem hexD_up (c : UInt8) : hexD (upC c) = hexD c := by rw [hexD, hexD, (upC_all c).1]
theorem upL_length (l : List UInt8) : (upL l).length = l.length := by simp [upL]
theorem grpOk_up (l : List UInt8) : grpOk (upL l) = grpOk l := by
  rw [grpOk, grpOk, upL_length]
  congr 2
  rw [hexAll, hexAll, upL, List.all_map]
  congr 1
  funext c
  simp [hexD_up]
theorem grpV_up (l : List UInt8) : grpV (upL l) = grpV l := by
  rw [grpV, grpV, hexN, hexN, upL, List.foldl_map]
  congr 1
  congr 1
  funext n c
  rw [hexD_up]
theorem rowL_up (l : List UInt8) : rowL (upL l) = rowL l := by
  unfold rowL
  rw [split_up]
  by_cases h : l = []
  · subst h; rfl
  · have h' : upL l ≠ [] := by intro e; apply h; have := congrArg List.length e; rw [upL_length] at this; exact List.length_eq_zero_iff.1 this
    rw [if_neg h, if_neg h', List.all_map, List.map_map]
    have e1 : (grpOk ∘ upL) = grpOk := funext grpOk_up
    have e2 : (grpV ∘ upL) = grpV := funext grpV_up
    rw [e1, e2]
theorem gap_up : ∀ l, gapAt (upL l) = gapAt l
  | [] => rfl
  | c :: l => by
    have ih := gap_up l
    have e : upL (c :: l) = upC c :: upL l := rfl
    rw [e, gap_cons, gap_cons, ih]
    have e1 : (upC c == 58) = (c == 58) := by rw [Bool.eq_iff_iff, beq_iff_eq, beq_iff_eq]; exact (upC_all c).2
    have e2 : ((upL l).head? == some 58) = (l.head? == some 58) := by
      cases l with
      | nil => rfl
      | cons d l =>
        show (some (upC d) == some 58) = (some d == some 58)
        rw [Bool.eq_iff_iff, beq_iff_eq, beq_iff_eq, Option.some.injEq, Option.some.injEq]
        exact (upC_all d).2
    rw [e1, e2]
theorem v6_up (l : List UInt8) : v6L (upL l) = v6L l := by
  unfold v6L
  rw [gap_up, rowL_up]
  have e1 : ∀ k, (upL l).take k = upL (l.take k) := fun k => by simp [upL, List.map_take]
  have e2 : ∀ k, (upL l).drop k = upL (l.drop k) := fun k => by simp [upL, List.map_drop]
  rw [e1, e2, rowL_up, rowL_up]
theorem v6_upA (l : List UInt8) : v6Ok (upL l) = v6Ok l ∧ v6A (upL l) = v6A l := by
  have h := v6_up l
  cases hv : v6L l with
  | none =>
    obtain ⟨a1, a2⟩ := v6_no hv
    obtain ⟨b1, b2⟩ := v6_no (h.trans hv)
    exact ⟨b1.trans a1.symm, b2.trans a2.symm⟩
  | some g =>
    have hg := v6L_length l g hv
    obtain ⟨a1, a2⟩ := v6_yes hv hg
    obtain ⟨b1, b2⟩ := v6_yes (h.trans hv) hg
    exact ⟨b1.trans a1.symm, b2.trans a2.symm⟩
/-- The first k letters folded. -/
def upTo (l : List UInt8) (k : Nat) : List UInt8 := (l.take k).map upC ++ l.drop k
theorem upTo_length (l : List UInt8) (k : Nat) : (upTo l k).length = l.length := by simp [upTo]; omega
theorem upTo_at (l : List UInt8) (k : Nat) (hk : k ≤ l.length) (j : Nat) : (upTo l k)[j]? = if j < k then (l[j]?).map upC else l[j]? := by
  rw [upTo, List.getElem?_append, List.length_map, List.length_take, Nat.min_eq_left hk]
  split
  · rw [List.getElem?_map, List.getElem?_take, if_pos (by assumption)]
  · rw [List.getElem?_drop]; congr 1; omega
theorem upTo_get (l : List UInt8) (k : Nat) (h : k < l.length) (h' : k < (upTo l k).length) : (upTo l k)[k]'h' = l[k]'h := by
  have := upTo_at l k (by omega) k
  rw [if_neg (by omega), List.getElem?_eq_getElem h', List.getElem?_eq_getElem h] at this
  exact Option.some.inj this
theorem upTo_succ (l : List UInt8) (k : Nat) (h : k < l.length) : upTo l (k + 1) = (upTo l k).set k (upC (l[k]'h)) := by
  apply List.ext_getElem?
  intro j
  rw [upTo_at l (k + 1) (by omega), List.getElem?_set, upTo_length, upTo_at l k (by omega)]
  by_cases e : k = j
  · subst e
    rw [if_pos (by omega), if_pos rfl, if_pos h, List.getElem?_eq_getElem h]; rfl
  · rw [if_neg e]
    by_cases hj : j < k
    · rw [if_pos (by omega), if_pos hj]
    · rw [if_neg (by omega), if_neg hj]
theorem upTo_same (l : List UInt8) (k : Nat) (h : k < l.length) (hc : upC (l[k]'h) = l[k]'h) : upTo l (k + 1) = upTo l k := by
  rw [upTo_succ l k h, hc]
  apply List.ext_getElem
  · simp
  · intro j h1 h2
    rw [List.getElem_set]
    split
    · rename_i e; subst e; rw [upTo_get l k h]
    · rfl
theorem upTo_all (l : List UInt8) : upTo l l.length = upL l := by simp [upTo, upL]
theorem upC_yes {c : UInt8} (h1 : (97 : Int) ≤ c.toNat) (h2 : (c.toNat : Int) ≤ 102) : ((upC c).toNat : Int) = (c.toNat : Int) - 32 := by
  have key : ∀ i : Fin 256, 97 ≤ i.val → i.val ≤ 102 → (upC (UInt8.ofNat i.val)).toNat = i.val - 32 := by decide +kernel
  have := key ⟨c.toNat, c.toNat_lt⟩ (by simpa using (by omega : 97 ≤ c.toNat)) (by simpa using (by omega : c.toNat ≤ 102))
  simp at this
  omega
theorem upC_no {c : UInt8} (h : ¬ ((97 : Int) ≤ c.toNat ∧ (c.toNat : Int) ≤ 102)) : upC c = c :=
  if_neg fun h' => h ⟨by have := UInt8.le_iff_toNat_le.1 h'.1; have e : (97 : UInt8).toNat = 97 := rfl; omega, by have := UInt8.le_iff_toNat_le.1 h'.2; have e : (102 : UInt8).toNat = 102 := rfl; omega⟩
set_option maxHeartbeats 1000000 in
theorem folds_law (l : List UInt8) (hl : l.length ≤ maxLen) (m : Int) (w : World) (hm : HasMax m w) (htz : HasTz w) :
    Calls Tryd.prog 5 #[.string ⟨l.toArray⟩] w fun e w' => e = .returned (.bool true) ∧ Below w.heap.size w w' := by
  unfold maxLen at hl
  by_cases h1 : 200 < l.length
  · go_enter Tryd.func5, Tryd.ntmps5
    go_wp2_with (go_at_call 11; refine (addrAlive_any m _ hm htz).mono ?_; rintro e w1 ⟨rfl, hb1⟩; obtain ⟨p1, rfl⟩ := grown_of hb1; clear hb1)
    go_ret
    exact ⟨rfl, (by repeat (first | exact Below.refl _ _ | assumption | refine below_grown ?_ (by first | omega | (simp [go_sem]; done) | (simp [go_sem] <;> omega)) _ | refine Below.alloc ?_ (by first | omega | (simp [go_sem]; done) | (simp [go_sem] <;> omega)) _ | refine below_bytesW ?_ (by first | omega | (simp [go_sem]; done) | (simp [go_sem] <;> omega)) _ | refine Below.drew ?_ | refine below_drewN ?_ _))⟩
  · have HV : Hid (∀ w, HasMax m w → Calls Tryd.prog 15 #[.string ⟨l.toArray⟩] w fun e w' => e = .returned (.tuple #[.agg (addrC (v6A l)), .bool (v6Ok l)]) ∧ Below w.heap.size w w') := fun w hm => v6_any l (by omega) m w hm
    have HU : Hid (∀ w, HasMax m w → Calls Tryd.prog 15 #[.string ⟨(upL l).toArray⟩] w fun e w' => e = .returned (.tuple #[.agg (addrC (v6A l)), .bool (v6Ok l)]) ∧ Below w.heap.size w w') := fun w hm => by
      have := v6_any (upL l) (by rw [upL_length]; omega) m w hm
      rwa [(v6_upA l).1, (v6_upA l).2] at this
    have he : addrEq (v6A l) (v6A l) = true := (addrEq_iff _ _).2 rfl
    have hul : (upL l).length = l.length := upL_length l
    have HUA := Lib.hid (upTo_all l)
    generalize v6A l = A0 at *
    generalize v6Ok l = ok at *
    go_enter Tryd.func5, Tryd.ntmps5
    go_wp2_with (go_at_call 11; refine (addrAlive_any m _ hm htz).mono ?_; rintro e w1 ⟨rfl, hb1⟩; obtain ⟨p1, rfl⟩ := grown_of hb1; clear hb1)
    go_loopw [19] (fun i wr => ∃ k : Nat, k ≤ l.length ∧ i = .int .i64 k ∧ Below w.heap.size w wr ∧ HasMax m wr ∧ isOld (w.heap.size + p1.os.size) wr = true ∧ bytesAt wr ⟨w.heap.size + p1.os.size, 0, none⟩ (upTo l k) ∧ (∀ j, j < l.length → wr.frozen? ⟨w.heap.size + p1.os.size, j, none⟩ = false)) (fun i _ => l.length - (intOf i).toNat)
    case atStart =>
      refine ⟨0, Nat.zero_le _, rfl, (by repeat (first | exact Below.refl _ _ | assumption | refine below_grown ?_ (by first | omega | (simp [go_sem]; done) | (simp [go_sem] <;> omega)) _ | refine Below.alloc ?_ (by first | omega | (simp [go_sem]; done) | (simp [go_sem] <;> omega)) _ | refine below_bytesW ?_ (by first | omega | (simp [go_sem]; done) | (simp [go_sem] <;> omega)) _ | refine Below.drew ?_ | refine below_drewN ?_ _)), (hm.grown _).bytesW _, by simp [go_sem], ?_, fun j hj => ?_⟩
      · have := bytesAt_bytesW (grown w p1) l
        rw [size_grown] at this
        simpa [upTo] using this
      · have := frozen_bytesW (grown w p1) l j hj
        rwa [size_grown] at this
    case round =>
      obtain ⟨k, hk, rfl, hb, hmr, ho, hby, hfr⟩ := hrel
      have hgrow : w.heap.size + p1.os.size < wr.heap.size := isOld_iff.1 ho
      by_cases hlt : k < l.length
      · have hcell : wr.cell? ⟨w.heap.size + p1.os.size, k, none⟩ = some (.int .u8 ((l[k]'hlt).toNat : Int)) := by
          have := bytesAt_get hby k (by rw [upTo_length]; exact hlt)
          rwa [upTo_get l k hlt, Nat.zero_add] at this
        have hz := hfr k hlt
        have HBY := Lib.hid hby
        have HFR := Lib.hid hfr
        have HS := Lib.hid (upTo_succ l k hlt)
        have HSM := Lib.hid (upTo_same l k hlt)
        have hmg : 0 < w.heap.size := hm.lt
        clear hby hfr
        generalize l[k]'hlt = c at *
        by_cases hc1 : (97 : Int) ≤ c.toNat
        · by_cases hc2 : (c.toNat : Int) ≤ 102
          · have HC := Lib.hid (upC_yes hc1 hc2)
            go_wp2
            go_roundw
            case rel =>
              refine ⟨k + 1, by omega, by go_num, hb.setCell (Nat.le_add_right _ _) _, ?_, by simp [go_sem, ho], ?_, fun j hj => ?_⟩
              · unfold HasMax at hmr ⊢
                rw [World.cell?_setCell_other _ _ _ _ (by intro e; have := congrArg Addr.block e; dsimp only at this; omega)]
                exact hmr
              · rw [HS.out]
                have := bytesAt_set HBY.out k (by rw [upTo_length]; exact hlt) (upC c)
                rw [HC.out, Nat.zero_add] at this
                exact this
              · rw [World.frozen?_setCell]; exact HFR.out j hj
            case measure => simp [intOf]; omega
          · have HC := Lib.hid (HSM.out (upC_no (by omega)))
            go_wp2
            go_roundw
            case rel => exact ⟨k + 1, by omega, by go_num, hb, hmr, ho, by rw [HC.out]; exact HBY.out, HFR.out⟩
            case measure => simp [intOf]; omega
        · have HC := Lib.hid (HSM.out (upC_no (by omega)))
          go_wp2
          go_roundw
          case rel => exact ⟨k + 1, by omega, by go_num, hb, hmr, ho, by rw [HC.out]; exact HBY.out, HFR.out⟩
          case measure => simp [intOf]; omega
      · obtain rfl : k = l.length := by omega
        have hs : strOf wr (.slice (some ⟨w.heap.size + p1.os.size, 0, none⟩) l.length (bytesCap (grown w p1) l)) = some (upL l) := by
          rw [HUA.out] at hby
          have := strOf_bytes hby (bytesCap (grown w p1) l)
          rwa [hul] at this
        have HSTR := Lib.hid hs
        have hbs := hb.size
        clear hby hfr hs
        have hs1 : ∀ p : Regrown, ∀ o : Obj, strOf ((grown wr p).alloc o) (.slice (some ⟨w.heap.size + p1.os.size, 0, none⟩) l.length (bytesCap (grown w p1) l)) = some (upL l) := fun p o => strOf_below HSTR.out (by rw [isOld_iff] at ho; exact ho) ((below_grown (Below.refl _ _) (Nat.le_refl _) p).alloc (by simp [go_sem]) o)
        go_wp2_with (first
          | (go_at_call 15; (with_reducible refine (HV.out _ (by repeat (first | exact hmr | apply HasMax.grown | apply HasMax.alloc))).mono ?_); rintro e w1 ⟨rfl, hb1⟩; obtain ⟨p1, rfl⟩ := grown_of hb1; clear hb1)
          | (go_at_call 15; (with_reducible refine (HU.out _ (by repeat (first | exact hmr | apply HasMax.grown | apply HasMax.alloc))).mono ?_); rintro e w1 ⟨rfl, hb1⟩; obtain ⟨p1, rfl⟩ := grown_of hb1; clear hb1))
        go_ret
        exact ⟨by simp, (by repeat (first | exact Below.refl _ _ | assumption | refine below_grown ?_ (by first | omega | (simp [go_sem]; done) | (simp [go_sem] <;> omega)) _ | refine Below.alloc ?_ (by first | omega | (simp [go_sem]; done) | (simp [go_sem] <;> omega)) _ | refine below_bytesW ?_ (by first | omega | (simp [go_sem]; done) | (simp [go_sem] <;> omega)) _ | refine Below.drew ?_ | refine below_drewN ?_ _))⟩
end Go.Proofs.YtamkmfkkhgkllaaDoor
