/- The walks of V4 and Text4: addresses of four numbers. -/
import Derived.Test.YthklfbakffaioaaDoorAddrQ
import Derived.Test.YthklfbakffaioaaDoorSplitG
import Derived.Test.YthklfbakffaioaaDoorSplitR
import Derived.Test.YthklfbakffaioaaDoorOctetPlain
namespace Go.Proofs.YthklfbakffaioaaDoor
open Go Go.RowKit
set_option maxRecDepth 20000
set_option linter.unusedSimpArgs false
set_option linter.unusedVariables false

theorem ListAt.setCell {α : Type} {c : Cod α} {w : World} {b o : Nat} {xs : List α} (h : ListAt c w b o xs) (a : Addr) (v : Value) (hne : b ≠ a.block) : ListAt c (w.setCell a v) b o xs := fun j u hj => by
  rw [World.cell?_of_block (a := ⟨b, o + j, none⟩) (setCell_other' w a v b hne)]; exact h j u hj
theorem v4A_c {s : List UInt8} (h : v4Ok s = true) (h4 : (splitL 46 s).length = 4) : (u8Cod.encs (v4To (splitL 46 s) 4)).toArray = addrC (v4A s) := by
  rw [v4To_all h4, addrC_encs, v4_yes h]
set_option maxHeartbeats 1000000 in
theorem v4_any (l : List UInt8) (hl : l.length ≤ 4294967280) (m : Int) (w : World) (hm : HasMax m w) :
    Calls Tryd.prog 40 #[.string ⟨l.toArray⟩] w fun e w' => e = .returned (.tuple #[.agg (addrC (v4A l)), .bool (v4Ok l)]) ∧ Below w.heap.size w w' := by
  have HC : Hid (∀ w, HasMax m w → Calls Tryd.prog 16 #[.string ⟨l.toArray⟩, .int .u8 46] w (Gives strCod (splitL 46 l) w)) := fun w hm => split_gives l 46 hl m w hm
  by_cases h4 : (splitL 46 l).length = 4
  · have h4' : (((splitL 46 l).length : Int) != 4) = false := by rw [h4]; rfl
    have HP := Lib.hid (splitL_piece_le 46 l)
    have HN := Lib.hid (splitL_ne 46 l)
    have HBAD : Hid (∀ p ∈ splitL 46 l, octOk p = false → v4Ok l = false ∧ v4A l = zeroA) := fun p hp h => ⟨v4_bad p hp h, v4_no (v4_bad p hp h)⟩
    have HALL : Hid ((splitL 46 l).all octOk = true → v4Ok l = true ∧ (u8Cod.encs (v4To (splitL 46 l) 4)).toArray = addrC (v4A l)) := fun h => ⟨v4_good h4 h, v4A_c (v4_good h4 h) h4⟩
    generalize splitL 46 l = L at *
    generalize v4Ok l = ok at *
    generalize v4A l = A at *
    go_enter Tryd.func40, Tryd.ntmps40
    go_wp2_with (go_at_call 16; refine (HC.out _ (by repeat (first | exact hm | apply HasMax.grown | apply HasMax.alloc | apply HasMax.drew))).mono ?_; intro e w1 hg; obtain ⟨b, o, cap, rfl, hcap, hb1, hlo, hhi, hat⟩ := hg.some HN.out; have HBC := Lib.hid (bel_up (w := w) (by repeat (first | exact Below.refl _ _ | assumption | refine below_grown ?_ (by first | omega | (simp [go_sem]; done) | (simp [go_sem] <;> omega)) _ | refine Below.alloc ?_ (by first | omega | (simp [go_sem]; done) | (simp [go_sem] <;> omega)) _ | refine below_bytesW ?_ (by first | omega | (simp [go_sem]; done) | (simp [go_sem] <;> omega)) _ | refine Below.drew ?_ | refine below_drewN ?_ _)) hb1); have HAT := Lib.hid hat; have HR := Lib.hid (Var.below (Var.new w _ _ rfl rfl : Var (w.alloc _) w.heap.size (u8Cod.encs (List.replicate 16 0))) hb1); clear hg hb1 hat)
    have hs0 := HBC.out.size
    have hs1 := HR.out.lt
    go_loopw [18] (fun i wr => ∃ (k : Nat), k ≤ L.length ∧ i = .int .i64 k ∧ Below w.heap.size w wr ∧ w1.heap.size < wr.heap.size ∧ ListAt strCod wr b o L ∧ Var wr w.heap.size (u8Cod.encs (List.replicate 16 0)) ∧ Var wr w1.heap.size (u8Cod.encs (v4To L k)) ∧ Hid ((L.take k).all octOk = true)) (fun i _ => L.length - (intOf i).toNat)
    case atStart => exact ⟨0, Nat.zero_le _, rfl, HBC.out.alloc (by first | omega | (simp; done) | (simp; omega)) _, by simp [go_sem], HAT.out.below ((Below.refl _ _).alloc (Nat.le_refl _) _), HR.out.alloc _, Var.new _ _ _ rfl rfl, rfl⟩
    case round =>
      obtain ⟨k, hk, rfl, hb, hsz, hat, hr, ha, hinv⟩ := hrel
      have HB := Lib.hid hb
      have HAT := Lib.hid hat
      have HR := Lib.hid hr
      have HA := Lib.hid ha
      have hl16 := v4To_length h4 (h4 ▸ hk : k ≤ 4)
      by_cases hlt : k < L.length
      · have hcell := strAt hat k hlt
        have hx := HP.out _ (List.getElem_mem hlt)
        have HE := Lib.hid (v4To_succ h4 hlt)
        have HAS := Lib.hid (all_take_oct L k hlt)
        have HBK := Lib.hid (HBAD.out _ (List.getElem_mem hlt))
        have hv : ∀ p, hasVar (grown wr p) w.heap.size 16 = true := fun p => (hr.grown p).has rfl
        clear hb hr hat
        generalize L[k]'hlt = x at *
        have HG := Lib.hid (fun w => number_any x (by omega) w)
        rcases octOk_iff x with ⟨h1, h2⟩ | ⟨h1, h3, h2⟩ | ⟨h1, h3, h5, h2⟩
        · obtain ⟨rfl, rfl⟩ := HBK.out h2
          rw [h1] at HG
          clear ha
          go_wp2_with (go_at_call 57; refine (HG.out _).mono ?_; rintro e w1 ⟨rfl, hb1⟩; obtain ⟨p1, rfl⟩ := grown_of hb1; clear hb1)
          exact ret_cell_tmp w.heap.size (addrC zeroA) (.bool false) rfl rfl rfl agg_addr (by simp [go_sem, hv]) (by simp [go_sem, hv]) rfl ⟨rfl, below_setRow (below_grown HB.out HB.out.size _) (Nat.le_refl _) _⟩
        · obtain ⟨rfl, rfl⟩ := HBK.out h2
          rw [h1] at HG
          clear ha
          go_wp2_with (go_at_call 57; refine (HG.out _).mono ?_; rintro e w1 ⟨rfl, hb1⟩; obtain ⟨p1, rfl⟩ := grown_of hb1; clear hb1)
          exact ret_cell_tmp w.heap.size (addrC zeroA) (.bool false) rfl rfl rfl agg_addr (by simp [go_sem, hv]) (by simp [go_sem, hv]) rfl ⟨rfl, below_setRow (below_grown HB.out HB.out.size _) (Nat.le_refl _) _⟩
        · rw [h1] at HG
          have hn : ¬ (255 : Int) < numV x := by omega
          have hcv := octB_int h3 h5
          have hwr : IntKind.u8.wrap (numV x) = ((octB x).toNat : Int) := by rw [hcv]; exact IntWalk.u8_in _ (by omega)
          have hc1 : ∀ p, (grown wr p).cell? ⟨w1.heap.size, 12 + k, none⟩ = some ((u8Cod.encs (v4To L k))[12 + k]'(by rw [u8Len, hl16]; omega)) := fun p => (ha.grown p).cell (12 + k) _
          have hf1 : ∀ p, (grown wr p).frozen? ⟨w1.heap.size, 12 + k, none⟩ = false := fun p => (ha.grown p).free (12 + k)
          clear ha hcv
          generalize (u8Cod.encs (v4To L k))[12 + k]'_ = v1 at *
          generalize numV x = n at *
          go_wp2_with (go_at_call 57; refine (HG.out _).mono ?_; rintro e w1 ⟨rfl, hb1⟩; obtain ⟨p1, rfl⟩ := grown_of hb1; clear hb1)
          go_roundw
          case rel =>
            refine ⟨k + 1, by omega, by go_num, (below_grown HB.out HB.out.size _).setCell (by first | omega | (simp; done) | (simp; omega)) _, by simp [go_sem]; omega, (HAT.out.below (below_grown' _ _)).setCell _ _ (by dsimp only; omega), ((HR.out.grown _).setCell_other _ _ (by dsimp only; omega)), ?_, show _ = true by rw [HAS.out, hinv.out, h2]; rfl⟩
            rw [HE.out, ← u8Set]
            exact (HA.out.grown _).setCell _ _
          case measure => simp [intOf]; omega
      · obtain rfl : k = L.length := by omega
        have hall := hinv.out
        rw [List.take_length] at hall
        obtain ⟨rfl, hA⟩ := HALL.out hall
        rw [h4] at ha
        have h1 : hasRow wr ⟨w1.heap.size, 0, none⟩ 16 = true := ha.hasRow (by rw [u8Len, v4To_length h4 (Nat.le_refl _)])
        have h2 : rowAt wr ⟨w1.heap.size, 0, none⟩ 16 = addrC A := by rw [ha.rowAt (by rw [u8Len, v4To_length h4 (Nat.le_refl _)]), hA]
        have h3 : hasVar wr w.heap.size 16 = true := hr.has rfl
        go_wp2
        exact ret_cell_tmp w.heap.size (addrC A) (.bool true) rfl rfl rfl agg_addr (by simp [go_sem, h3]) (by simp [go_sem, h3]) rfl ⟨rfl, below_setRow HB.out (Nat.le_refl _) _⟩
  · have e := v4_four h4
    have h4' : (((splitL 46 l).length : Int) != 4) = true := by simp; omega
    rw [v4_no e, e]
    generalize splitL 46 l = L at *
    clear e h4
    go_enter Tryd.func40, Tryd.ntmps40
    go_wp2_with (go_at_call 16; refine (HC.out _ (by repeat (first | exact hm | apply HasMax.grown | apply HasMax.alloc | apply HasMax.drew))).mono ?_; intro e w1 hg; obtain ⟨a1, c1, rfl, hc1, hb1, hl1⟩ := hg; obtain ⟨p1, rfl⟩ := grown_of hb1; clear hb1)
    exact ret_cell_tmp w.heap.size (addrC zeroA) (.bool false) rfl rfl rfl agg_addr (by simp [go_sem]) (by simp [go_sem]) rfl ⟨rfl, below_setRow (by repeat (first | exact Below.refl _ _ | assumption | refine below_grown ?_ (by first | omega | (simp [go_sem]; done) | (simp [go_sem] <;> omega)) _ | refine Below.alloc ?_ (by first | omega | (simp [go_sem]; done) | (simp [go_sem] <;> omega)) _ | refine below_bytesW ?_ (by first | omega | (simp [go_sem]; done) | (simp [go_sem] <;> omega)) _ | refine Below.drew ?_ | refine below_drewN ?_ _)) (Nat.le_refl _) _⟩
set_option maxHeartbeats 1000000 in
theorem refV4_any (l : List UInt8) (hl : l.length ≤ 4294967280) (w : World) :
    Calls Tryd.prog 48 #[.string ⟨l.toArray⟩] w fun e w' => e = .returned (.tuple #[.agg (addrC (v4A l)), .bool (v4Ok l)]) ∧ Below w.heap.size w w' := by
  have HC : Hid (∀ w, Calls Tryd.prog 27 #[.string ⟨l.toArray⟩, .int .u8 46] w (Gives strCod (splitL 46 l) w)) := fun w => refSplit_any l 46 hl w
  by_cases h4 : (splitL 46 l).length = 4
  · have h4' : (((splitL 46 l).length : Int) != 4) = false := by rw [h4]; rfl
    have HP := Lib.hid (splitL_piece_le 46 l)
    have HN := Lib.hid (splitL_ne 46 l)
    have HBAD : Hid (∀ p ∈ splitL 46 l, octOk p = false → v4Ok l = false ∧ v4A l = zeroA) := fun p hp h => ⟨v4_bad p hp h, v4_no (v4_bad p hp h)⟩
    have HALL : Hid ((splitL 46 l).all octOk = true → v4Ok l = true ∧ (u8Cod.encs (v4To (splitL 46 l) 4)).toArray = addrC (v4A l)) := fun h => ⟨v4_good h4 h, v4A_c (v4_good h4 h) h4⟩
    generalize splitL 46 l = L at *
    generalize v4Ok l = ok at *
    generalize v4A l = A at *
    go_enter Tryd.func48, Tryd.ntmps48
    go_wp2_with (go_at_call 27; refine (HC.out _).mono ?_; intro e w1 hg; obtain ⟨b, o, cap, rfl, hcap, hb1, hlo, hhi, hat⟩ := hg.some HN.out; have HBC := Lib.hid (bel_up (w := w) (by repeat (first | exact Below.refl _ _ | assumption | refine below_grown ?_ (by first | omega | (simp [go_sem]; done) | (simp [go_sem] <;> omega)) _ | refine Below.alloc ?_ (by first | omega | (simp [go_sem]; done) | (simp [go_sem] <;> omega)) _ | refine below_bytesW ?_ (by first | omega | (simp [go_sem]; done) | (simp [go_sem] <;> omega)) _ | refine Below.drew ?_ | refine below_drewN ?_ _)) hb1); have HAT := Lib.hid hat; have HR := Lib.hid (Var.below (Var.alloc (Var.new w _ _ rfl rfl : Var (w.alloc _) w.heap.size (u8Cod.encs (List.replicate 16 0))) _) hb1); have HA := Lib.hid (Var.below (Var.new (w.alloc _) _ _ rfl (by simp [go_sem]) : Var ((w.alloc _).alloc _) (w.heap.size + 1) (u8Cod.encs (List.replicate 16 0))) hb1); clear hg hb1 hat)
    have hs0 := HBC.out.size
    have hs1 := HA.out.lt
    have hlo2 : w.heap.size + 1 + 1 ≤ b := by have := hlo; simp [go_sem] at this; omega
    go_loopw [6, 7, 8] (fun i _ _ wr => ∃ (k : Nat), k ≤ L.length ∧ i = .int .i64 k ∧ Below w.heap.size w wr ∧ w.heap.size + 1 < wr.heap.size ∧ ListAt strCod wr b o L ∧ Var wr w.heap.size (u8Cod.encs (List.replicate 16 0)) ∧ Var wr (w.heap.size + 1) (u8Cod.encs (v4To L k)) ∧ Hid ((L.take k).all octOk = true)) (fun i _ _ _ => L.length - (intOf i).toNat)
    case atStart => exact ⟨0, Nat.zero_le _, rfl, HBC.out, hs1, HAT.out, HR.out, HA.out, rfl⟩
    case round =>
      obtain ⟨k, hk, rfl, hb, hsz, hat, hr, ha, hinv⟩ := hrel
      have HB := Lib.hid hb
      have HAT := Lib.hid hat
      have HR := Lib.hid hr
      have HA := Lib.hid ha
      have hl16 := v4To_length h4 (h4 ▸ hk : k ≤ 4)
      by_cases hlt : k < L.length
      · have hlt4 : (k : Int) < 4 := by omega
        have hcell := strAt hat k hlt
        have hx := HP.out _ (List.getElem_mem hlt)
        have HE := Lib.hid (v4To_succ h4 hlt)
        have HAS := Lib.hid (all_take_oct L k hlt)
        have HBK := Lib.hid (HBAD.out _ (List.getElem_mem hlt))
        have hv : hasVar wr w.heap.size 16 = true := hr.has rfl
        clear hb hr hat
        generalize L[k]'hlt = x at *
        have HG := Lib.hid (fun w => refNumber_any x (by omega) w)
        rcases octOk_iff x with ⟨h1, h2⟩ | ⟨h1, h3, h2⟩ | ⟨h1, h3, h5, h2⟩
        · obtain ⟨rfl, rfl⟩ := HBK.out h2
          rw [h1] at HG
          clear ha
          go_wp2_with (go_at_call 66; refine (HG.out _).mono ?_; intro e w' h; obtain ⟨rfl, h2⟩ := h; subst w')
          exact ret_cell_tmp w.heap.size (addrC zeroA) (.bool false) rfl rfl rfl agg_addr (by simp [go_sem, hv]) (by simp [go_sem, hv]) rfl ⟨rfl, below_setRow HB.out (Nat.le_refl _) _⟩
        · obtain ⟨rfl, rfl⟩ := HBK.out h2
          rw [h1] at HG
          clear ha
          go_wp2_with (go_at_call 66; refine (HG.out _).mono ?_; intro e w' h; obtain ⟨rfl, h2⟩ := h; subst w')
          exact ret_cell_tmp w.heap.size (addrC zeroA) (.bool false) rfl rfl rfl agg_addr (by simp [go_sem, hv]) (by simp [go_sem, hv]) rfl ⟨rfl, below_setRow HB.out (Nat.le_refl _) _⟩
        · rw [h1] at HG
          have hn : ¬ (255 : Int) < numV x := by omega
          have hcv := octB_int h3 h5
          have hwr : IntKind.u8.wrap (numV x) = ((octB x).toNat : Int) := by rw [hcv]; exact IntWalk.u8_in _ (by omega)
          have hc1 : wr.cell? ⟨w.heap.size + 1, 12 + k, none⟩ = some ((u8Cod.encs (v4To L k))[12 + k]'(by rw [u8Len, hl16]; omega)) := ha.cell (12 + k) _
          have hf1 : wr.frozen? ⟨w.heap.size + 1, 12 + k, none⟩ = false := ha.free (12 + k)
          clear ha hcv
          generalize (u8Cod.encs (v4To L k))[12 + k]'_ = v1 at *
          generalize numV x = n at *
          go_wp2_with (go_at_call 66; refine (HG.out _).mono ?_; intro e w' h; obtain ⟨rfl, h2⟩ := h; subst w')
          go_roundw
          case rel =>
            refine ⟨k + 1, by omega, by go_num, HB.out.setCell (by first | omega | (simp; done) | (simp; omega)) _, by simp [go_sem]; omega, HAT.out.setCell _ _ (by dsimp only; omega), HR.out.setCell_other _ _ (by dsimp only; omega), ?_, show _ = true by rw [HAS.out, hinv.out, h2]; rfl⟩
            rw [HE.out, ← u8Set]
            exact HA.out.setCell _ _
          case measure => simp [intOf]; omega
      · obtain rfl : k = L.length := by omega
        have hlt4 : ¬ (L.length : Int) < 4 := by omega
        have hall := hinv.out
        rw [List.take_length] at hall
        obtain ⟨rfl, hA⟩ := HALL.out hall
        rw [h4] at ha
        have h1 : hasRow wr ⟨w.heap.size + 1, 0, none⟩ 16 = true := ha.hasRow (by rw [u8Len, v4To_length h4 (Nat.le_refl _)])
        have h2 : rowAt wr ⟨w.heap.size + 1, 0, none⟩ 16 = addrC A := by rw [ha.rowAt (by rw [u8Len, v4To_length h4 (Nat.le_refl _)]), hA]
        have h3 : hasVar wr w.heap.size 16 = true := hr.has rfl
        go_wp2
        exact ret_cell_tmp w.heap.size (addrC A) (.bool true) rfl rfl rfl agg_addr (by simp [go_sem, h3]) (by simp [go_sem, h3]) rfl ⟨rfl, below_setRow HB.out (Nat.le_refl _) _⟩
  · have e := v4_four h4
    have h4' : (((splitL 46 l).length : Int) != 4) = true := by simp; omega
    rw [v4_no e, e]
    generalize splitL 46 l = L at *
    clear e h4
    go_enter Tryd.func48, Tryd.ntmps48
    go_wp2_with (go_at_call 27; refine (HC.out _).mono ?_; intro e w1 hg; obtain ⟨a1, c1, rfl, hc1, hb1, hl1⟩ := hg; obtain ⟨p1, rfl⟩ := grown_of hb1; clear hb1)
    exact ret_cell_tmp w.heap.size (addrC zeroA) (.bool false) rfl rfl rfl agg_addr (by simp [go_sem]) (by simp [go_sem]) rfl ⟨rfl, below_setRow (by repeat (first | exact Below.refl _ _ | assumption | refine below_grown ?_ (by first | omega | (simp [go_sem]; done) | (simp [go_sem] <;> omega)) _ | refine Below.alloc ?_ (by first | omega | (simp [go_sem]; done) | (simp [go_sem] <;> omega)) _ | refine below_bytesW ?_ (by first | omega | (simp [go_sem]; done) | (simp [go_sem] <;> omega)) _ | refine Below.drew ?_ | refine below_drewN ?_ _)) (Nat.le_refl _) _⟩
end Go.Proofs.YthklfbakffaioaaDoor
