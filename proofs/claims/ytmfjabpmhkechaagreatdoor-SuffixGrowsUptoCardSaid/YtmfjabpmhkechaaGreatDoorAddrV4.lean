/- The walks of V4 and Text4: addresses of four numbers. -/
import Derived.Test.YtmfjabpmhkechaaGreatDoorAddrQ
import Derived.Test.YtmfjabpmhkechaaGreatDoorDec
import Derived.Test.YtmfjabpmhkechaaGreatDoorJoin
import Derived.Test.YtmfjabpmhkechaaGreatDoorSplitG
import Derived.Test.YtmfjabpmhkechaaGreatDoorSplitR
import Derived.Test.YtmfjabpmhkechaaGreatDoorAddrRefD
import Derived.Test.YtmfjabpmhkechaaGreatDoorOctetPlain
namespace Go.Proofs.YtmfjabpmhkechaaGreatDoor
open Go Go.RowKit
set_option maxRecDepth 20000
set_option linter.unusedSimpArgs false
set_option linter.unusedVariables false

theorem ListAt.setCell {α : Type} {c : Cod α} {w : World} {b o : Nat} {xs : List α} (h : ListAt c w b o xs) (a : Addr) (v : Value) (hne : b ≠ a.block) : ListAt c (w.setCell a v) b o xs := fun j u hj => by
  rw [World.cell?_of_block (a := ⟨b, o + j, none⟩) (setCell_other' w a v b hne)]; exact h j u hj
theorem v4A_c {s : List UInt8} (h : v4Ok s = true) (h4 : (splitL 46 s).length = 4) : (u8Cod.encs (v4To (splitL 46 s) 4)).toArray = addrC (v4A s) := by
  rw [v4To_all h4, addrC_encs, v4_yes h]
set_option maxHeartbeats 1000000 in
theorem v4_any (l : List UInt8) (hl : l.length ≤ 4294967280) (m : Int) (w : World) (hm : HasMax m w) :
    Calls Tryz.prog 74 #[.string ⟨l.toArray⟩] w fun e w' => e = .returned (.tuple #[.agg (addrC (v4A l)), .bool (v4Ok l)]) ∧ Below w.heap.size w w' := by
  have HC : Hid (∀ w, HasMax m w → Calls Tryz.prog 50 #[.string ⟨l.toArray⟩, .int .u8 46] w (Gives strCod (splitL 46 l) w)) := fun w hm => split_gives l 46 hl m w hm
  by_cases h4 : (splitL 46 l).length = 4
  · have h4' : (((splitL 46 l).length : Int) != 4) = false := by rw [h4]; rfl
    have HP := Lib.hid (splitL_piece_le 46 l)
    have HN := Lib.hid (splitL_ne 46 l)
    have HBAD : Hid (∀ p ∈ splitL 46 l, octOk p = false → v4Ok l = false ∧ v4A l = zeroA) := fun p hp h => ⟨v4_bad p hp h, v4_no (v4_bad p hp h)⟩
    have HALL : Hid ((splitL 46 l).all octOk = true → v4Ok l = true ∧ (u8Cod.encs (v4To (splitL 46 l) 4)).toArray = addrC (v4A l)) := fun h => ⟨v4_good h4 h, v4A_c (v4_good h4 h) h4⟩
    generalize splitL 46 l = L at *
    generalize v4Ok l = ok at *
    generalize v4A l = A at *
    go_enter Tryz.func74, Tryz.ntmps74
    go_wp2_with (go_at_call 50; refine (HC.out _ (by repeat (first | exact hm | apply HasMax.grown | apply HasMax.alloc | apply HasMax.drew))).mono ?_; intro e w1 hg; obtain ⟨b, o, cap, rfl, hcap, hb1, hlo, hhi, hat⟩ := hg.some HN.out; have HBC := Lib.hid (bel_up (w := w) (by repeat (first | exact Below.refl _ _ | assumption | refine below_grown ?_ (by first | omega | (simp [go_sem]; done) | (simp [go_sem] <;> omega)) _ | refine Below.alloc ?_ (by first | omega | (simp [go_sem]; done) | (simp [go_sem] <;> omega)) _ | refine below_bytesW ?_ (by first | omega | (simp [go_sem]; done) | (simp [go_sem] <;> omega)) _ | refine Below.drew ?_ | refine below_drewN ?_ _)) hb1); have HAT := Lib.hid hat; have HR := Lib.hid (Var.below (Var.new w _ _ rfl rfl : Var (w.alloc _) w.heap.size (u8Cod.encs (List.replicate 16 0))) hb1); clear hg hb1 hat)
    have hs0 := HBC.out.size
    have hs1 := HR.out.lt
    go_loopw [18] (fun i wr => ∃ (k : Nat), k ≤ L.length ∧ i = .int .i64 k ∧ Below w.heap.size w wr ∧ w1.heap.size < wr.heap.size ∧ ListAt strCod wr b o L ∧ Var wr w.heap.size (u8Cod.encs (List.replicate 16 0)) ∧ Var wr w1.heap.size (u8Cod.encs (v4To L k)) ∧ Hid ((L.take k).all octOk = true)) (fun i _ => L.length - (intOf i).toNat)
    case atStart => exact ⟨0, Nat.zero_le _, rfl, HBC.out.alloc (by first | omega | (simp; done) | (simp; omega)) _, by simp [go_sem], HAT.out.below ((Below.refl _ _).alloc (Nat.le_refl _) _), HR.out.alloc _, Var.new _ _ _ rfl rfl, rfl⟩
    case round =>
      obtain ⟨k, hk, rfl, hb, hsz, hat, hr, ha, hinv⟩ := hrel
      have HB := Lib.hid hb
      have HAT := Lib.hid hat
      have HR := Lib.hid hr
      have HA := Lib.hid ha
      have hl16 := v4To_length h4 (h4 ▸ hk : k ≤ 4)
      by_cases hlt : k < L.length
      · have hcell := strAt hat k hlt
        have hx := HP.out _ (List.getElem_mem hlt)
        have HE := Lib.hid (v4To_succ h4 hlt)
        have HAS := Lib.hid (all_take_oct L k hlt)
        have HBK := Lib.hid (HBAD.out _ (List.getElem_mem hlt))
        have hv : ∀ p, hasVar (grown wr p) w.heap.size 16 = true := fun p => (hr.grown p).has rfl
        clear hb hr hat
        generalize L[k]'hlt = x at *
        have HG := Lib.hid (fun w => number_any x (by omega) w)
        rcases octOk_iff x with ⟨h1, h2⟩ | ⟨h1, h3, h2⟩ | ⟨h1, h3, h5, h2⟩
        · obtain ⟨rfl, rfl⟩ := HBK.out h2
          rw [h1] at HG
          clear ha
          go_wp2_with (go_at_call 104; refine (HG.out _).mono ?_; rintro e w1 ⟨rfl, hb1⟩; obtain ⟨p1, rfl⟩ := grown_of hb1; clear hb1)
          exact ret_cell_tmp w.heap.size (addrC zeroA) (.bool false) rfl rfl rfl agg_addr (by simp [go_sem, hv]) (by simp [go_sem, hv]) rfl ⟨rfl, below_setRow (below_grown HB.out HB.out.size _) (Nat.le_refl _) _⟩
        · obtain ⟨rfl, rfl⟩ := HBK.out h2
          rw [h1] at HG
          clear ha
          go_wp2_with (go_at_call 104; refine (HG.out _).mono ?_; rintro e w1 ⟨rfl, hb1⟩; obtain ⟨p1, rfl⟩ := grown_of hb1; clear hb1)
          exact ret_cell_tmp w.heap.size (addrC zeroA) (.bool false) rfl rfl rfl agg_addr (by simp [go_sem, hv]) (by simp [go_sem, hv]) rfl ⟨rfl, below_setRow (below_grown HB.out HB.out.size _) (Nat.le_refl _) _⟩
        · rw [h1] at HG
          have hn : ¬ (255 : Int) < numV x := by omega
          have hcv := octB_int h3 h5
          have hwr : IntKind.u8.wrap (numV x) = ((octB x).toNat : Int) := by rw [hcv]; exact IntWalk.u8_in _ (by omega)
          have hc1 : ∀ p, (grown wr p).cell? ⟨w1.heap.size, 12 + k, none⟩ = some ((u8Cod.encs (v4To L k))[12 + k]'(by rw [u8Len, hl16]; omega)) := fun p => (ha.grown p).cell (12 + k) _
          have hf1 : ∀ p, (grown wr p).frozen? ⟨w1.heap.size, 12 + k, none⟩ = false := fun p => (ha.grown p).free (12 + k)
          clear ha hcv
          generalize (u8Cod.encs (v4To L k))[12 + k]'_ = v1 at *
          generalize numV x = n at *
          go_wp2_with (go_at_call 104; refine (HG.out _).mono ?_; rintro e w1 ⟨rfl, hb1⟩; obtain ⟨p1, rfl⟩ := grown_of hb1; clear hb1)
          go_roundw
          case rel =>
            refine ⟨k + 1, by omega, by go_num, (below_grown HB.out HB.out.size _).setCell (by first | omega | (simp; done) | (simp; omega)) _, by simp [go_sem]; omega, (HAT.out.below (below_grown' _ _)).setCell _ _ (by dsimp only; omega), ((HR.out.grown _).setCell_other _ _ (by dsimp only; omega)), ?_, show _ = true by rw [HAS.out, hinv.out, h2]; rfl⟩
            rw [HE.out, ← u8Set]
            exact (HA.out.grown _).setCell _ _
          case measure => simp [intOf]; omega
      · obtain rfl : k = L.length := by omega
        have hall := hinv.out
        rw [List.take_length] at hall
        obtain ⟨rfl, hA⟩ := HALL.out hall
        rw [h4] at ha
        have h1 : hasRow wr ⟨w1.heap.size, 0, none⟩ 16 = true := ha.hasRow (by rw [u8Len, v4To_length h4 (Nat.le_refl _)])
        have h2 : rowAt wr ⟨w1.heap.size, 0, none⟩ 16 = addrC A := by rw [ha.rowAt (by rw [u8Len, v4To_length h4 (Nat.le_refl _)]), hA]
        have h3 : hasVar wr w.heap.size 16 = true := hr.has rfl
        go_wp2
        exact ret_cell_tmp w.heap.size (addrC A) (.bool true) rfl rfl rfl agg_addr (by simp [go_sem, h3]) (by simp [go_sem, h3]) rfl ⟨rfl, below_setRow HB.out (Nat.le_refl _) _⟩
  · have e := v4_four h4
    have h4' : (((splitL 46 l).length : Int) != 4) = true := by simp; omega
    rw [v4_no e, e]
    generalize splitL 46 l = L at *
    clear e h4
    go_enter Tryz.func74, Tryz.ntmps74
    go_wp2_with (go_at_call 50; refine (HC.out _ (by repeat (first | exact hm | apply HasMax.grown | apply HasMax.alloc | apply HasMax.drew))).mono ?_; intro e w1 hg; obtain ⟨a1, c1, rfl, hc1, hb1, hl1⟩ := hg; obtain ⟨p1, rfl⟩ := grown_of hb1; clear hb1)
    exact ret_cell_tmp w.heap.size (addrC zeroA) (.bool false) rfl rfl rfl agg_addr (by simp [go_sem]) (by simp [go_sem]) rfl ⟨rfl, below_setRow (by repeat (first | exact Below.refl _ _ | assumption | refine below_grown ?_ (by first | omega | (simp [go_sem]; done) | (simp [go_sem] <;> omega)) _ | refine Below.alloc ?_ (by first | omega | (simp [go_sem]; done) | (simp [go_sem] <;> omega)) _ | refine below_bytesW ?_ (by first | omega | (simp [go_sem]; done) | (simp [go_sem] <;> omega)) _ | refine Below.drew ?_ | refine below_drewN ?_ _)) (Nat.le_refl _) _⟩
set_option maxHeartbeats 1000000 in
theorem refV4_any (l : List UInt8) (hl : l.length ≤ 4294967280) (w : World) :
    Calls Tryz.prog 40 #[.string ⟨l.toArray⟩] w fun e w' => e = .returned (.tuple #[.agg (addrC (v4A l)), .bool (v4Ok l)]) ∧ Below w.heap.size w w' := by
  have HC : Hid (∀ w, Calls Tryz.prog 28 #[.string ⟨l.toArray⟩, .int .u8 46] w (Gives strCod (splitL 46 l) w)) := fun w => refSplit_any l 46 hl w
  by_cases h4 : (splitL 46 l).length = 4
  · have h4' : (((splitL 46 l).length : Int) != 4) = false := by rw [h4]; rfl
    have HP := Lib.hid (splitL_piece_le 46 l)
    have HN := Lib.hid (splitL_ne 46 l)
    have HBAD : Hid (∀ p ∈ splitL 46 l, octOk p = false → v4Ok l = false ∧ v4A l = zeroA) := fun p hp h => ⟨v4_bad p hp h, v4_no (v4_bad p hp h)⟩
    have HALL : Hid ((splitL 46 l).all octOk = true → v4Ok l = true ∧ (u8Cod.encs (v4To (splitL 46 l) 4)).toArray = addrC (v4A l)) := fun h => ⟨v4_good h4 h, v4A_c (v4_good h4 h) h4⟩
    generalize splitL 46 l = L at *
    generalize v4Ok l = ok at *
    generalize v4A l = A at *
    go_enter Tryz.func40, Tryz.ntmps40
    go_wp2_with (go_at_call 28; refine (HC.out _).mono ?_; intro e w1 hg; obtain ⟨b, o, cap, rfl, hcap, hb1, hlo, hhi, hat⟩ := hg.some HN.out; have HBC := Lib.hid (bel_up (w := w) (by repeat (first | exact Below.refl _ _ | assumption | refine below_grown ?_ (by first | omega | (simp [go_sem]; done) | (simp [go_sem] <;> omega)) _ | refine Below.alloc ?_ (by first | omega | (simp [go_sem]; done) | (simp [go_sem] <;> omega)) _ | refine below_bytesW ?_ (by first | omega | (simp [go_sem]; done) | (simp [go_sem] <;> omega)) _ | refine Below.drew ?_ | refine below_drewN ?_ _)) hb1); have HAT := Lib.hid hat; have HR := Lib.hid (Var.below (Var.alloc (Var.new w _ _ rfl rfl : Var (w.alloc _) w.heap.size (u8Cod.encs (List.replicate 16 0))) _) hb1); have HA := Lib.hid (Var.below (Var.new (w.alloc _) _ _ rfl (by simp [go_sem]) : Var ((w.alloc _).alloc _) (w.heap.size + 1) (u8Cod.encs (List.replicate 16 0))) hb1); clear hg hb1 hat)
    have hs0 := HBC.out.size
    have hs1 := HA.out.lt
    have hlo2 : w.heap.size + 1 + 1 ≤ b := by have := hlo; simp [go_sem] at this; omega
    go_loopw [6, 7, 8] (fun i _ _ wr => ∃ (k : Nat), k ≤ L.length ∧ i = .int .i64 k ∧ Below w.heap.size w wr ∧ w.heap.size + 1 < wr.heap.size ∧ ListAt strCod wr b o L ∧ Var wr w.heap.size (u8Cod.encs (List.replicate 16 0)) ∧ Var wr (w.heap.size + 1) (u8Cod.encs (v4To L k)) ∧ Hid ((L.take k).all octOk = true)) (fun i _ _ _ => L.length - (intOf i).toNat)
    case atStart => exact ⟨0, Nat.zero_le _, rfl, HBC.out, hs1, HAT.out, HR.out, HA.out, rfl⟩
    case round =>
      obtain ⟨k, hk, rfl, hb, hsz, hat, hr, ha, hinv⟩ := hrel
      have HB := Lib.hid hb
      have HAT := Lib.hid hat
      have HR := Lib.hid hr
      have HA := Lib.hid ha
      have hl16 := v4To_length h4 (h4 ▸ hk : k ≤ 4)
      by_cases hlt : k < L.length
      · have hlt4 : (k : Int) < 4 := by omega
        have hcell := strAt hat k hlt
        have hx := HP.out _ (List.getElem_mem hlt)
        have HE := Lib.hid (v4To_succ h4 hlt)
        have HAS := Lib.hid (all_take_oct L k hlt)
        have HBK := Lib.hid (HBAD.out _ (List.getElem_mem hlt))
        have hv : hasVar wr w.heap.size 16 = true := hr.has rfl
        clear hb hr hat
        generalize L[k]'hlt = x at *
        have HG := Lib.hid (fun w => refNumber_any x (by omega) w)
        rcases octOk_iff x with ⟨h1, h2⟩ | ⟨h1, h3, h2⟩ | ⟨h1, h3, h5, h2⟩
        · obtain ⟨rfl, rfl⟩ := HBK.out h2
          rw [h1] at HG
          clear ha
          go_wp2_with (go_at_call 58; refine (HG.out _).mono ?_; intro e w' h; obtain ⟨rfl, h2⟩ := h; subst w')
          exact ret_cell_tmp w.heap.size (addrC zeroA) (.bool false) rfl rfl rfl agg_addr (by simp [go_sem, hv]) (by simp [go_sem, hv]) rfl ⟨rfl, below_setRow HB.out (Nat.le_refl _) _⟩
        · obtain ⟨rfl, rfl⟩ := HBK.out h2
          rw [h1] at HG
          clear ha
          go_wp2_with (go_at_call 58; refine (HG.out _).mono ?_; intro e w' h; obtain ⟨rfl, h2⟩ := h; subst w')
          exact ret_cell_tmp w.heap.size (addrC zeroA) (.bool false) rfl rfl rfl agg_addr (by simp [go_sem, hv]) (by simp [go_sem, hv]) rfl ⟨rfl, below_setRow HB.out (Nat.le_refl _) _⟩
        · rw [h1] at HG
          have hn : ¬ (255 : Int) < numV x := by omega
          have hcv := octB_int h3 h5
          have hwr : IntKind.u8.wrap (numV x) = ((octB x).toNat : Int) := by rw [hcv]; exact IntWalk.u8_in _ (by omega)
          have hc1 : wr.cell? ⟨w.heap.size + 1, 12 + k, none⟩ = some ((u8Cod.encs (v4To L k))[12 + k]'(by rw [u8Len, hl16]; omega)) := ha.cell (12 + k) _
          have hf1 : wr.frozen? ⟨w.heap.size + 1, 12 + k, none⟩ = false := ha.free (12 + k)
          clear ha hcv
          generalize (u8Cod.encs (v4To L k))[12 + k]'_ = v1 at *
          generalize numV x = n at *
          go_wp2_with (go_at_call 58; refine (HG.out _).mono ?_; intro e w' h; obtain ⟨rfl, h2⟩ := h; subst w')
          go_roundw
          case rel =>
            refine ⟨k + 1, by omega, by go_num, HB.out.setCell (by first | omega | (simp; done) | (simp; omega)) _, by simp [go_sem]; omega, HAT.out.setCell _ _ (by dsimp only; omega), HR.out.setCell_other _ _ (by dsimp only; omega), ?_, show _ = true by rw [HAS.out, hinv.out, h2]; rfl⟩
            rw [HE.out, ← u8Set]
            exact HA.out.setCell _ _
          case measure => simp [intOf]; omega
      · obtain rfl : k = L.length := by omega
        have hlt4 : ¬ (L.length : Int) < 4 := by omega
        have hall := hinv.out
        rw [List.take_length] at hall
        obtain ⟨rfl, hA⟩ := HALL.out hall
        rw [h4] at ha
        have h1 : hasRow wr ⟨w.heap.size + 1, 0, none⟩ 16 = true := ha.hasRow (by rw [u8Len, v4To_length h4 (Nat.le_refl _)])
        have h2 : rowAt wr ⟨w.heap.size + 1, 0, none⟩ 16 = addrC A := by rw [ha.rowAt (by rw [u8Len, v4To_length h4 (Nat.le_refl _)]), hA]
        have h3 : hasVar wr w.heap.size 16 = true := hr.has rfl
        go_wp2
        exact ret_cell_tmp w.heap.size (addrC A) (.bool true) rfl rfl rfl agg_addr (by simp [go_sem, h3]) (by simp [go_sem, h3]) rfl ⟨rfl, below_setRow HB.out (Nat.le_refl _) _⟩
  · have e := v4_four h4
    have h4' : (((splitL 46 l).length : Int) != 4) = true := by simp; omega
    rw [v4_no e, e]
    generalize splitL 46 l = L at *
    clear e h4
    go_enter Tryz.func40, Tryz.ntmps40
    go_wp2_with (go_at_call 28; refine (HC.out _).mono ?_; intro e w1 hg; obtain ⟨a1, c1, rfl, hc1, hb1, hl1⟩ := hg; obtain ⟨p1, rfl⟩ := grown_of hb1; clear hb1)
    exact ret_cell_tmp w.heap.size (addrC zeroA) (.bool false) rfl rfl rfl agg_addr (by simp [go_sem]) (by simp [go_sem]) rfl ⟨rfl, below_setRow (by repeat (first | exact Below.refl _ _ | assumption | refine below_grown ?_ (by first | omega | (simp [go_sem]; done) | (simp [go_sem] <;> omega)) _ | refine Below.alloc ?_ (by first | omega | (simp [go_sem]; done) | (simp [go_sem] <;> omega)) _ | refine below_bytesW ?_ (by first | omega | (simp [go_sem]; done) | (simp [go_sem] <;> omega)) _ | refine Below.drew ?_ | refine below_drewN ?_ _)) (Nat.le_refl _) _⟩

/-! ### their texts -/
theorem decDigits_decT (n : Nat) (h : n < 256) : Lib.decDigits n = decT n := by
  by_cases h1 : n < 10
  · rw [Lib.decDigits_one h1, decT, if_pos h1]
  · by_cases h2 : n < 100
    · rw [Lib.decDigits_two h1 h2, decT, if_neg h1, if_pos h2]
    · rw [Lib.decDigits, dif_neg h1, Lib.decDigits_two (by omega) (by omega), decT, if_neg h1, if_neg h2, Nat.div_div_eq_div_mul]
      rfl
theorem byte_slice (b : Nat) (w : World) : (Instr.sliceAt 24 (.pointer (some ⟨b, 0, none⟩)) (some (.int .i64 12)) none none).run Tryz.prog w = .ok (.slice (some ⟨b, 12, none⟩) 4 4) w := by
  have ht : Tryz.prog.underlying 24 = some (.array (Tryz.prog.arrayLen 24) (Tryz.prog.elem 24)) := by kernel_rfl
  have hl : Tryz.prog.arrayLen 24 = 16 := by kernel_rfl
  have he : Tryz.prog.elem 24 = 5 := by kernel_rfl
  have hs : ∀ w, (sizeOf 5).run Tryz.prog w = .ok 1 w := fun w => by kernel_rfl
  rw [run_sliceAt_array_l w _ _ ht .i64 _ (by omega) (by rw [hl]; omega), he, hs, hl]
  show Result.ok (slicedAt _ _ 16 16 1) w = _
  simp [slicedAt, add_mk]
set_option maxHeartbeats 1000000 in
theorem text4_any (a : GAddr) (w : World) (hd : HasDec w) :
    Calls Tryz.prog 52 #[.agg (addrC a)] w fun e w' => e = .returned (.string ⟨(text4L a.b).toArray⟩) ∧ Below w.heap.size w w' := by
  have hlen := a.len
  obtain ⟨xs, hxs⟩ : ∃ xs, a.b.drop 12 = xs := ⟨_, rfl⟩
  have hx4 : xs.length = 4 := by rw [← hxs]; simp [hlen]
  have hsl : ∀ (b : Nat) (w : World), (Instr.sliceAt 24 (.pointer (some ⟨b, 0, none⟩)) (some (.int .i64 12)) none none).run Tryz.prog w = .ok (.slice (some ⟨b, 12, none⟩) 4 4) w := byte_slice
  have HV : Hid (Var (w.alloc (Obj.cells (addrC a) 24)) w.heap.size (u8Cod.encs a.b)) := Var.new _ _ _ (by rw [addrC_encs]) rfl
  have HL : Hid (ListAt u8Cod (w.alloc (Obj.cells (addrC a) 24)) w.heap.size 12 xs) := by
    have := HV.out.list.drop 12 (by omega)
    rw [hxs] at this
    exact this
  have HW : Hid (text4L a.b = joinL 46 (xs.map fun c => decT c.toNat)) := by
    show _ = _
    rw [text4L, hxs]
  rw [HW.out]
  have hd1 := HasDec.alloc hd (Obj.cells (addrC a) 24)
  have HD := Lib.hid hd1
  have hl1 : w.heap.size < (w.alloc (Obj.cells (addrC a) 24)).heap.size := by simp [go_sem]
  have HBW : Hid (Below w.heap.size w (w.alloc (Obj.cells (addrC a) 24))) := show Below _ _ _ from (Below.refl _ _).alloc (Nat.le_refl _) _
  generalize addrC a = ac at *
  clear hd hd1 hxs HV HW hlen
  go_enter Tryz.func52, Tryz.ntmps52
  go_wp2
  generalize (w.alloc (Obj.cells ac 24)) = w1 at *
  go_loopw [3, 8] (fun out i wr => ∃ (k : Nat), k ≤ xs.length ∧ i = .int .i64 k ∧ Keeps (From w1.heap.size) w1 wr ∧ Own strCod (From w1.heap.size) wr out ((xs.take k).map fun c => decT c.toNat)) (fun _ i _ => xs.length - (intOf i).toNat)
  case atStart => exact ⟨0, Nat.zero_le _, rfl, Keeps.refl _ _, Own.nil _ _⟩
  case round =>
    obtain ⟨k, hk, rfl, hb, ho⟩ := hrel
    have hsz := hb.size
    have HB := Lib.hid hb
    have HO := Lib.hid ho
    have HBE : Hid (Below w1.heap.size w1 wr) := hb.below_from (Nat.le_refl _)
    by_cases hlt : k < xs.length
    · have hcell := u8At (HL.out.keeps hb hl1 (by intro hn; exact absurd hl1 (Nat.not_lt.2 hn))) k hlt
      have HE := Lib.hid (map_take_succ (fun x : UInt8 => decT x.toNat) xs k hlt)
      have HDC := Lib.hid (HD.out.below HBE.out)
      have hPk : ((xs.take k).map fun x : UInt8 => decT x.toNat).length ≤ k := by simp; omega
      clear hb ho
      generalize xs[k]'hlt = x at *
      generalize (xs.take k).map (fun x : UInt8 => decT x.toNat) = P at *
      have hxn := x.toNat_lt
      have HF := Lib.hid (fun w h => itoa_any x.toNat (by omega) w h)
      rw [decDigits_decT _ hxn] at HF
      go_wp2_with (first | (go_at_call 79; refine (HF.out _ HDC.out).mono ?_; rintro e w1 ⟨rfl, hb1⟩; obtain ⟨p1, rfl⟩ := grown_of hb1; clear hb1) | (at_builtin; refine wpList_append_list rfl strCod (.tmp 12) (.tmp 16) 46 rfl rfl (From w1.heap.size) _ _ (P) rfl ((HO.out.grown _).alloc _) _ 0 _ _ [decT x.toNat] rfl rfl (listAt_new _ _ [_] _ rfl (by first | rfl | (simp [go_sem]; done))) (by first | omega | (simp; done) | (simp; omega) | (simp [go_sem]; done) | (simp [go_sem]; omega) | (simp [strCod]; omega)) (by first | omega | (simp; done) | (simp; omega) | (simp [go_sem]; done) | (simp [go_sem]; omega) | (simp [strCod]; omega)) (by first | (show _ ≤ _; first | omega | (simp; omega) | (simp [go_sem]; omega)) | (show _ ∨ _; right; first | omega | (simp; omega) | (simp [go_sem]; omega))) ?_; intro v' w1 ho1 hb1; have HO1 := Lib.hid ho1; have HB1 := Lib.hid hb1; clear ho1 hb1))
      go_roundw
      case rel => exact ⟨k + 1, by omega, by go_num, ((HB.out.grown _).alloc _).trans HB1.out, by rw [HE.out]; exact HO1.out⟩
      case measure => simp [intOf]; omega
    · obtain rfl : k = xs.length := by omega
      rw [List.take_length] at ho
      obtain ⟨a, c, rfl, hc, hli⟩ := ho.slice (B := w1.heap.size) (fun _ h => h)
      have hjl : (joinL 46 (xs.map fun x => decT x.toNat)).length ≤ 140737488355328 := by
        have := joinL_le 46 (xs.map fun x => decT x.toNat) 3 (fun p hp => by
          simp only [List.mem_map] at hp
          obtain ⟨y, _, rfl⟩ := hp
          exact (decT_ok y).2.2.2)
        rw [List.length_map] at this
        omega
      have HJ := Lib.hid (join_any (xs.map fun x => decT x.toNat) 46 a c w1.heap.size hc (by simp; omega) hjl wr hli)
      clear HO hli hjl
      rw [List.length_map] at HJ hc ⊢
      generalize hT : joinL 46 (xs.map fun x => decT x.toNat) = T at *
      rw [hx4] at HJ hc ⊢
      go_wp2_with (go_at_call 54; refine (HJ.out).mono ?_; rintro e w1 ⟨rfl, hb1⟩; obtain ⟨p1, rfl⟩ := grown_of hb1; clear hb1)
      go_ret
      exact ⟨ret_str hT.symm, below_grown (bel_up HBW.out HBE.out) (Nat.le_trans HBW.out.size HBE.out.size) _⟩
set_option maxHeartbeats 1000000 in
theorem refText4_any (a : GAddr) (w : World) :
    Calls Tryz.prog 42 #[.agg (addrC a)] w fun e w' => e = .returned (.string ⟨(text4L a.b).toArray⟩) ∧ Below w.heap.size w w' := by
  have hlen := a.len
  have HT : Hid (text4L a.b = decT (a.b[12]'(by omega)).toNat ++ [(46 : UInt8)] ++ decT (a.b[13]'(by omega)).toNat ++ [(46 : UInt8)] ++ decT (a.b[14]'(by omega)).toNat ++ [(46 : UInt8)] ++ decT (a.b[15]'(by omega)).toNat) := by
    show _ = _
    obtain ⟨l, hl⟩ := a
    obtain ⟨a, b, c, d, e, f, g, i, j, k, m, n, o, p, q, r, rfl⟩ := list16 l hl
    simp [text4L, joinL]
  have hv : Var (w.alloc (Obj.cells (addrC a) 24)) w.heap.size (u8Cod.encs a.b) := Var.new _ _ _ (by rw [addrC_encs]) rfl
  have hc12 : ∀ p, (grown (w.alloc (Obj.cells (addrC a) 24)) p).cell? ⟨w.heap.size, 12, none⟩ = some (.int .u8 ((a.b[12]'(by omega)).toNat : Int)) := fun p => by
    have := u8At (hv.grown p).list 12 (by omega)
    rwa [Nat.zero_add] at this
  have hd12 : (w.alloc (Obj.cells (addrC a) 24)).cell? ⟨w.heap.size, 12, none⟩ = some (.int .u8 ((a.b[12]'(by omega)).toNat : Int)) := by
    have := u8At hv.list 12 (by omega)
    rwa [Nat.zero_add] at this
  have hc13 : ∀ p, (grown (w.alloc (Obj.cells (addrC a) 24)) p).cell? ⟨w.heap.size, 13, none⟩ = some (.int .u8 ((a.b[13]'(by omega)).toNat : Int)) := fun p => by
    have := u8At (hv.grown p).list 13 (by omega)
    rwa [Nat.zero_add] at this
  have hd13 : (w.alloc (Obj.cells (addrC a) 24)).cell? ⟨w.heap.size, 13, none⟩ = some (.int .u8 ((a.b[13]'(by omega)).toNat : Int)) := by
    have := u8At hv.list 13 (by omega)
    rwa [Nat.zero_add] at this
  have hc14 : ∀ p, (grown (w.alloc (Obj.cells (addrC a) 24)) p).cell? ⟨w.heap.size, 14, none⟩ = some (.int .u8 ((a.b[14]'(by omega)).toNat : Int)) := fun p => by
    have := u8At (hv.grown p).list 14 (by omega)
    rwa [Nat.zero_add] at this
  have hd14 : (w.alloc (Obj.cells (addrC a) 24)).cell? ⟨w.heap.size, 14, none⟩ = some (.int .u8 ((a.b[14]'(by omega)).toNat : Int)) := by
    have := u8At hv.list 14 (by omega)
    rwa [Nat.zero_add] at this
  have hc15 : ∀ p, (grown (w.alloc (Obj.cells (addrC a) 24)) p).cell? ⟨w.heap.size, 15, none⟩ = some (.int .u8 ((a.b[15]'(by omega)).toNat : Int)) := fun p => by
    have := u8At (hv.grown p).list 15 (by omega)
    rwa [Nat.zero_add] at this
  have hd15 : (w.alloc (Obj.cells (addrC a) 24)).cell? ⟨w.heap.size, 15, none⟩ = some (.int .u8 ((a.b[15]'(by omega)).toNat : Int)) := by
    have := u8At hv.list 15 (by omega)
    rwa [Nat.zero_add] at this
  have hl0 := decT_len (a.b[12]'(by omega)).toNat
  have hl1 := decT_len (a.b[13]'(by omega)).toNat
  have hl2 := decT_len (a.b[14]'(by omega)).toNat
  have hl3 := decT_len (a.b[15]'(by omega)).toNat
  have hA := Lib.hid hv
  rw [HT.out]
  clear HT hA hv
  generalize a.b[12]'(by omega) = x0 at *
  generalize a.b[13]'(by omega) = x1 at *
  generalize a.b[14]'(by omega) = x2 at *
  generalize a.b[15]'(by omega) = x3 at *
  generalize hac : addrC a = ac at *
  clear hac
  have HX0 := Lib.hid (fun w => decimal_any x0 w)
  have HX1 := Lib.hid (fun w => decimal_any x1 w)
  have HX2 := Lib.hid (fun w => decimal_any x2 w)
  have HX3 := Lib.hid (fun w => decimal_any x3 w)
  have hw0 : IntKind.i64.wrap (x0.toNat : Int) = (x0.toNat : Int) := IntWalk.i64_in _ (by have := x0.toNat_lt; omega)
  have hw1 : IntKind.i64.wrap (x1.toNat : Int) = (x1.toNat : Int) := IntWalk.i64_in _ (by have := x1.toNat_lt; omega)
  have hw2 : IntKind.i64.wrap (x2.toNat : Int) = (x2.toNat : Int) := IntWalk.i64_in _ (by have := x2.toNat_lt; omega)
  have hw3 : IntKind.i64.wrap (x3.toNat : Int) = (x3.toNat : Int) := IntWalk.i64_in _ (by have := x3.toNat_lt; omega)
  generalize decT x0.toNat = T0 at *
  generalize decT x1.toNat = T1 at *
  generalize decT x2.toNat = T2 at *
  generalize decT x3.toNat = T3 at *
  have hn1 : ¬ 9223372036854775807 < T0.length + 1 := by omega
  have hn2 : ¬ 9223372036854775807 < T0.length + 1 + T1.length := by omega
  have hn3 : ¬ 9223372036854775807 < T0.length + (T1.length + 1) + 1 := by omega
  have hn4 : ¬ 9223372036854775807 < T0.length + (T1.length + 1 + 1) + T2.length := by omega
  have hn5 : ¬ 9223372036854775807 < T0.length + (T1.length + (T2.length + 1) + 1) + 1 := by omega
  have hn6 : ¬ 9223372036854775807 < T0.length + (T1.length + (T2.length + 1 + 1) + 1) + T3.length := by omega
  clear hl0 hl1 hl2 hl3
  go_enter Tryz.func42, Tryz.ntmps42
  go_wp2
  refine wp_region_quiet_grown (by kernel_rfl) (by kernel_rfl) ?_
  repeat (quiet_step ((go_at_call 59; first | (with_reducible exact quiet_grown (HX0.out _)) | (with_reducible exact quiet_grown (HX1.out _)) | (with_reducible exact quiet_grown (HX2.out _)) | (with_reducible exact quiet_grown (HX3.out _)))))
  refine wpQuiet_nil ?_; intro _ hw'; obtain ⟨pq, hw''⟩ := hw'; subst hw''
  go_wp2
  go_ret
  exact ⟨ret_str (by simp), (by repeat (first | exact Below.refl _ _ | assumption | refine below_grown ?_ (by first | omega | (simp [go_sem]; done) | (simp [go_sem] <;> omega)) _ | refine Below.alloc ?_ (by first | omega | (simp [go_sem]; done) | (simp [go_sem] <;> omega)) _ | refine below_bytesW ?_ (by first | omega | (simp [go_sem]; done) | (simp [go_sem] <;> omega)) _ | refine Below.drew ?_ | refine below_drewN ?_ _))⟩
end Go.Proofs.YtmfjabpmhkechaaGreatDoor
