/- The walk of the document's eight groups. -/
import Derived.Test.YthklfbakffaioaaDoorAddrV4n
import Derived.Test.YthklfbakffaioaaDoorAddrRefDn
namespace Go.Proofs.YthklfbakffaioaaDoor
open Go Go.RowKit
set_option maxRecDepth 20000
set_option linter.unusedSimpArgs false
set_option linter.unusedVariables false

theorem eight_c {s : List UInt8} (h8 : (splitL 58 s).length = 8) (h : (splitL 58 s).all grpOk = true) : eightOk s = true ∧ (u8Cod.encs (fromTo ((splitL 58 s).map grpR) 8)).toArray = addrC (eightA s) := by
  have hg : ((splitL 58 s).map grpR).length = 8 := by rw [List.length_map, h8]
  obtain ⟨h1, h2⟩ := eight_yes (eight_good h8 h) hg
  refine ⟨h1, ?_⟩
  rw [h2, addrC_encs, fromTo_all _ hg]; rfl
theorem grp_len {x : List UInt8} (h : grpOk x = true) : 1 ≤ x.length ∧ x.length ≤ 4 := by
  unfold grpOk at h
  simp only [Bool.and_eq_true, decide_eq_true_eq] at h
  exact ⟨h.1, h.2.1⟩
theorem grp_short {x : List UInt8} (h : ¬ (1 ≤ x.length ∧ x.length ≤ 4)) : grpOk x = false := by
  cases hg : grpOk x
  · rfl
  · exact absurd (grp_len hg) h
theorem grp_all {x : List UInt8} (h1 : 1 ≤ x.length) (h2 : x.length ≤ 4) (h : hexAll x = true) : grpOk x = true := by
  rw [grpOk, h]; simp [h1, h2]
theorem hexN_hi {x : List UInt8} (h : grpOk x = true) : hexN x < 65536 ∧ IntKind.u8.wrap ((hexN x / 256 : Nat) : Int) = ((hiB (grpR x)).toNat : Int) ∧ IntKind.u8.wrap ((hexN x % 256 : Nat) : Int) = ((loB (grpR x)).toNat : Int) := by
  have h4 := (grp_len h).2
  have hn := grpV_nat x h4
  have hlt := hexN_lt' x h4
  rw [grp_yes h]
  refine ⟨hlt, ?_, ?_⟩
  · rw [IntWalk.u8_in _ (by omega), hiB_nat, hn]
  · rw [IntWalk.u8_in _ (by omega), loB_nat, hn]
set_option maxHeartbeats 2000000 in
theorem eight_any (l : List UInt8) (hl : l.length ≤ 4294967280) (w : World) :
    Calls Tryd.prog 65 #[.string ⟨l.toArray⟩] w fun e w' => e = .returned (.tuple #[.agg (addrC (eightA l)), .bool (eightOk l)]) ∧ Below w.heap.size w w' := by
  have HC : Hid (∀ w, Calls Tryd.prog 27 #[.string ⟨l.toArray⟩, .int .u8 58] w (Gives strCod (splitL 58 l) w)) := fun w => refSplit_any l 58 hl w
  by_cases h8 : (splitL 58 l).length = 8
  · have h8' : (((splitL 58 l).length : Int) != 8) = false := by rw [h8]; rfl
    have HP := Lib.hid (splitL_piece_le 58 l)
    have HN := Lib.hid (splitL_ne 58 l)
    have HBAD : Hid (∀ p ∈ splitL 58 l, grpOk p = false → eightOk l = false ∧ eightA l = zeroA) := fun p hp h => eight_no (eight_badP p hp h)
    have HALL : Hid ((splitL 58 l).all grpOk = true → eightOk l = true ∧ (u8Cod.encs (fromTo ((splitL 58 l).map grpR) 8)).toArray = addrC (eightA l)) := fun h => eight_c h8 h
    generalize splitL 58 l = L at *
    generalize eightOk l = ok at *
    generalize eightA l = A at *
    have hg8 : (L.map grpR).length = 8 := by rw [List.length_map, h8]
    go_enter Tryd.func65, Tryd.ntmps65
    go_wp2_with (go_at_call 27; refine (HC.out _).mono ?_; intro e w1 hg; obtain ⟨b, o, cap, rfl, hcap, hb1, hlo, hhi, hat⟩ := hg.some HN.out; have HBC := Lib.hid (bel_up (w := w) (by repeat (first | exact Below.refl _ _ | assumption | refine below_grown ?_ (by first | omega | (simp [go_sem]; done) | (simp [go_sem] <;> omega)) _ | refine Below.alloc ?_ (by first | omega | (simp [go_sem]; done) | (simp [go_sem] <;> omega)) _ | refine below_bytesW ?_ (by first | omega | (simp [go_sem]; done) | (simp [go_sem] <;> omega)) _ | refine Below.drew ?_ | refine below_drewN ?_ _)) hb1); have HAT := Lib.hid hat; have HR := Lib.hid (Var.below (Var.alloc (Var.new w _ _ rfl rfl : Var (w.alloc _) w.heap.size (u8Cod.encs (List.replicate 16 0))) _) hb1); have HA := Lib.hid (Var.below (Var.new (w.alloc _) _ _ rfl (by simp [go_sem]) : Var ((w.alloc _).alloc _) (w.heap.size + 1) (u8Cod.encs (List.replicate 16 0))) hb1); clear hg hb1 hat)
    have hs0 := HBC.out.size
    have hs1 := HA.out.lt
    have hlo2 : w.heap.size + 1 + 1 ≤ b := by have := hlo; simp [go_sem] at this; omega
    go_loopw [6, 7, 8, 9] (fun i _ _ _ wr => ∃ (k : Nat), k ≤ L.length ∧ i = .int .i64 k ∧ Below w.heap.size w wr ∧ w.heap.size + 1 < wr.heap.size ∧ ListAt strCod wr b o L ∧ Var wr w.heap.size (u8Cod.encs (List.replicate 16 0)) ∧ Var wr (w.heap.size + 1) (u8Cod.encs (fromTo (L.map grpR) k)) ∧ Hid ((L.take k).all grpOk = true)) (fun i _ _ _ _ => L.length - (intOf i).toNat)
    case atStart => exact ⟨0, Nat.zero_le _, rfl, HBC.out, hs1, HAT.out, HR.out, by rw [fromTo_zero]; exact HA.out, rfl⟩
    case round =>
      obtain ⟨k, hk, rfl, hb, hsz, hat, hr, ha, hinv⟩ := hrel
      have HB := Lib.hid hb
      have HAT := Lib.hid hat
      have HR := Lib.hid hr
      have HA := Lib.hid ha
      have hl16 := fromTo_length _ hg8 k (h8 ▸ hk : k ≤ 8)
      by_cases hlt : k < L.length
      · have hlt8 : (k : Int) < 8 := by omega
        have hcell := strAt hat k hlt
        have hx := HP.out _ (List.getElem_mem hlt)
        have HE := Lib.hid (fromTo_succ (L.map grpR) hg8 k (by omega))
        have HAS := Lib.hid (all_take_grp L k hlt)
        have HBK := Lib.hid (HBAD.out _ (List.getElem_mem hlt))
        rw [List.getElem_map] at HE
        have hv : hasVar wr w.heap.size 16 = true := hr.has rfl
        have hc1 : wr.cell? ⟨w.heap.size + 1, 2 * k, none⟩ = some ((u8Cod.encs (fromTo (L.map grpR) k))[2 * k]'(by rw [u8Len, hl16]; omega)) := ha.cell (2 * k) _
        have hc2 : wr.cell? ⟨w.heap.size + 1, 2 * k + 1, none⟩ = some ((u8Cod.encs (fromTo (L.map grpR) k))[2 * k + 1]'(by rw [u8Len, hl16]; omega)) := ha.cell (2 * k + 1) _
        have hf1 : wr.frozen? ⟨w.heap.size + 1, 2 * k, none⟩ = false := ha.free (2 * k)
        have hf2 : wr.frozen? ⟨w.heap.size + 1, 2 * k + 1, none⟩ = false := ha.free (2 * k + 1)
        clear hb hr hat ha
        generalize (u8Cod.encs (fromTo (L.map grpR) k))[2 * k]'_ = v1 at *
        generalize (u8Cod.encs (fromTo (L.map grpR) k))[2 * k + 1]'_ = v2 at *
        generalize L[k]'hlt = x at *
        by_cases hx1 : (x.length : Int) < 1
        · obtain ⟨rfl, rfl⟩ := HBK.out (grp_short (by omega))
          go_wp2
          exact ret_cell_tmp w.heap.size (addrC zeroA) (.bool false) rfl rfl rfl agg_addr (by simp [go_sem, hv]) (by simp [go_sem, hv]) rfl ⟨rfl, below_setRow HB.out (Nat.le_refl _) _⟩
        by_cases hx4 : (4 : Int) < x.length
        · obtain ⟨rfl, rfl⟩ := HBK.out (grp_short (by omega))
          go_wp2
          exact ret_cell_tmp w.heap.size (addrC zeroA) (.bool false) rfl rfl rfl agg_addr (by simp [go_sem, hv]) (by simp [go_sem, hv]) rfl ⟨rfl, below_setRow HB.out (Nat.le_refl _) _⟩
        have hx1' : 1 ≤ x.length := by omega
        have hx4' : x.length ≤ 4 := by omega
        go_wp2
        obtain ⟨wo, hwo⟩ : ∃ wo : World, wo = wr := ⟨_, rfl⟩
        go_loop [7, 8, 9] (fun n i _ => ∃ (j : Nat), j ≤ x.length ∧ i = .int .i64 j ∧ n = .int .i64 (hexN (x.take j)) ∧ Hid (hexAll (x.take j) = true)) (fun _ i _ => x.length - (intOf i).toNat)
        case atStart => exact ⟨0, Nat.zero_le _, rfl, rfl, rfl⟩
        case round =>
          obtain ⟨j, hj, rfl, rfl, hinv2⟩ := hrel
          by_cases hlj : j < x.length
          · have HD := Lib.hid (digit02_any (x[j]'hlj))
            have HT := Lib.hid (hexN_take x j hlj)
            have HS := Lib.hid (all_take_hex x j hlj)
            have hd16 := hexD_lt (x[j]'hlj)
            have hN := hexN_small x j hlj hx4'
            have HBG : Hid (hexD (x[j]'hlj) < 0 → grpOk x = false) := fun h => hexAll_get x j hlj h
            obtain ⟨c, hcc⟩ : ∃ c, ∀ h, x[j]'h = c := ⟨x[j]'hlj, fun _ => rfl⟩
            rw [hcc] at HD HT HS hd16 HBG
            generalize hexN (x.take j) = n at *
            by_cases hd0 : hexD c < 0
            · obtain ⟨rfl, rfl⟩ := HBK.out (HBG.out hd0)
              go_wp2_with (go_at_call 82; refine (HD.out _).mono ?_; intro e w' h; obtain ⟨rfl, h2⟩ := h; subst w')
              exact ret_cell_tmp w.heap.size (addrC zeroA) (.bool false) rfl rfl rfl agg_addr (by simp [go_sem, hv]) (by simp [go_sem, hv]) rfl ⟨rfl, below_setRow HB.out (Nat.le_refl _) _⟩
            · have hd0' : decide (0 ≤ hexD c) = true := decide_eq_true (by omega)
              generalize hexD c = d at *
              go_wp2_with (go_at_call 82; refine (HD.out _).mono ?_; intro e w' h; obtain ⟨rfl, h2⟩ := h; subst w')
              go_round
              case rel => exact ⟨j + 1, by omega, by go_num, by rw [HT.out]; go_num, show _ = true by rw [HS.out, hinv2.out, hd0']; rfl⟩
              case measure => simp [intOf]; omega
          · obtain rfl : j = x.length := by omega
            have hall := hinv2.out
            rw [List.take_length] at hall ⊢
            have hok := grp_all hx1' hx4' hall
            obtain ⟨hn, hh, hlo'⟩ := hexN_hi hok
            have hq : (hexN x : Int).tdiv 256 = ((hexN x / 256 : Nat) : Int) := tdiv_nat _ 256
            have hm : (hexN x : Int).tmod 256 = ((hexN x % 256 : Nat) : Int) := tmod_nat _ 256
            have HOK := Lib.hid hok
            clear hok hall hinv2
            have hq2 : hexN x / 256 < 256 := by omega
            have hm2 : hexN x % 256 < 256 := by omega
            generalize hexN x / 256 = q at *
            generalize hexN x % 256 = r at *
            generalize hexN x = n at *
            have hwq : IntKind.i64.wrap (q : Int) = (q : Int) := IntWalk.i64_in _ (by omega)
            go_wp2
            go_roundw
            case rel =>
              refine ⟨k + 1, by omega, by go_num, (HB.out.setCell (by first | omega | (simp; done) | (simp; omega)) _).setCell (by first | omega | (simp; done) | (simp; omega)) _, by simp [go_sem]; omega, (HAT.out.setCell _ _ (by dsimp only; omega)).setCell _ _ (by dsimp only; omega), (HR.out.setCell_other _ _ (by dsimp only; omega)).setCell_other _ _ (by dsimp only; omega), ?_, show _ = true by rw [HAS.out, hinv.out, HOK.out]; rfl⟩
              rw [HE.out, ← u8Set, ← u8Set, ← hh, ← hlo']
              exact (HA.out.setCell _ _).setCell _ _
            case measure => simp [intOf]; omega
      · obtain rfl : k = L.length := by omega
        have hlt8 : ¬ (L.length : Int) < 8 := by omega
        have hall := hinv.out
        rw [List.take_length] at hall
        obtain ⟨rfl, hA⟩ := HALL.out hall
        rw [h8] at ha
        have h1 : hasRow wr ⟨w.heap.size + 1, 0, none⟩ 16 = true := ha.hasRow (by rw [u8Len, fromTo_length _ hg8 8 (Nat.le_refl _)])
        have h2 : rowAt wr ⟨w.heap.size + 1, 0, none⟩ 16 = addrC A := by rw [ha.rowAt (by rw [u8Len, fromTo_length _ hg8 8 (Nat.le_refl _)]), hA]
        have h3 : hasVar wr w.heap.size 16 = true := hr.has rfl
        go_wp2
        exact ret_cell_tmp w.heap.size (addrC A) (.bool true) rfl rfl rfl agg_addr (by simp [go_sem, h3]) (by simp [go_sem, h3]) rfl ⟨rfl, below_setRow HB.out (Nat.le_refl _) _⟩
  · obtain ⟨e1, e2⟩ := eight_no (eight_not8 h8)
    have h8' : (((splitL 58 l).length : Int) != 8) = true := by simp; omega
    rw [e1, e2]
    generalize splitL 58 l = L at *
    clear e1 e2 h8
    go_enter Tryd.func65, Tryd.ntmps65
    go_wp2_with (go_at_call 27; refine (HC.out _).mono ?_; intro e w1 hg; obtain ⟨a1, c1, rfl, hc1, hb1, hl1⟩ := hg; obtain ⟨p1, rfl⟩ := grown_of hb1; clear hb1)
    exact ret_cell_tmp w.heap.size (addrC zeroA) (.bool false) rfl rfl rfl agg_addr (by simp [go_sem]) (by simp [go_sem]) rfl ⟨rfl, below_setRow (by repeat (first | exact Below.refl _ _ | assumption | refine below_grown ?_ (by first | omega | (simp [go_sem]; done) | (simp [go_sem] <;> omega)) _ | refine Below.alloc ?_ (by first | omega | (simp [go_sem]; done) | (simp [go_sem] <;> omega)) _ | refine below_bytesW ?_ (by first | omega | (simp [go_sem]; done) | (simp [go_sem] <;> omega)) _ | refine Below.drew ?_ | refine below_drewN ?_ _)) (Nat.le_refl _) _⟩
end Go.Proofs.YthklfbakffaioaaDoor
