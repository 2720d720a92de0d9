/- Merged: AddrEight, AddrRef6, AddrRefT. -/
import Derived.Test.YthklfbakffaioaaGreatDoorAddrV4
import Derived.Test.YthklfbakffaioaaGreatDoorAddrZeros
namespace Go.Proofs.YthklfbakffaioaaGreatDoor
section
open Go Go.RowKit
set_option maxRecDepth 20000
set_option linter.unusedSimpArgs false
set_option linter.unusedVariables false

theorem eight_c {s : List UInt8} (h8 : (splitL 58 s).length = 8) (h : (splitL 58 s).all grpOk = true) : eightOk s = true ∧ (u8Cod.encs (fromTo ((splitL 58 s).map grpR) 8)).toArray = addrC (eightA s) := by
  have hg : ((splitL 58 s).map grpR).length = 8 := by rw [List.length_map, h8]
  obtain ⟨h1, h2⟩ := eight_yes (eight_good h8 h) hg
  refine ⟨h1, ?_⟩
  rw [h2, addrC_encs, fromTo_all _ hg]; rfl
theorem grp_len {x : List UInt8} (h : grpOk x = true) : 1 ≤ x.length ∧ x.length ≤ 4 := by
  unfold grpOk at h
  simp only [Bool.and_eq_true, decide_eq_true_eq] at h
  exact ⟨h.1, h.2.1⟩
theorem grp_short {x : List UInt8} (h : ¬ (1 ≤ x.length ∧ x.length ≤ 4)) : grpOk x = false := by
  cases hg : grpOk x
  · rfl
  · exact absurd (grp_len hg) h
theorem grp_all {x : List UInt8} (h1 : 1 ≤ x.length) (h2 : x.length ≤ 4) (h : hexAll x = true) : grpOk x = true := by
  rw [grpOk, h]; simp [h1, h2]
theorem hexN_hi {x : List UInt8} (h : grpOk x = true) : hexN x < 65536 ∧ IntKind.u8.wrap ((hexN x / 256 : Nat) : Int) = ((hiB (grpR x)).toNat : Int) ∧ IntKind.u8.wrap ((hexN x % 256 : Nat) : Int) = ((loB (grpR x)).toNat : Int) := by
  have h4 := (grp_len h).2
  have hn := grpV_nat x h4
  have hlt := hexN_lt' x h4
  rw [grp_yes h]
  refine ⟨hlt, ?_, ?_⟩
  · rw [IntWalk.u8_in _ (by omega), hiB_nat, hn]
  · rw [IntWalk.u8_in _ (by omega), loB_nat, hn]
set_option maxHeartbeats 2000000 in
theorem eight_any (l : List UInt8) (hl : l.length ≤ 4294967280) (w : World) :
    Calls Tryz.prog 146 #[.string ⟨l.toArray⟩] w fun e w' => e = .returned (.tuple #[.agg (addrC (eightA l)), .bool (eightOk l)]) ∧ Below w.heap.size w w' := by
  have HC : Hid (∀ w, Calls Tryz.prog 62 #[.string ⟨l.toArray⟩, .int .u8 58] w (Gives strCod (splitL 58 l) w)) := fun w => refSplit_any l 58 hl w
  by_cases h8 : (splitL 58 l).length = 8
  · have h8' : (((splitL 58 l).length : Int) != 8) = false := by rw [h8]; rfl
    have HP := Lib.hid (splitL_piece_le 58 l)
    have HN := Lib.hid (splitL_ne 58 l)
    have HBAD : Hid (∀ p ∈ splitL 58 l, grpOk p = false → eightOk l = false ∧ eightA l = zeroA) := fun p hp h => eight_no (eight_badP p hp h)
    have HALL : Hid ((splitL 58 l).all grpOk = true → eightOk l = true ∧ (u8Cod.encs (fromTo ((splitL 58 l).map grpR) 8)).toArray = addrC (eightA l)) := fun h => eight_c h8 h
    generalize splitL 58 l = L at *
    generalize eightOk l = ok at *
    generalize eightA l = A at *
    have hg8 : (L.map grpR).length = 8 := by rw [List.length_map, h8]
    go_enter Tryz.func146, Tryz.ntmps146
    go_wp2_with (go_at_call 62; refine (HC.out _).mono ?_; intro e w1 hg; obtain ⟨b, o, cap, rfl, hcap, hb1, hlo, hhi, hat⟩ := hg.some HN.out; have HBC := Lib.hid (bel_up (w := w) (by repeat (first | exact Below.refl _ _ | assumption | refine below_grown ?_ (by first | omega | (simp [go_sem]; done) | (simp [go_sem] <;> omega)) _ | refine Below.alloc ?_ (by first | omega | (simp [go_sem]; done) | (simp [go_sem] <;> omega)) _ | refine below_bytesW ?_ (by first | omega | (simp [go_sem]; done) | (simp [go_sem] <;> omega)) _ | refine Below.drew ?_ | refine below_drewN ?_ _)) hb1); have HAT := Lib.hid hat; have HR := Lib.hid (Var.below (Var.alloc (Var.new w _ _ rfl rfl : Var (w.alloc _) w.heap.size (u8Cod.encs (List.replicate 16 0))) _) hb1); have HA := Lib.hid (Var.below (Var.new (w.alloc _) _ _ rfl (by simp [go_sem]) : Var ((w.alloc _).alloc _) (w.heap.size + 1) (u8Cod.encs (List.replicate 16 0))) hb1); clear hg hb1 hat)
    have hs0 := HBC.out.size
    have hs1 := HA.out.lt
    have hlo2 : w.heap.size + 1 + 1 ≤ b := by have := hlo; simp [go_sem] at this; omega
    go_loopw [6, 7, 8, 9] (fun i _ _ _ wr => ∃ (k : Nat), k ≤ L.length ∧ i = .int .i64 k ∧ Below w.heap.size w wr ∧ w.heap.size + 1 < wr.heap.size ∧ ListAt strCod wr b o L ∧ Var wr w.heap.size (u8Cod.encs (List.replicate 16 0)) ∧ Var wr (w.heap.size + 1) (u8Cod.encs (fromTo (L.map grpR) k)) ∧ Hid ((L.take k).all grpOk = true)) (fun i _ _ _ _ => L.length - (intOf i).toNat)
    case atStart => exact ⟨0, Nat.zero_le _, rfl, HBC.out, hs1, HAT.out, HR.out, by rw [fromTo_zero]; exact HA.out, rfl⟩
    case round =>
      obtain ⟨k, hk, rfl, hb, hsz, hat, hr, ha, hinv⟩ := hrel
      have HB := Lib.hid hb
      have HAT := Lib.hid hat
      have HR := Lib.hid hr
      have HA := Lib.hid ha
      have hl16 := fromTo_length _ hg8 k (h8 ▸ hk : k ≤ 8)
      by_cases hlt : k < L.length
      · have hlt8 : (k : Int) < 8 := by omega
        have hcell := strAt hat k hlt
        have hx := HP.out _ (List.getElem_mem hlt)
        have HE := Lib.hid (fromTo_succ (L.map grpR) hg8 k (by omega))
        have HAS := Lib.hid (all_take_grp L k hlt)
        have HBK := Lib.hid (HBAD.out _ (List.getElem_mem hlt))
        rw [List.getElem_map] at HE
        have hv : hasVar wr w.heap.size 16 = true := hr.has rfl
        have hc1 : wr.cell? ⟨w.heap.size + 1, 2 * k, none⟩ = some ((u8Cod.encs (fromTo (L.map grpR) k))[2 * k]'(by rw [u8Len, hl16]; omega)) := ha.cell (2 * k) _
        have hc2 : wr.cell? ⟨w.heap.size + 1, 2 * k + 1, none⟩ = some ((u8Cod.encs (fromTo (L.map grpR) k))[2 * k + 1]'(by rw [u8Len, hl16]; omega)) := ha.cell (2 * k + 1) _
        have hf1 : wr.frozen? ⟨w.heap.size + 1, 2 * k, none⟩ = false := ha.free (2 * k)
        have hf2 : wr.frozen? ⟨w.heap.size + 1, 2 * k + 1, none⟩ = false := ha.free (2 * k + 1)
        clear hb hr hat ha
        generalize (u8Cod.encs (fromTo (L.map grpR) k))[2 * k]'_ = v1 at *
        generalize (u8Cod.encs (fromTo (L.map grpR) k))[2 * k + 1]'_ = v2 at *
        generalize L[k]'hlt = x at *
        by_cases hx1 : (x.length : Int) < 1
        · obtain ⟨rfl, rfl⟩ := HBK.out (grp_short (by omega))
          go_wp2
          exact ret_cell_tmp w.heap.size (addrC zeroA) (.bool false) rfl rfl rfl agg_addr (by simp [go_sem, hv]) (by simp [go_sem, hv]) rfl ⟨rfl, below_setRow HB.out (Nat.le_refl _) _⟩
        by_cases hx4 : (4 : Int) < x.length
        · obtain ⟨rfl, rfl⟩ := HBK.out (grp_short (by omega))
          go_wp2
          exact ret_cell_tmp w.heap.size (addrC zeroA) (.bool false) rfl rfl rfl agg_addr (by simp [go_sem, hv]) (by simp [go_sem, hv]) rfl ⟨rfl, below_setRow HB.out (Nat.le_refl _) _⟩
        have hx1' : 1 ≤ x.length := by omega
        have hx4' : x.length ≤ 4 := by omega
        go_wp2
        obtain ⟨wo, hwo⟩ : ∃ wo : World, wo = wr := ⟨_, rfl⟩
        go_loop [7, 8, 9] (fun n i _ => ∃ (j : Nat), j ≤ x.length ∧ i = .int .i64 j ∧ n = .int .i64 (hexN (x.take j)) ∧ Hid (hexAll (x.take j) = true)) (fun _ i _ => x.length - (intOf i).toNat)
        case atStart => exact ⟨0, Nat.zero_le _, rfl, rfl, rfl⟩
        case round =>
          obtain ⟨j, hj, rfl, rfl, hinv2⟩ := hrel
          by_cases hlj : j < x.length
          · have HD := Lib.hid (digit02_any (x[j]'hlj))
            have HT := Lib.hid (hexN_take x j hlj)
            have HS := Lib.hid (all_take_hex x j hlj)
            have hd16 := hexD_lt (x[j]'hlj)
            have hN := hexN_small x j hlj hx4'
            have HBG : Hid (hexD (x[j]'hlj) < 0 → grpOk x = false) := fun h => hexAll_get x j hlj h
            obtain ⟨c, hcc⟩ : ∃ c, ∀ h, x[j]'h = c := ⟨x[j]'hlj, fun _ => rfl⟩
            rw [hcc] at HD HT HS hd16 HBG
            generalize hexN (x.take j) = n at *
            by_cases hd0 : hexD c < 0
            · obtain ⟨rfl, rfl⟩ := HBK.out (HBG.out hd0)
              go_wp2_with (go_at_call 173; refine (HD.out _).mono ?_; intro e w' h; obtain ⟨rfl, h2⟩ := h; subst w')
              exact ret_cell_tmp w.heap.size (addrC zeroA) (.bool false) rfl rfl rfl agg_addr (by simp [go_sem, hv]) (by simp [go_sem, hv]) rfl ⟨rfl, below_setRow HB.out (Nat.le_refl _) _⟩
            · have hd0' : decide (0 ≤ hexD c) = true := decide_eq_true (by omega)
              generalize hexD c = d at *
              go_wp2_with (go_at_call 173; refine (HD.out _).mono ?_; intro e w' h; obtain ⟨rfl, h2⟩ := h; subst w')
              go_round
              case rel => exact ⟨j + 1, by omega, by go_num, by rw [HT.out]; go_num, show _ = true by rw [HS.out, hinv2.out, hd0']; rfl⟩
              case measure => simp [intOf]; omega
          · obtain rfl : j = x.length := by omega
            have hall := hinv2.out
            rw [List.take_length] at hall ⊢
            have hok := grp_all hx1' hx4' hall
            obtain ⟨hn, hh, hlo'⟩ := hexN_hi hok
            have hq : (hexN x : Int).tdiv 256 = ((hexN x / 256 : Nat) : Int) := tdiv_nat _ 256
            have hm : (hexN x : Int).tmod 256 = ((hexN x % 256 : Nat) : Int) := tmod_nat _ 256
            have HOK := Lib.hid hok
            clear hok hall hinv2
            have hq2 : hexN x / 256 < 256 := by omega
            have hm2 : hexN x % 256 < 256 := by omega
            generalize hexN x / 256 = q at *
            generalize hexN x % 256 = r at *
            generalize hexN x = n at *
            have hwq : IntKind.i64.wrap (q : Int) = (q : Int) := IntWalk.i64_in _ (by omega)
            go_wp2
            go_roundw
            case rel =>
              refine ⟨k + 1, by omega, by go_num, (HB.out.setCell (by first | omega | (simp; done) | (simp; omega)) _).setCell (by first | omega | (simp; done) | (simp; omega)) _, by simp [go_sem]; omega, (HAT.out.setCell _ _ (by dsimp only; omega)).setCell _ _ (by dsimp only; omega), (HR.out.setCell_other _ _ (by dsimp only; omega)).setCell_other _ _ (by dsimp only; omega), ?_, show _ = true by rw [HAS.out, hinv.out, HOK.out]; rfl⟩
              rw [HE.out, ← u8Set, ← u8Set, ← hh, ← hlo']
              exact (HA.out.setCell _ _).setCell _ _
            case measure => simp [intOf]; omega
      · obtain rfl : k = L.length := by omega
        have hlt8 : ¬ (L.length : Int) < 8 := by omega
        have hall := hinv.out
        rw [List.take_length] at hall
        obtain ⟨rfl, hA⟩ := HALL.out hall
        rw [h8] at ha
        have h1 : hasRow wr ⟨w.heap.size + 1, 0, none⟩ 16 = true := ha.hasRow (by rw [u8Len, fromTo_length _ hg8 8 (Nat.le_refl _)])
        have h2 : rowAt wr ⟨w.heap.size + 1, 0, none⟩ 16 = addrC A := by rw [ha.rowAt (by rw [u8Len, fromTo_length _ hg8 8 (Nat.le_refl _)]), hA]
        have h3 : hasVar wr w.heap.size 16 = true := hr.has rfl
        go_wp2
        exact ret_cell_tmp w.heap.size (addrC A) (.bool true) rfl rfl rfl agg_addr (by simp [go_sem, h3]) (by simp [go_sem, h3]) rfl ⟨rfl, below_setRow HB.out (Nat.le_refl _) _⟩
  · obtain ⟨e1, e2⟩ := eight_no (eight_not8 h8)
    have h8' : (((splitL 58 l).length : Int) != 8) = true := by simp; omega
    rw [e1, e2]
    generalize splitL 58 l = L at *
    clear e1 e2 h8
    go_enter Tryz.func146, Tryz.ntmps146
    go_wp2_with (go_at_call 62; refine (HC.out _).mono ?_; intro e w1 hg; obtain ⟨a1, c1, rfl, hc1, hb1, hl1⟩ := hg; obtain ⟨p1, rfl⟩ := grown_of hb1; clear hb1)
    exact ret_cell_tmp w.heap.size (addrC zeroA) (.bool false) rfl rfl rfl agg_addr (by simp [go_sem]) (by simp [go_sem]) rfl ⟨rfl, below_setRow (by repeat (first | exact Below.refl _ _ | assumption | refine below_grown ?_ (by first | omega | (simp [go_sem]; done) | (simp [go_sem] <;> omega)) _ | refine Below.alloc ?_ (by first | omega | (simp [go_sem]; done) | (simp [go_sem] <;> omega)) _ | refine below_bytesW ?_ (by first | omega | (simp [go_sem]; done) | (simp [go_sem] <;> omega)) _ | refine Below.drew ?_ | refine below_drewN ?_ _)) (Nat.le_refl _) _⟩
end

section
open Go Go.RowKit
set_option maxRecDepth 20000
set_option linter.unusedSimpArgs false
set_option linter.unusedVariables false

theorem eight_again {t : List UInt8} {ok : Bool} (ht : t.length ≤ 4294967280) (h : eightOk t = ok) (w : World) :
    Calls Tryz.prog 146 #[.string ⟨t.toArray⟩] w fun e w' => e = .returned (.tuple #[.agg (addrC (eightA t)), .bool ok]) ∧ Below w.heap.size w w' := h ▸ eight_any t ht w
theorem eight_isSome {s : List UInt8} (h : eightOk s = true) : ∃ g, eightL s = some g := Option.isSome_iff_exists.1 h
theorem eight_isNone {s : List UInt8} (h : eightOk s = false) : eightL s = none := by
  unfold eightOk at h
  cases he : eightL s with
  | none => rfl
  | some g => rw [he] at h; cases h
theorem zerosT_length : ∀ k, (zerosT k).length = 2 * k + 1
  | 0 => rfl
  | k + 1 => by rw [zerosT, List.length_append, zerosT_length k]; simp; omega
set_option maxHeartbeats 2000000 in
theorem refV6_any (l : List UInt8) (hl : l.length ≤ 2000000000) (w : World) :
    Calls Tryz.prog 115 #[.string ⟨l.toArray⟩] w fun e w' => e = .returned (.tuple #[.agg (addrC (v6A l)), .bool (v6Ok l)]) ∧ Below w.heap.size w w' := by
  cases h8 : eightOk l
  · have HC := Lib.hid (fun w => eight_again (t := l) (by omega) h8 w)
    have hN0 : NoTry l 0 := ⟨eight_isNone h8, fun j hj => by cases hj⟩
    have HDONE : Hid (∀ k, NoTry l k → l.length < k + 2 → v6Ok l = false ∧ v6A l = zeroA) := fun k h hk => v6_no (h.done hk)
    have HTRY : Hid (∀ k j, ccAt l k → eightOk (frontT (l.take k) ++ zerosT j ++ backT (l.drop (k + 2))) = true → v6Ok l = true ∧ v6A l = eightA (frontT (l.take k) ++ zerosT j ++ backT (l.drop (k + 2)))) := fun k j hc h => by
      obtain ⟨g, hg⟩ := eight_isSome h
      exact eight_v6A h ((try_some hc hg).trans hg.symm)
    generalize eightA l = A0 at *
    generalize v6A l = A at *
    generalize v6Ok l = ok at *
    go_enter Tryz.func115, Tryz.ntmps115
    go_wp2_with (go_at_call 146; refine (HC.out _).mono ?_; rintro e w1 ⟨rfl, hb1⟩; obtain ⟨p1, rfl⟩ := grown_of hb1; clear hb1)
    go_loopw [6, 7, 8, 9, 10, 11, 12] (fun i _ _ _ _ _ _ wr => ∃ (k : Nat), k ≤ l.length ∧ i = .int .i64 k ∧ Below w.heap.size w wr ∧ w.heap.size < wr.heap.size ∧ Var wr w.heap.size (u8Cod.encs (List.replicate 16 0)) ∧ Hid (NoTry l k)) (fun i _ _ _ _ _ _ _ => l.length - (intOf i).toNat)
    case atStart => exact ⟨0, Nat.zero_le _, rfl, (by repeat (first | exact Below.refl _ _ | assumption | refine below_grown ?_ (by first | omega | (simp [go_sem]; done) | (simp [go_sem] <;> omega)) _ | refine Below.alloc ?_ (by first | omega | (simp [go_sem]; done) | (simp [go_sem] <;> omega)) _ | refine below_bytesW ?_ (by first | omega | (simp [go_sem]; done) | (simp [go_sem] <;> omega)) _ | refine Below.drew ?_ | refine below_drewN ?_ _)), by simp [go_sem], ((Var.new w _ _ rfl rfl : Var (w.alloc _) w.heap.size (u8Cod.encs (List.replicate 16 0))).grown _).alloc _, hN0⟩
    case round =>
      obtain ⟨k, hk, rfl, hb, hsz, hr, hinv⟩ := hrel
      have HB := Lib.hid hb
      have HR := Lib.hid hr
      clear hb hr
      have hv : hasVar wr w.heap.size 16 = true := HR.out.has rfl
      by_cases hlt : k + 2 ≤ l.length
      · have hlt' : (k : Int) + 2 ≤ l.length := by omega
        have hcc := cc_at (s := l) (i := k) hlt
        obtain ⟨c, hc⟩ : ∃ c, ∀ h, l[k]'h = c := ⟨l[k]'(by omega), fun _ => rfl⟩
        obtain ⟨d, hd⟩ : ∃ d, ∀ h, l[k + 1]'h = d := ⟨l[k + 1]'(by omega), fun _ => rfl⟩
        rw [hc, hd] at hcc
        by_cases h1 : c = 58
        · by_cases h2 : d = 58
          · have HCC := Lib.hid (hcc.2 ⟨h1, h2⟩)
            have h1' : ((c.toNat : Int) != 58) = false := by subst h1; rfl
            have h2' : ((d.toNat : Int) != 58) = false := by subst h2; rfl
            clear hcc h1 h2
            have HFX : ((l.take k).isEmpty = true ∧ frontT (l.take k) = l.take k) ∨ ((l.take k).isEmpty = false ∧ frontT (l.take k) = l.take k ++ [58]) := by unfold frontT; cases l.take k <;> simp
            have HBY : ((l.drop (k + 2)).isEmpty = true ∧ backT (l.drop (k + 2)) = l.drop (k + 2)) ∨ ((l.drop (k + 2)).isEmpty = false ∧ backT (l.drop (k + 2)) = 58 :: l.drop (k + 2)) := by unfold backT; cases l.drop (k + 2) <;> simp
            have HT0 := Lib.hid (fun j => HTRY.out k j HCC.out)
            have HNX0 : Hid ((∀ j, j < 8 → eightOk (frontT (l.take k) ++ zerosT j ++ backT (l.drop (k + 2))) = false) → NoTry l (k + 1)) := fun h => hinv.out.next (try_none fun j hj => eight_isNone (h j hj))
            have hFl : (frontT (l.take k)).length ≤ l.length + 1 := by rcases HFX with ⟨_, e⟩ | ⟨_, e⟩ <;> rw [e] <;> simp <;> omega
            have hBl : (backT (l.drop (k + 2))).length ≤ l.length + 1 := by rcases HBY with ⟨_, e⟩ | ⟨_, e⟩ <;> rw [e] <;> simp <;> omega
            obtain ⟨F, hF0⟩ : ∃ F, F = frontT (l.take k) := ⟨_, rfl⟩
            obtain ⟨B, hB0⟩ : ∃ B, B = backT (l.drop (k + 2)) := ⟨_, rfl⟩
            have HT : Hid (∀ j, eightOk (F ++ zerosT j ++ B) = true → ok = true ∧ A = eightA (F ++ zerosT j ++ B)) := by rw [hF0, hB0]; exact HT0.out
            have HNX : Hid ((∀ j, j < 8 → eightOk (F ++ zerosT j ++ B) = false) → NoTry l (k + 1)) := by rw [hF0, hB0]; exact HNX0.out
            rw [← hF0] at hFl HFX
            rw [← hB0] at hBl HBY
            clear hF0 hB0
            rcases HFX with ⟨hx, hF⟩ | ⟨hx, hF⟩
            all_goals
              rcases HBY with ⟨hy, hB⟩ | ⟨hy, hB⟩
            all_goals
              go_wp2
              rw [← hF, ← hB]
              clear hF hB hx hy
              clear HNX0 HT0
              go_loopw [9, 10, 11, 12] (fun z i _ _ wr => ∃ (j : Nat), j ≤ 8 ∧ z = .string ⟨(zerosT j).toArray⟩ ∧ i = .int .i64 j ∧ Below w.heap.size w wr ∧ w.heap.size < wr.heap.size ∧ Var wr w.heap.size (u8Cod.encs (List.replicate 16 0)) ∧ Hid (∀ i, i < j → eightOk (F ++ zerosT i ++ B) = false)) (fun _ i _ _ _ => 8 - (intOf i).toNat)
              case atStart => exact ⟨0, Nat.zero_le _, rfl, rfl, HB.out, hsz, HR.out, fun i hi => by cases hi⟩
              case round =>
                obtain ⟨j, hj, rfl, rfl, hb, hsz', hr, hno⟩ := hrel
                have HB' := Lib.hid hb
                have HR' := Lib.hid hr
                clear hb hr
                have hv' : ∀ p o, hasVar ((grown wr p).alloc o) w.heap.size 16 = true := fun p o => ((HR'.out.grown p).alloc o).has rfl
                by_cases hj8 : j < 8
                · have hj8' : (j : Int) < 8 := by omega
                  have hzl := zerosT_length j
                  have HTJ := Lib.hid (HT.out j)
                  have HZ : Hid (zerosT (j + 1) = zerosT j ++ [58, 48]) := rfl
                  have hNJ := hno.out
                  cases he : eightOk (F ++ zerosT j ++ B)
                  · have HN : Hid (∀ i, i < j + 1 → eightOk (F ++ zerosT i ++ B) = false) := fun i hi => by
                      by_cases e : i = j
                      · subst e; exact he
                      · exact hNJ i (by omega)
                    clear hNJ hno
                    generalize hZj : zerosT j = Z at *
                    have HE := Lib.hid (fun w => eight_again (t := F ++ Z ++ B) (by simp; omega) he w)
                    clear he
                    rw [List.append_assoc] at HE
                    generalize eightA (F ++ (Z ++ B)) = A1 at *
                    have hn1 : ¬ 9223372036854775807 < F.length + Z.length := by omega
                    have hn2 : ¬ 9223372036854775807 < F.length + Z.length + B.length := by omega
                    have hn3 : ¬ 9223372036854775807 < F.length + (Z.length + B.length) := by omega
                    have hn4 : ¬ 9223372036854775807 < Z.length + 2 := by omega
                    go_wp2_with (go_at_call 146; refine (HE.out _).mono ?_; rintro e w1 ⟨rfl, hb1⟩; obtain ⟨p1, rfl⟩ := grown_of hb1; clear hb1)
                    go_roundw
                    case rel => exact ⟨j + 1, by omega, by rw [HZ.out], by go_num, ((below_grown HB'.out HB'.out.size _).alloc (by first | omega | (simp; done) | (simp; omega) | (simp [go_sem]; done) | (simp [go_sem]; omega)) _), by simp [go_sem]; omega, (HR'.out.grown _).alloc _, HN.out⟩
                    case measure => simp [intOf]; omega
                  · obtain ⟨rfl, hA⟩ := HTJ.out he
                    have HE := Lib.hid (fun w => eight_again (t := F ++ zerosT j ++ B) (by simp; omega) he w)
                    rw [← hA, List.append_assoc] at HE
                    clear he hNJ hno HZ hA HTJ
                    generalize hZj : zerosT j = Z at *
                    have hn1 : ¬ 9223372036854775807 < F.length + Z.length := by omega
                    have hn2 : ¬ 9223372036854775807 < F.length + Z.length + B.length := by omega
                    have hn3 : ¬ 9223372036854775807 < F.length + (Z.length + B.length) := by omega
                    go_wp2_with (go_at_call 146; refine (HE.out _).mono ?_; rintro e w1 ⟨rfl, hb1⟩; obtain ⟨p1, rfl⟩ := grown_of hb1; clear hb1)
                    exact ret_cell_tmp w.heap.size (addrC A) (.bool true) rfl rfl rfl agg_addr (by simp [go_sem, hv']) (by simp [go_sem, hv']) rfl ⟨by simp, below_setRow ((below_grown HB'.out HB'.out.size _).alloc (by first | omega | (simp; done) | (simp; omega) | (simp [go_sem]; done) | (simp [go_sem]; omega)) _) (Nat.le_refl _) _⟩
                · obtain rfl : j = 8 := by omega
                  have HNN := Lib.hid (HNX.out hno.out)
                  go_wp2
                  go_roundw
                  case rel => exact ⟨k + 1, by omega, by go_num, HB'.out, hsz', HR'.out, HNN.out⟩
                  case measure => simp [intOf]; omega
          · have HS := Lib.hid (hinv.out.skip fun h => h2 (hcc.1 h).2)
            have h1' : ((c.toNat : Int) != 58) = false := by subst h1; rfl
            have h2' : ((d.toNat : Int) != 58) = true := by rw [u8_lit_ne d 58 58 rfl]; simpa using h2
            clear hcc h1 h2
            go_wp2
            go_roundw
            case rel => exact ⟨k + 1, by omega, by go_num, HB.out, hsz, HR.out, HS.out⟩
            case measure => simp [intOf]; omega
        · have HS := Lib.hid (hinv.out.skip fun h => h1 (hcc.1 h).1)
          have h1' : ((c.toNat : Int) != 58) = true := by rw [u8_lit_ne c 58 58 rfl]; simpa using h1
          clear hcc h1
          go_wp2
          go_roundw
          case rel => exact ⟨k + 1, by omega, by go_num, HB.out, hsz, HR.out, HS.out⟩
          case measure => simp [intOf]; omega
      · have hlt' : ¬ (k : Int) + 2 ≤ l.length := by omega
        obtain ⟨rfl, rfl⟩ := HDONE.out _ hinv.out (by omega)
        go_wp2
        exact ret_cell_tmp w.heap.size (addrC zeroA) (.bool false) rfl rfl rfl agg_addr (by simp [go_sem, hv]) (by simp [go_sem, hv]) rfl ⟨rfl, below_setRow HB.out (Nat.le_refl _) _⟩
  · obtain ⟨e1, e2⟩ := eight_v6A (t := l) h8 (by obtain ⟨g, hg⟩ := eight_isSome h8; rw [eight_v6 hg, hg])
    have HC := Lib.hid (fun w => eight_again (t := l) (by omega) h8 w)
    rw [e1, e2]
    generalize eightA l = A at *
    go_enter Tryz.func115, Tryz.ntmps115
    go_wp2_with (go_at_call 146; refine (HC.out _).mono ?_; rintro e w1 ⟨rfl, hb1⟩; obtain ⟨p1, rfl⟩ := grown_of hb1; clear hb1)
    exact ret_cell_tmp w.heap.size (addrC A) (.bool true) rfl rfl rfl agg_addr (by simp [go_sem]) (by simp [go_sem]) rfl ⟨by simp, below_setRow (by repeat (first | exact Below.refl _ _ | assumption | refine below_grown ?_ (by first | omega | (simp [go_sem]; done) | (simp [go_sem] <;> omega)) _ | refine Below.alloc ?_ (by first | omega | (simp [go_sem]; done) | (simp [go_sem] <;> omega)) _ | refine below_bytesW ?_ (by first | omega | (simp [go_sem]; done) | (simp [go_sem] <;> omega)) _ | refine Below.drew ?_ | refine below_drewN ?_ _)) (Nat.le_refl _) _⟩
end

section
open Go Go.RowKit
set_option maxRecDepth 20000
set_option linter.unusedSimpArgs false
set_option linter.unusedVariables false

theorem seg_succ {α : Type} (G : List α) (f i : Nat) (hf : f ≤ i) (hi : i < G.length) : (G.take (i + 1)).drop f = (G.take i).drop f ++ [G[i]'hi] := by
  rw [List.take_succ_eq_append_getElem hi, List.drop_append_of_le_length (by rw [List.length_take]; omega)]
theorem part_first (G : List UInt16) (f : Nat) (hf : f < G.length) : writtenL ((G.take (f + 1)).drop f) = hexL (G[f]'hf).toNat := by
  rw [seg_succ G f f (Nat.le_refl _) hf, List.drop_of_length_le (by rw [List.length_take]; omega)]
  simp [writtenL, joinL]
theorem part_next (G : List UInt16) (f i : Nat) (hf : f < i) (hi : i < G.length) : writtenL ((G.take (i + 1)).drop f) = writtenL ((G.take i).drop f) ++ [58] ++ hexL (G[i]'hi).toNat := by
  rw [seg_succ G f i (by omega) hi, writtenL, List.map_append, List.map_singleton, joinL_snoc 58 _ _ (by
    intro e
    have := congrArg List.length e
    simp at this
    omega)]
  rfl
theorem part_len (G : List UInt16) (hG : G.length = 8) (f i : Nat) : (writtenL ((G.take i).drop f)).length ≤ 40 := by
  have := hexs_le ((G.take i).drop f)
  rw [List.length_drop, List.length_take] at this
  omega
set_option maxHeartbeats 1000000 in
theorem part_any (a : GAddr) (f t : Nat) (hf : f ≤ t) (ht : t ≤ 8) (w : World) :
    Calls Tryz.prog 126 #[.agg (addrC a), .int .i64 (f : Int), .int .i64 (t : Int)] w fun e w' => e = .returned (.string ⟨(writtenL (((grpL a.b).take t).drop f)).toArray⟩) ∧ Below w.heap.size w w' := by
  have hG : (grpL a.b).length = 8 := (grpG a).len
  have HGR := Lib.hid (fun k hk hk' w => group02_any a k hk hk' w)
  have HPL := Lib.hid (part_len (grpL a.b) hG f)
  have HVA : Hid (Var (w.alloc (Obj.cells (addrC a) 30)) w.heap.size (addrL a)) := Var.new _ _ _ rfl rfl
  have hal : (addrL a).length = 16 := addrL_length a
  have hac : (addrL a).toArray = addrC a := rfl
  generalize hS : writtenL (((grpL a.b).take t).drop f) = S
  generalize grpL a.b = G at *
  generalize hAC : addrC a = ac at *
  generalize addrL a = al at *
  go_enter Tryz.func126, Tryz.ntmps126
  go_wp2
  go_loopw [7, 8] (fun s i wr => ∃ (k : Nat), f ≤ k ∧ k ≤ t ∧ i = .int .i64 k ∧ s = .string ⟨(writtenL ((G.take k).drop f)).toArray⟩ ∧ Below w.heap.size w wr ∧ w.heap.size < wr.heap.size ∧ Var wr w.heap.size al) (fun _ i _ => t - (intOf i).toNat)
  case atStart => exact ⟨f, Nat.le_refl _, hf, rfl, by rw [List.drop_of_length_le (by rw [List.length_take]; omega)]; rfl, (by repeat (first | exact Below.refl _ _ | assumption | refine below_grown ?_ (by first | omega | (simp [go_sem]; done) | (simp [go_sem] <;> omega)) _ | refine Below.alloc ?_ (by first | omega | (simp [go_sem]; done) | (simp [go_sem] <;> omega)) _ | refine below_bytesW ?_ (by first | omega | (simp [go_sem]; done) | (simp [go_sem] <;> omega)) _ | refine Below.drew ?_ | refine below_drewN ?_ _)), by simp [go_sem], HVA.out⟩
  case round =>
    obtain ⟨k, hfk, hk, rfl, rfl, hb, hsz, hv⟩ := hrel
    have HB := Lib.hid hb
    have HV := Lib.hid hv
    have h1 : hasRow wr ⟨w.heap.size, 0, none⟩ 16 = true := hv.hasRow hal
    have h2 : rowAt wr ⟨w.heap.size, 0, none⟩ 16 = ac := by rw [hv.rowAt hal, hac]
    clear hb hv
    by_cases hlt : k < t
    · have HG := Lib.hid (HGR.out k (by omega) (by omega))
      have hx := (G[k]'(by omega)).toNat_lt
      have HX := Lib.hid (fun w => hex_any (G[k]'(by omega : k < G.length)).toNat hx w)
      have hxl := (hexL_len (G[k]'(by omega : k < G.length)).toNat).2
      have hpl := HPL.out k
      by_cases hgt : f < k
      · have HE := Lib.hid (part_next G f k hgt (by omega))
        generalize writtenL ((G.take k).drop f) = P at *
        generalize (G[k]'(by omega : k < G.length)).toNat = x at *
        generalize hexL x = X at *
        have hn1 : ¬ 9223372036854775807 < P.length + 1 := by omega
        have hn2 : ¬ 9223372036854775807 < P.length + 1 + X.length := by omega
        go_wp2_with (first
          | (go_at_call 125; refine (HG.out _).mono ?_; rintro e w1 ⟨rfl, hb1⟩; obtain ⟨p1, rfl⟩ := grown_of hb1; clear hb1)
          | (go_at_call 150; refine (HX.out _).mono ?_; rintro e w1 ⟨rfl, hb1⟩; obtain ⟨p1, rfl⟩ := grown_of hb1; clear hb1))
        go_roundw
        case rel => exact ⟨k + 1, by omega, by omega, by go_num, by rw [HE.out]; simp, below_grown (below_grown HB.out HB.out.size _) (by first | omega | (simp; done) | (simp; omega) | (simp [go_sem]; done) | (simp [go_sem]; omega)) _, by simp [go_sem]; omega, (HV.out.grown _).grown _⟩
        case measure => simp [intOf]; omega
      · obtain rfl : f = k := by omega
        have HE := Lib.hid (part_first G f (by omega))
        have HP0 : Hid (writtenL ((G.take f).drop f) = []) := show _ = _ by rw [List.drop_of_length_le (by rw [List.length_take]; omega)]; rfl
        rw [HP0.out]
        generalize (G[f]'(by omega : f < G.length)).toNat = x at *
        generalize hexL x = X at *
        go_wp2_with (first
          | (go_at_call 125; refine (HG.out _).mono ?_; rintro e w1 ⟨rfl, hb1⟩; obtain ⟨p1, rfl⟩ := grown_of hb1; clear hb1)
          | (go_at_call 150; refine (HX.out _).mono ?_; rintro e w1 ⟨rfl, hb1⟩; obtain ⟨p1, rfl⟩ := grown_of hb1; clear hb1))
        go_roundw
        case rel => exact ⟨f + 1, by omega, by omega, by go_num, by rw [HE.out], below_grown (below_grown HB.out HB.out.size _) (by first | omega | (simp; done) | (simp; omega) | (simp [go_sem]; done) | (simp [go_sem]; omega)) _, by simp [go_sem]; omega, (HV.out.grown _).grown _⟩
        case measure => simp [intOf]; omega
    · obtain rfl : k = t := by omega
      go_wp2
      go_ret
      exact ⟨ret_str hS, HB.out⟩
theorem win_zero (z : List Bool) (a : Nat) : winB z a 0 = true := by simp [winB]
theorem win_succ (z : List Bool) (a n : Nat) (h : a + n < z.length) : winB z a (n + 1) = (winB z a n && z[a + n]'h) := by
  unfold winB
  rw [List.take_succ_eq_append_getElem (by rw [List.length_drop]; omega), List.all_append, List.getElem_drop]
  simp
theorem nulls_get (g : List UInt16) (k : Nat) (h : k < g.length) (h2 : k < (nulls g).length) : (nulls g)[k]'h2 = (((g[k]'h).toNat : Int) == 0) := by
  have e : (nulls g)[k]'h2 = (g[k]'h == 0) := by simp [nulls]
  rw [e, Bool.eq_iff_iff, beq_iff_eq, beq_iff_eq, ← UInt16.toNat_inj]
  show (_ = 0) ↔ _
  omega
set_option maxHeartbeats 2000000 in
theorem refText6_any (a : GAddr) (w : World) :
    Calls Tryz.prog 82 #[.agg (addrC a)] w fun e w' => e = .returned (.string ⟨(text6L a.b).toArray⟩) ∧ Below w.heap.size w w' := by
  have hG : (grpL a.b).length = 8 := (grpG a).len
  have hz8 : (nulls (grpL a.b)).length = 8 := by simp [nulls, hG]
  have HGR := Lib.hid (fun k hk hk' w => group02_any a k hk hk' w)
  have HPT := Lib.hid (fun f t hf ht w => part_any a f t hf ht w)
  have HPL := Lib.hid (part_len (grpL a.b) hG)
  have HVA : Hid (Var (w.alloc (Obj.cells (addrC a) 30)) w.heap.size (addrL a)) := Var.new _ _ _ rfl rfl
  have HNL : Hid (∀ k (h : k < (nulls (grpL a.b)).length) (h' : k < (grpL a.b).length), (nulls (grpL a.b))[k]'h = ((((grpL a.b)[k]'h').toNat : Int) == 0)) := fun k h h' => nulls_get _ k h' h
  have HFIRST : Hid (∀ n p, 2 ≤ n → p + n ≤ 8 → winB (nulls (grpL a.b)) p n = true → (∀ n' a', n < n' → a' + n' ≤ 8 → winB (nulls (grpL a.b)) a' n' = false) → (∀ a', a' < p → winB (nulls (grpL a.b)) a' n = false) → writtenL (((grpL a.b).take p).drop 0) ++ [58, 58] ++ writtenL (((grpL a.b).take 8).drop (p + n)) = text6L a.b) := fun n p h1 h2 h3 h4 h5 => by
    obtain ⟨e1, e2⟩ := z_first hz8 h1 h2 h3 h4 h5
    rw [text6L, text6G, e1, e2, if_neg (by omega), List.drop_zero, List.take_of_length_le (Nat.le_of_eq hG)]
  have HLAST : Hid ((∀ n' a', 1 < n' → a' + n' ≤ 8 → winB (nulls (grpL a.b)) a' n' = false) → writtenL (((grpL a.b).take 8).drop 0) = text6L a.b) := fun h => by
    have hs : zLong (nulls (grpL a.b)) < 2 := by
      rcases Nat.lt_or_ge (zLong (nulls (grpL a.b))) 2 with h' | h'
      · exact h'
      · obtain ⟨w1, w2, _⟩ := z_long hz8 h'
        rw [h _ _ (by omega) w2] at w1; cases w1
    rw [text6L, text6G, if_pos hs, List.drop_zero, List.take_of_length_le (Nat.le_of_eq hG)]
  have hal : (addrL a).length = 16 := addrL_length a
  have hac : (addrL a).toArray = addrC a := rfl
  generalize text6L a.b = T at *
  generalize nulls (grpL a.b) = z at *
  generalize grpL a.b = G at *
  generalize hAC : addrC a = ac at *
  generalize addrL a = al at *
  go_enter Tryz.func82, Tryz.ntmps82
  go_wp2
  go_loopw [3, 4, 5, 6] (fun lo _ _ _ wr => ∃ (n : Nat), 1 ≤ n ∧ n ≤ 8 ∧ lo = .int .i64 n ∧ Below w.heap.size w wr ∧ w.heap.size < wr.heap.size ∧ Var wr w.heap.size al ∧ Hid (∀ n' a', n < n' → a' + n' ≤ 8 → winB z a' n' = false)) (fun lo _ _ _ _ => (intOf lo).toNat)
  case atStart => exact ⟨8, by omega, by omega, rfl, (by repeat (first | exact Below.refl _ _ | assumption | refine below_grown ?_ (by first | omega | (simp [go_sem]; done) | (simp [go_sem] <;> omega)) _ | refine Below.alloc ?_ (by first | omega | (simp [go_sem]; done) | (simp [go_sem] <;> omega)) _ | refine below_bytesW ?_ (by first | omega | (simp [go_sem]; done) | (simp [go_sem] <;> omega)) _ | refine Below.drew ?_ | refine below_drewN ?_ _)), by simp [go_sem], HVA.out, fun n' a' h h' => by omega⟩
  case round =>
    obtain ⟨n, hn1, hn8, rfl, hb, hsz, hv, hno⟩ := hrel
    have HB := Lib.hid hb
    have HV := Lib.hid hv
    have h1 : hasRow wr ⟨w.heap.size, 0, none⟩ 16 = true := hv.hasRow hal
    have h2 : rowAt wr ⟨w.heap.size, 0, none⟩ 16 = ac := by rw [hv.rowAt hal, hac]
    clear hb hv
    by_cases hn2 : 2 ≤ n
    · have hn2' : (2 : Int) ≤ n := by omega
      clear h1 h2
      go_wp2
      obtain ⟨wo, hwo⟩ : ∃ wo : World, wo = wr := ⟨_, rfl⟩
      go_loopw [4, 5, 6] (fun at' _ _ wr => ∃ (p : Nat), p + n ≤ 9 ∧ at' = .int .i64 p ∧ Below w.heap.size w wr ∧ w.heap.size < wr.heap.size ∧ Var wr w.heap.size al ∧ Hid (∀ a', a' < p → winB z a' n = false)) (fun at' _ _ _ => 9 - (intOf at').toNat)
      case atStart => exact ⟨0, by omega, rfl, HB.out, hsz, HV.out, fun a' h => by cases h⟩
      case round =>
        obtain ⟨p, hp, rfl, hb, hsz1, hv, hno2⟩ := hrel
        have HB1 := Lib.hid hb
        have HV1 := Lib.hid hv
        clear hb hv
        by_cases hp8 : p + n ≤ 8
        · have hp8' : (p : Int) + n ≤ 8 := by omega
          go_wp2
          obtain ⟨wo1, hwo1⟩ : ∃ wo : World, wo = wr := ⟨_, rfl⟩
          go_loopw [5, 6] (fun all i wr => ∃ (j : Nat) (b : Bool), j ≤ n ∧ i = .int .i64 ((p + j : Nat) : Int) ∧ all = .bool b ∧ b = winB z p j ∧ Below w.heap.size w wr ∧ w.heap.size < wr.heap.size ∧ Var wr w.heap.size al) (fun _ i _ => p + n - (intOf i).toNat)
          case atStart => exact ⟨0, true, by omega, rfl, rfl, (win_zero z p).symm, HB1.out, hsz1, HV1.out⟩
          case round =>
            obtain ⟨j, b, hj, rfl, rfl, hbw, hb, hsz2, hv⟩ := hrel
            have HB2 := Lib.hid hb
            have HV2 := Lib.hid hv
            have h1 : hasRow wr ⟨w.heap.size, 0, none⟩ 16 = true := hv.hasRow hal
            have h2 : rowAt wr ⟨w.heap.size, 0, none⟩ 16 = ac := by rw [hv.rowAt hal, hac]
            clear hb hv
            by_cases hjn : j < n
            · have hjn' : ((p + j : Nat) : Int) < (p : Int) + n := by omega
              have HW := Lib.hid (win_succ z p j (by omega))
              have HG := Lib.hid (HGR.out (p + j) (by omega) (by omega))
              have hq := HNL.out (p + j) (by omega) (by omega)
              generalize (G[p + j]'(by omega : p + j < G.length)).toNat = x at *
              generalize z[p + j]'(by omega : p + j < z.length) = zb at *
              have hq' := hq.symm
              clear hq
              have HBW := Lib.hid hbw
              clear hbw
              cases b
              · go_wp2
                go_roundw
                case rel => exact ⟨j + 1, false, by omega, by go_num, rfl, by rw [HW.out, ← HBW.out]; rfl, HB2.out, hsz2, HV2.out⟩
                case measure => simp [intOf]; omega
              · go_wp2_with (go_at_call 125; refine (HG.out _).mono ?_; rintro e w1 ⟨rfl, hb1⟩; obtain ⟨p1, rfl⟩ := grown_of hb1; clear hb1)
                go_roundw
                case rel => exact ⟨j + 1, zb, by omega, by go_num, rfl, by rw [HW.out, ← HBW.out]; rfl, below_grown HB2.out HB2.out.size _, by simp [go_sem]; omega, HV2.out.grown _⟩
                case measure => simp [intOf]; omega
            · obtain rfl : j = n := by omega
              have hjn' : ¬ ((p + j : Nat) : Int) < (p : Int) + j := by omega
              cases b
              · have HNN : Hid (∀ a', a' < p + 1 → winB z a' j = false) := fun a' h => by
                  by_cases e : a' = p
                  · subst e; exact hbw.symm
                  · exact hno2.out a' (by omega)
                clear hbw
                go_wp2
                go_roundw
                case rel => exact ⟨p + 1, by omega, by go_num, HB2.out, hsz2, HV2.out, HNN.out⟩
                case measure => simp [intOf]; omega
              · have hT := HFIRST.out j p hn2 hp8 hbw.symm hno.out hno2.out
                have HT := Lib.hid hT
                have HA := Lib.hid (HPT.out 0 p (by omega) (by omega))
                have HC : Hid (∀ w, Calls Tryz.prog 126 #[.agg ac, .int .i64 ((p : Int) + j), .int .i64 8] w fun e w' => e = .returned (.string ⟨(writtenL ((G.take 8).drop (p + j))).toArray⟩) ∧ Below w.heap.size w w') := fun w => by
                  have := HPT.out (p + j) 8 hp8 (by omega) w
                  rwa [Int.natCast_add] at this
                have hl1 := HPL.out 0 p
                have hl2 := HPL.out (p + j) 8
                clear hbw hT
                generalize writtenL ((G.take p).drop 0) = X at *
                generalize writtenL ((G.take 8).drop (p + j)) = Y at *
                have hn1 : ¬ 9223372036854775807 < X.length + 2 := by omega
                have hn2 : ¬ 9223372036854775807 < X.length + 2 + Y.length := by omega
                have hwr : IntKind.i64.wrap ((p : Int) + j) = (p : Int) + j := IntWalk.i64_in _ (by omega)
                have h3 : ∀ p, hasRow (grown wr p) ⟨w.heap.size, 0, none⟩ 16 = true := fun p => (HV2.out.grown p).hasRow hal
                have h4 : ∀ p, rowAt (grown wr p) ⟨w.heap.size, 0, none⟩ 16 = ac := fun p => by rw [(HV2.out.grown p).rowAt hal, hac]
                go_wp2
                refine wp_region_quiet_grown (by kernel_rfl) (by kernel_rfl) ?_
                repeat (quiet_step ((go_at_call 126; first | (with_reducible exact quiet_grown (HA.out _)) | (with_reducible exact quiet_grown (HC.out _)))))
                refine wpQuiet_nil ?_; intro _ hw'; obtain ⟨pq, hw''⟩ := hw'; subst hw''
                go_wp2
                go_ret
                exact ⟨ret_str (by rw [← HT.out]; simp), below_grown HB2.out HB2.out.size _⟩
        · have hp8' : ¬ (p : Int) + n ≤ 8 := by omega
          have HNN : Hid (∀ n' a', n - 1 < n' → a' + n' ≤ 8 → winB z a' n' = false) := fun n' a' h h' => by
            by_cases e : n' = n
            · subst e; exact hno2.out a' (by omega)
            · exact hno.out n' a' (by omega) h'
          go_wp2
          go_roundw
          case rel => exact ⟨n - 1, by omega, by omega, by go_num, HB1.out, hsz1, HV1.out, HNN.out⟩
          case measure => simp [intOf]; omega
    · obtain rfl : n = 1 := by omega
      have HT := Lib.hid (HLAST.out hno.out)
      have HA := Lib.hid (HPT.out 0 8 (by omega) (by omega))
      generalize writtenL ((G.take 8).drop 0) = X at *
      go_wp2_with (go_at_call 126; refine (HA.out _).mono ?_; rintro e w1 ⟨rfl, hb1⟩; obtain ⟨p1, rfl⟩ := grown_of hb1; clear hb1)
      go_ret
      exact ⟨ret_str HT.out, below_grown HB.out HB.out.size _⟩
end
end Go.Proofs.YthklfbakffaioaaGreatDoor
