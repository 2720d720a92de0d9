/- The walk of Parse: the host that a text is. -/
import Derived.Test.YtmfjabpmhkechaaGreatDoorHostB
namespace Go.Proofs.YtmfjabpmhkechaaGreatDoor
open Go Go.RowKit
set_option maxRecDepth 20000
set_option linter.unusedSimpArgs false
set_option linter.unusedVariables false

theorem lowerL_len (l : List UInt8) : (lowerL l).length = l.length := by simp [lowerL]
theorem labs_len (l : List UInt8) : (labsL l).length ≤ l.length + 1 := by
  have := splitL_length_le 46 (lowerL l)
  rwa [lowerL_len] at this
theorem labs_piece (l : List UInt8) : ∀ p ∈ labsL l, p.length ≤ l.length := fun p hp => by
  have := splitL_piece_le 46 (lowerL l) p hp
  rwa [lowerL_len] at this
set_option maxHeartbeats 2000000 in
theorem parse_any (l : List UInt8) (hl : l.length ≤ 4294967279) (m : Int) (w : World) (hm : HasMax m w) :
    Calls Tryz.prog 48 #[.string ⟨l.toArray⟩] w fun e w' => e = .returned (.tuple #[.agg (hostC (parseH l)), .int .i64 (parseE l)]) ∧ Below w.heap.size w w' := by
  have HP : Hid (∀ w, Calls Tryz.prog 68 #[.string ⟨l.toArray⟩, .string ⟨[91].toArray⟩] w fun e w' => e = .returned (.tuple #[.string ⟨(in1 l).toArray⟩, .bool (six l)]) ∧ w = w') := fun w => cutPre_any l [91] w
  cases h6 : six l
  · rw [h6] at HP
    have HLW : Hid (∀ w, Calls Tryz.prog 72 #[.string ⟨l.toArray⟩] w fun e w' => e = .returned (.string ⟨(lowerL l).toArray⟩) ∧ Below w.heap.size w w') := fun w => lower_any l (by unfold maxLen; omega) w
    have HSP : Hid (∀ w, HasMax m w → Calls Tryz.prog 50 #[.string ⟨(lowerL l).toArray⟩, .int .u8 46] w (Gives strCod (labsL l) w)) := fun w hm => split_gives (lowerL l) 46 (by rw [lowerL_len]; omega) m w hm
    have HDG : Hid (∀ w, Calls Tryz.prog 73 #[.string ⟨(lastL l).toArray⟩] w fun e w' => e = .returned (.bool (lastD l)) ∧ Below w.heap.size w w') := fun w => digits_any (lastL l) (by
      have hlt : (labsL l).length - 1 < (labsL l).length := by have := List.length_pos_iff.2 (labs_ne l); omega
      have := labs_piece l _ (List.getElem_mem hlt)
      rw [lastL_eq l hlt] at this
      unfold maxLen; omega) w
    have HLE := Lib.hid (lastL_eq l)
    have HN := Lib.hid (labs_ne l)
    have hpos := List.length_pos_iff.2 (labs_ne l)
    have hLl := labs_len l
    have HPC := Lib.hid (labs_piece l)
    have HJN := Lib.hid (labs_join l)
    cases h4 : lastD l
    · rw [h4] at HDG
      rcases nameB_cases l with ⟨h1, h3⟩ | ⟨h1, h2, h3⟩ | ⟨h1, h2, h3⟩
      · obtain ⟨e1, e2⟩ := parse_none h6 h4 h3
        rw [e1, e2]
        have h1' : (253 : Int) < l.length := by omega
        clear e1 e2 h3 h6 h4
        generalize lowerL l = lw at *
        generalize lastL l = la at *
        generalize hLL : labsL l = L at *
        go_enter Tryz.func48, Tryz.ntmps48
        go_wp2_with (first
          | (go_at_call 68; refine (HP.out _).mono ?_; intro e w' h; obtain ⟨rfl, h2⟩ := h; subst w')
          | (go_at_call 72; refine (HLW.out _).mono ?_; rintro e w1 ⟨rfl, hb1⟩; obtain ⟨p1, rfl⟩ := grown_of hb1; clear hb1)
          | (go_at_call 50; refine (HSP.out _ (by repeat (first | exact hm | apply HasMax.grown | apply HasMax.alloc | apply HasMax.drew))).mono ?_; intro e w1 hg; obtain ⟨b, o, cap, rfl, hcap, hb1, hlo, hhi, hat⟩ := hg.some HN.out; have HBC := Lib.hid (bel_up (w := w) (by repeat (first | exact Below.refl _ _ | assumption | refine below_grown ?_ (by first | omega | (simp [go_sem]; done) | (simp [go_sem] <;> omega)) _ | refine Below.alloc ?_ (by first | omega | (simp [go_sem]; done) | (simp [go_sem] <;> omega)) _ | refine below_bytesW ?_ (by first | omega | (simp [go_sem]; done) | (simp [go_sem] <;> omega)) _ | refine Below.drew ?_ | refine below_drewN ?_ _)) hb1); have hcell := strAt hat _ (by omega : L.length - 1 < L.length); rw [HLE.out] at hcell; have HVR := Lib.hid (Var.below (Var.grown (Var.new w _ _ rfl rfl : Var (w.alloc _) w.heap.size (hostL zeroH)) _) hb1); have HMX := Lib.hid (HasMax.below (HasMax.grown (HasMax.alloc hm _) _) hb1); have hv := (fun p => (HVR.out.grown p).has (n := 18) rfl); have hv2 := (fun p q => ((HVR.out.grown p).grown q).has (n := 18) rfl); have hv4 := (fun p q o u => ((((HVR.out.grown p).grown q).alloc o).grown u).has (n := 18) rfl); have hv3 := (fun p q u => (((HVR.out.grown p).grown q).grown u).has (n := 18) rfl); have HAT := Lib.hid hat; clear hg hb1 hat)
          | (go_at_call 73; refine (HDG.out _).mono ?_; rintro e w1 ⟨rfl, hb1⟩; obtain ⟨p1, rfl⟩ := grown_of hb1; clear hb1))
        exact ret_cell_tmp w.heap.size (hostC zeroH) (.int .i64 31) rfl rfl rfl agg_host (by simp [go_sem, hv]) (by simp [go_sem, hv]) rfl ⟨rfl, below_setRow (below_grown HBC.out HBC.out.size _) (Nat.le_refl _) _⟩
      · obtain ⟨e1, e2⟩ := parse_none h6 h4 h3
        rw [e1, e2]
        have h1' : ¬ (253 : Int) < l.length := by omega
        clear e1 e2 h3 h6 h4
        generalize lowerL l = lw at *
        generalize lastL l = la at *
        generalize hLL : labsL l = L at *
        have HCF : Hid (∀ w b o cap, b < w.heap.size → ListAt strCod w b o L → Calls Tryz.prog 75 #[.slice (some ⟨b, o, none⟩) L.length cap, .func (.func 76) #[] #[]] w fun e w' => e = .returned (.bool true) ∧ Below w.heap.size w w') := fun w b o cap hb hat => by
          have := containsS_any L L.length cap b o rfl (by omega) w (fun p hp => by have := HPC.out p hp; unfold maxLen; omega) hb hat
          rwa [h2] at this
        clear h2
        go_enter Tryz.func48, Tryz.ntmps48
        go_wp2_with (first
          | (go_at_call 68; refine (HP.out _).mono ?_; intro e w' h; obtain ⟨rfl, h2⟩ := h; subst w')
          | (go_at_call 72; refine (HLW.out _).mono ?_; rintro e w1 ⟨rfl, hb1⟩; obtain ⟨p1, rfl⟩ := grown_of hb1; clear hb1)
          | (go_at_call 50; refine (HSP.out _ (by repeat (first | exact hm | apply HasMax.grown | apply HasMax.alloc | apply HasMax.drew))).mono ?_; intro e w1 hg; obtain ⟨b, o, cap, rfl, hcap, hb1, hlo, hhi, hat⟩ := hg.some HN.out; have HBC := Lib.hid (bel_up (w := w) (by repeat (first | exact Below.refl _ _ | assumption | refine below_grown ?_ (by first | omega | (simp [go_sem]; done) | (simp [go_sem] <;> omega)) _ | refine Below.alloc ?_ (by first | omega | (simp [go_sem]; done) | (simp [go_sem] <;> omega)) _ | refine below_bytesW ?_ (by first | omega | (simp [go_sem]; done) | (simp [go_sem] <;> omega)) _ | refine Below.drew ?_ | refine below_drewN ?_ _)) hb1); have hcell := strAt hat _ (by omega : L.length - 1 < L.length); rw [HLE.out] at hcell; have HVR := Lib.hid (Var.below (Var.grown (Var.new w _ _ rfl rfl : Var (w.alloc _) w.heap.size (hostL zeroH)) _) hb1); have HMX := Lib.hid (HasMax.below (HasMax.grown (HasMax.alloc hm _) _) hb1); have hv := (fun p => (HVR.out.grown p).has (n := 18) rfl); have hv2 := (fun p q => ((HVR.out.grown p).grown q).has (n := 18) rfl); have hv4 := (fun p q o u => ((((HVR.out.grown p).grown q).alloc o).grown u).has (n := 18) rfl); have hv3 := (fun p q u => (((HVR.out.grown p).grown q).grown u).has (n := 18) rfl); have HAT := Lib.hid hat; clear hg hb1 hat)
          | (go_at_call 73; refine (HDG.out _).mono ?_; rintro e w1 ⟨rfl, hb1⟩; obtain ⟨p1, rfl⟩ := grown_of hb1; clear hb1)
          | (go_at_call 75; refine (HCF.out _ b o cap (by simp [go_sem]; omega) (HAT.out.below (below_grown' _ _))).mono ?_; rintro e w1 ⟨rfl, hb1⟩; obtain ⟨p1, rfl⟩ := grown_of hb1; clear hb1))
        exact ret_cell_tmp w.heap.size (hostC zeroH) (.int .i64 31) rfl rfl rfl agg_host (by simp [go_sem, hv2]) (by simp [go_sem, hv2]) rfl ⟨rfl, below_setRow (below_grown (below_grown HBC.out HBC.out.size _) (by have := HBC.out.size; simp [go_sem]; omega) _) (Nat.le_refl _) _⟩
      · obtain ⟨e1, e2⟩ := parse_name h6 h4 h3
        rw [e1, e2, ← nameV_eq (by rw [lowerL_len]; exact h1)]
        have h1' : ¬ (253 : Int) < l.length := by omega
        have hll := lowerL_len l
        clear e1 e2 h3 h6 h4
        generalize lowerL l = lw at *
        generalize lastL l = la at *
        generalize hLL : labsL l = L at *
        have HCF : Hid (∀ w b o cap, b < w.heap.size → ListAt strCod w b o L → Calls Tryz.prog 75 #[.slice (some ⟨b, o, none⟩) L.length cap, .func (.func 76) #[] #[]] w fun e w' => e = .returned (.bool false) ∧ Below w.heap.size w w') := fun w b o cap hb hat => by
          have := containsS_any L L.length cap b o rfl (by omega) w (fun p hp => by have := HPC.out p hp; unfold maxLen; omega) hb hat
          rwa [h2] at this
        have HJ : Hid (∀ w b o cap, L.length ≤ cap → b < w.heap.size → ListAt strCod w b o L → Calls Tryz.prog 54 #[.slice (some ⟨b, o, none⟩) L.length cap, .string ⟨[46].toArray⟩] w fun e w' => e = .returned (.string ⟨lw.toArray⟩) ∧ Below w.heap.size w w') := fun w b o cap hc hb hat => by
          have := join_any L 46 (some ⟨b, o, none⟩) cap 0 hc (by omega) (by rw [HJN.out]; omega) w (.inr ⟨b, o, rfl, Nat.zero_le _, hb, hat⟩)
          rwa [HJN.out] at this
        clear h2
        go_enter Tryz.func48, Tryz.ntmps48
        go_wp2_with (first
          | (go_at_call 68; refine (HP.out _).mono ?_; intro e w' h; obtain ⟨rfl, h2⟩ := h; subst w')
          | (go_at_call 72; refine (HLW.out _).mono ?_; rintro e w1 ⟨rfl, hb1⟩; obtain ⟨p1, rfl⟩ := grown_of hb1; clear hb1)
          | (go_at_call 50; refine (HSP.out _ (by repeat (first | exact hm | apply HasMax.grown | apply HasMax.alloc | apply HasMax.drew))).mono ?_; intro e w1 hg; obtain ⟨b, o, cap, rfl, hcap, hb1, hlo, hhi, hat⟩ := hg.some HN.out; have HBC := Lib.hid (bel_up (w := w) (by repeat (first | exact Below.refl _ _ | assumption | refine below_grown ?_ (by first | omega | (simp [go_sem]; done) | (simp [go_sem] <;> omega)) _ | refine Below.alloc ?_ (by first | omega | (simp [go_sem]; done) | (simp [go_sem] <;> omega)) _ | refine below_bytesW ?_ (by first | omega | (simp [go_sem]; done) | (simp [go_sem] <;> omega)) _ | refine Below.drew ?_ | refine below_drewN ?_ _)) hb1); have hcell := strAt hat _ (by omega : L.length - 1 < L.length); rw [HLE.out] at hcell; have HVR := Lib.hid (Var.below (Var.grown (Var.new w _ _ rfl rfl : Var (w.alloc _) w.heap.size (hostL zeroH)) _) hb1); have HMX := Lib.hid (HasMax.below (HasMax.grown (HasMax.alloc hm _) _) hb1); have hv := (fun p => (HVR.out.grown p).has (n := 18) rfl); have hv2 := (fun p q => ((HVR.out.grown p).grown q).has (n := 18) rfl); have hv4 := (fun p q o u => ((((HVR.out.grown p).grown q).alloc o).grown u).has (n := 18) rfl); have hv3 := (fun p q u => (((HVR.out.grown p).grown q).grown u).has (n := 18) rfl); have HAT := Lib.hid hat; clear hg hb1 hat)
          | (go_at_call 73; refine (HDG.out _).mono ?_; rintro e w1 ⟨rfl, hb1⟩; obtain ⟨p1, rfl⟩ := grown_of hb1; clear hb1)
          | (go_at_call 75; refine (HCF.out _ b o cap (by simp [go_sem]; omega) (HAT.out.below (below_grown' _ _))).mono ?_; rintro e w1 ⟨rfl, hb1⟩; obtain ⟨p1, rfl⟩ := grown_of hb1; clear hb1)
          | (go_at_call 54; refine (HJ.out _ b o cap hcap (by simp [go_sem]; omega) ((HAT.out.below (below_grown' _ _)).below (below_grown' _ _))).mono ?_; rintro e w1 ⟨rfl, hb1⟩; obtain ⟨p1, rfl⟩ := grown_of hb1; clear hb1))
        exact ret_cell_tmp w.heap.size (nameV lw) (.int .i64 0) rfl rfl rfl agg_host (by simp [go_sem, hv3]) (by simp [go_sem, hv3]) rfl ⟨rfl, below_setRow (below_grown (below_grown (below_grown HBC.out HBC.out.size _) (by have := HBC.out.size; simp [go_sem]; omega) _) (by have := HBC.out.size; simp [go_sem]; omega) _) (Nat.le_refl _) _⟩
    · rw [h4] at HDG
      obtain ⟨e1, e2⟩ := parse_four h6 h4
      rw [e1, e2]
      have HV : Hid (∀ w, HasMax m w → Calls Tryz.prog 74 #[.string ⟨l.toArray⟩] w fun e w' => e = .returned (.tuple #[.agg (addrC (v4A l)), .bool (v4Ok l)]) ∧ Below w.heap.size w w') := fun w hm => v4_any l (by omega) m w hm
      have HA : Hid (∀ w, Calls Tryz.prog 71 #[.int .i64 2, .agg (addrC (v4A l)), .bool (v4Ok l)] w fun e w' => e = .returned (.tuple #[.agg (hostC (addrOk 2 (v4A l) (v4Ok l))), .int .i64 (errOf (v4Ok l))]) ∧ Below w.heap.size w w') := fun w => address2_any _ _ w
      clear e1 e2 h6 h4
      generalize lowerL l = lw at *
      generalize lastL l = la at *
      generalize hLL : labsL l = L at *
      generalize addrOk 2 (v4A l) (v4Ok l) = H at *
      generalize errOf (v4Ok l) = E at *
      generalize v4A l = A at *
      generalize v4Ok l = ok at *
      go_enter Tryz.func48, Tryz.ntmps48
      go_wp2_with (first
          | (go_at_call 68; refine (HP.out _).mono ?_; intro e w' h; obtain ⟨rfl, h2⟩ := h; subst w')
          | (go_at_call 72; refine (HLW.out _).mono ?_; rintro e w1 ⟨rfl, hb1⟩; obtain ⟨p1, rfl⟩ := grown_of hb1; clear hb1)
          | (go_at_call 50; refine (HSP.out _ (by repeat (first | exact hm | apply HasMax.grown | apply HasMax.alloc | apply HasMax.drew))).mono ?_; intro e w1 hg; obtain ⟨b, o, cap, rfl, hcap, hb1, hlo, hhi, hat⟩ := hg.some HN.out; have HBC := Lib.hid (bel_up (w := w) (by repeat (first | exact Below.refl _ _ | assumption | refine below_grown ?_ (by first | omega | (simp [go_sem]; done) | (simp [go_sem] <;> omega)) _ | refine Below.alloc ?_ (by first | omega | (simp [go_sem]; done) | (simp [go_sem] <;> omega)) _ | refine below_bytesW ?_ (by first | omega | (simp [go_sem]; done) | (simp [go_sem] <;> omega)) _ | refine Below.drew ?_ | refine below_drewN ?_ _)) hb1); have hcell := strAt hat _ (by omega : L.length - 1 < L.length); rw [HLE.out] at hcell; have HVR := Lib.hid (Var.below (Var.grown (Var.new w _ _ rfl rfl : Var (w.alloc _) w.heap.size (hostL zeroH)) _) hb1); have HMX := Lib.hid (HasMax.below (HasMax.grown (HasMax.alloc hm _) _) hb1); have hv := (fun p => (HVR.out.grown p).has (n := 18) rfl); have hv2 := (fun p q => ((HVR.out.grown p).grown q).has (n := 18) rfl); have hv4 := (fun p q o u => ((((HVR.out.grown p).grown q).alloc o).grown u).has (n := 18) rfl); have hv3 := (fun p q u => (((HVR.out.grown p).grown q).grown u).has (n := 18) rfl); have HAT := Lib.hid hat; clear hg hb1 hat)
          | (go_at_call 73; refine (HDG.out _).mono ?_; rintro e w1 ⟨rfl, hb1⟩; obtain ⟨p1, rfl⟩ := grown_of hb1; clear hb1)
          | (go_at_call 74; refine (HV.out _ (HasMax.grown HMX.out _)).mono ?_; rintro e w1 ⟨rfl, hb1⟩; obtain ⟨p1, rfl⟩ := grown_of hb1; clear hb1)
          | (go_at_call 71; refine (HA.out _).mono ?_; rintro e w1 ⟨rfl, hb1⟩; obtain ⟨p1, rfl⟩ := grown_of hb1; clear hb1))
      exact ret_cell_tmp w.heap.size (hostC H) (.int .i64 E) rfl rfl rfl agg_host (by simp [go_sem, hv4]) (by simp [go_sem, hv4]) rfl ⟨rfl, below_setRow (by repeat (first | exact HBC.out | refine below_grown ?_ (by have hbcs := HBC.out.size; first | omega | (simp [go_sem]; omega)) _ | refine Below.alloc ?_ (by have hbcs := HBC.out.size; first | omega | (simp [go_sem]; omega)) _)) (Nat.le_refl _) _⟩
  · rw [h6] at HP
    have HS : Hid (∀ w, Calls Tryz.prog 69 #[.string ⟨(in1 l).toArray⟩, .string ⟨[93].toArray⟩] w fun e w' => e = .returned (.tuple #[.string ⟨(in6 l).toArray⟩, .bool (closedB l)]) ∧ w = w') := fun w => cutSuf_any (in1 l) [93] (by have := in1_length l; omega) w
    have HV : Hid (∀ w, HasMax m w → Calls Tryz.prog 70 #[.string ⟨(in6 l).toArray⟩] w fun e w' => e = .returned (.tuple #[.agg (addrC (v6A (in6 l))), .bool (v6Ok (in6 l))]) ∧ Below w.heap.size w w') := fun w hm => v6_any (in6 l) (by have := in6_length l; omega) m w hm
    have HA : Hid (∀ w, Calls Tryz.prog 71 #[.int .i64 3, .agg (addrC (v6A (in6 l))), .bool (v6Ok (in6 l) && closedB l)] w fun e w' => e = .returned (.tuple #[.agg (hostC (addrOk 3 (v6A (in6 l)) (v6Ok (in6 l) && closedB l))), .int .i64 (errOf (v6Ok (in6 l) && closedB l))]) ∧ Below w.heap.size w w') := fun w => address3_any _ _ w
    obtain ⟨e1, e2⟩ := parse_six h6
    rw [e1, e2]
    clear e1 e2 h6
    generalize addrOk 3 (v6A (in6 l)) (v6Ok (in6 l) && closedB l) = H at *
    generalize errOf (v6Ok (in6 l) && closedB l) = E at *
    generalize v6A (in6 l) = A at *
    generalize in6 l = i6 at *
    generalize in1 l = i1 at *
    generalize closedB l = cl at *
    cases hv6 : v6Ok i6
    all_goals
      rw [hv6] at HA HV
      go_enter Tryz.func48, Tryz.ntmps48
      go_wp2_with (first
        | (go_at_call 68; refine (HP.out _).mono ?_; intro e w' h; obtain ⟨rfl, h2⟩ := h; subst w')
        | (go_at_call 69; refine (HS.out _).mono ?_; intro e w' h; obtain ⟨rfl, h2⟩ := h; subst w')
        | (go_at_call 70; refine (HV.out _ (by repeat (first | exact hm | apply HasMax.grown | apply HasMax.alloc | apply HasMax.drew))).mono ?_; rintro e w1 ⟨rfl, hb1⟩; obtain ⟨p1, rfl⟩ := grown_of hb1; clear hb1)
        | (go_at_call 71; refine (HA.out _).mono ?_; rintro e w1 ⟨rfl, hb1⟩; obtain ⟨p1, rfl⟩ := grown_of hb1; clear hb1))
      exact ret_cell_tmp w.heap.size (hostC H) (.int .i64 E) rfl rfl rfl agg_host (by simp [go_sem]) (by simp [go_sem]) rfl ⟨rfl, below_setRow (by repeat (first | exact Below.refl _ _ | assumption | refine below_grown ?_ (by first | omega | (simp [go_sem]; done) | (simp [go_sem] <;> omega)) _ | refine Below.alloc ?_ (by first | omega | (simp [go_sem]; done) | (simp [go_sem] <;> omega)) _ | refine below_bytesW ?_ (by first | omega | (simp [go_sem]; done) | (simp [go_sem] <;> omega)) _ | refine Below.drew ?_ | refine below_drewN ?_ _)) (Nat.le_refl _) _⟩
end Go.Proofs.YtmfjabpmhkechaaGreatDoor
