/- The walks of the document's hosts: label, Parse, Text, Right, Labels, Under. -/
import Derived.Test.YthklfbakffaioaaDoorHostParsen
import Derived.Test.YthklfbakffaioaaDoorAddrRef6n
namespace Go.Proofs.YthklfbakffaioaaDoor
open Go Go.RowKit
set_option maxRecDepth 20000
set_option linter.unusedSimpArgs false
set_option linter.unusedVariables false

theorem all_take_lab (l : List UInt8) (k : Nat) (h : k < l.length) : (l.take (k + 1)).all labC = ((l.take k).all labC && labC (l[k]'h)) := by
  rw [List.take_succ_eq_append_getElem h, List.all_append]; simp
theorem lab_bad {x : List UInt8} (k : Nat) (h : k < x.length) (hc : labC (x[k]'h) = false) : labOk x = false := by
  have : x.all labC = false := List.all_eq_false.2 ⟨_, List.getElem_mem h, by rw [hc]; decide⟩
  rw [labOk, this]; simp
theorem lab_good {x : List UInt8} (h : x.all labC = true) : labOk x = (decide ((1 : Int) ≤ x.length) && decide ((x.length : Int) ≤ 63)) := by
  rw [labOk, h]
  cases x with
  | nil => rfl
  | cons c t =>
    have : decide ((1 : Int) ≤ ((c :: t).length : Int)) = true := decide_eq_true (by simp; omega)
    rw [this]
    by_cases hl : (c :: t).length ≤ 63
    · rw [decide_eq_true hl, decide_eq_true (by omega : (((c :: t).length : Nat) : Int) ≤ 63)]; rfl
    · rw [decide_eq_false hl, decide_eq_false (by omega : ¬ (((c :: t).length : Nat) : Int) ≤ 63)]; rfl
set_option maxHeartbeats 1000000 in
theorem refLabel_any (x : List UInt8) (hx : x.length ≤ maxLen) (w : World) :
    Calls Tryd.prog 49 #[.string ⟨x.toArray⟩] w fun e w' => e = .returned (.bool (labOk x)) ∧ w = w' := by
  unfold maxLen at hx
  have HBAD : Hid (∀ k (h : k < x.length), labC (x[k]'h) = false → labOk x = false) := fun k h hc => lab_bad k h hc
  have HALL : Hid ((x.take x.length).all labC = true → labOk x = (decide ((1 : Int) ≤ x.length) && decide ((x.length : Int) ≤ 63))) := fun h => lab_good (by rwa [List.take_length] at h)
  generalize labOk x = ok at *
  go_enter Tryd.func49, Tryd.ntmps49
  go_wp2
  go_loop [3, 4] (fun i _ => ∃ k : Nat, k ≤ x.length ∧ i = .int .i64 k ∧ Hid ((x.take k).all labC = true)) (fun i _ => x.length - (intOf i).toNat)
  case atStart => exact ⟨0, Nat.zero_le _, rfl, rfl⟩
  case round =>
    obtain ⟨k, hk, rfl, hinv⟩ := hrel
    by_cases hlt : k < x.length
    · have HS := Lib.hid (all_take_lab x k hlt)
      have HB := Lib.hid (HBAD.out k hlt)
      obtain ⟨c, hcc⟩ : ∃ c, ∀ h, x[k]'h = c := ⟨x[k]'hlt, fun _ => rfl⟩
      rw [hcc] at HS HB
      rcases labC_cases c with ⟨h1, h2, hd⟩ | ⟨h1, h2, hd⟩ | ⟨h1, h2, hd⟩ | ⟨h1, h2, h3, hd⟩ | ⟨h1, h2, h3, hd⟩ | ⟨h1, h2, hd⟩ | ⟨h1, hd⟩
      · obtain rfl := HB.out hd
        have n1 : ((c.toNat : Int) != 45) = true := by rw [bne, h2]; rfl
        have n2 : ((c.toNat : Int) != 95) = true := by rw [bne_iff_ne]; omega
        have t1 : (c.toNat : Int) < 97 := by omega
        go_wp2
        go_ret
        exact ⟨rfl, rfl⟩
      · have n1 : ((c.toNat : Int) != 45) = false := by rw [bne, h2]; rfl
        have t1 : (c.toNat : Int) < 97 := by omega
        go_wp2
        go_round
        case rel => exact ⟨k + 1, by omega, by go_num, show _ = true by rw [HS.out, hinv.out, hd]; rfl⟩
        case measure => simp [intOf]; omega
      · have t1 : (c.toNat : Int) < 97 := by omega
        have t2 : ¬ (c.toNat : Int) < 48 := by omega
        have t3 : ¬ (57 : Int) < (c.toNat : Int) := by omega
        go_wp2
        go_round
        case rel => exact ⟨k + 1, by omega, by go_num, show _ = true by rw [HS.out, hinv.out, hd]; rfl⟩
        case measure => simp [intOf]; omega
      · obtain rfl := HB.out hd
        have n1 : ((c.toNat : Int) != 45) = true := by rw [bne_iff_ne]; omega
        have n2 : ((c.toNat : Int) != 95) = true := by rw [bne, h3]; rfl
        have t2 : ¬ (c.toNat : Int) < 48 := by omega
        go_wp2
        go_ret
        exact ⟨rfl, rfl⟩
      · have n1 : ((c.toNat : Int) != 45) = true := by rw [bne_iff_ne]; omega
        have n2 : ((c.toNat : Int) != 95) = false := by rw [bne, h3]; rfl
        have t2 : ¬ (c.toNat : Int) < 48 := by omega
        go_wp2
        go_round
        case rel => exact ⟨k + 1, by omega, by go_num, show _ = true by rw [HS.out, hinv.out, hd]; rfl⟩
        case measure => simp [intOf]; omega
      · have t1 : ¬ (c.toNat : Int) < 97 := by omega
        have t2 : ¬ (122 : Int) < (c.toNat : Int) := by omega
        go_wp2
        go_round
        case rel => exact ⟨k + 1, by omega, by go_num, show _ = true by rw [HS.out, hinv.out, hd]; rfl⟩
        case measure => simp [intOf]; omega
      · obtain rfl := HB.out hd
        have n1 : ((c.toNat : Int) != 45) = true := by rw [bne_iff_ne]; omega
        have n2 : ((c.toNat : Int) != 95) = true := by rw [bne_iff_ne]; omega
        have t1 : ¬ (c.toNat : Int) < 97 := by omega
        have t2 : ¬ (c.toNat : Int) < 48 := by omega
        have t3 : (57 : Int) < (c.toNat : Int) := by omega
        go_wp2
        go_ret
        exact ⟨rfl, rfl⟩
    · obtain rfl : k = x.length := by omega
      obtain rfl := HALL.out hinv.out
      clear HALL hinv
      by_cases h1 : (1 : Int) ≤ x.length
      all_goals
        go_wp2
        go_ret
        exact ⟨by first | rfl | exact ret_bool (by simp; try omega), rfl⟩

/-! ### Parse -/
theorem six_nil : six [] = false := rfl
theorem six_cons (c : UInt8) (t : List UInt8) : six (c :: t) = (c == 91) := by
  show ((91 : UInt8) == c && List.isPrefixOf [] t) = _
  rw [Bool.beq_comm]
  show ((c == 91) && true) = _
  rw [Bool.and_true]
theorem six_at {l : List UInt8} (h : 0 < l.length) : six l = (l[0]'h == 91) := by
  cases l with
  | nil => cases h
  | cons c t => exact six_cons c t
theorem in1_six {l : List UInt8} (h : six l = true) : in1 l = l.drop 1 := by
  unfold in1 Lib.trimPrefix
  unfold six at h
  rw [if_pos h]; rfl
theorem suffix_one (x : List UInt8) (c : UInt8) : Lib.hasSuffix x [c] = (x.getLast? == some c) := by
  unfold Lib.hasSuffix
  rw [Bool.eq_iff_iff, List.isSuffixOf_iff_suffix, beq_iff_eq]
  constructor
  · rintro ⟨t, rfl⟩
    simp
  · intro h
    obtain ⟨t, rfl⟩ := List.getLast?_eq_some_iff.1 h
    exact ⟨t, rfl⟩
theorem closed_at {l : List UInt8} (h : six l = true) (h0 : l.length - 1 < l.length) : closedB l = (l[l.length - 1]'h0 == 93) := by
  unfold closedB
  rw [in1_six h, suffix_one]
  cases l with
  | nil => cases h
  | cons c t =>
    rw [six_cons] at h
    obtain rfl : c = 91 := by simpa using h
    cases t with
    | nil => rfl
    | cons d t =>
      have e : ((91 : UInt8) :: d :: t).drop 1 = d :: t := rfl
      rw [e, List.getLast?_eq_getElem?, List.getElem?_eq_getElem (by simp)]
      simp
theorem in6_at {l : List UInt8} (h : six l = true) (hc : closedB l = true) : in6 l = l.tail.take (l.length - 1 - 1) := by
  unfold in6 Lib.trimSuffix
  unfold closedB at hc
  rw [if_pos hc, in1_six h, List.drop_one, List.length_tail]
  rfl
theorem closed_len {l : List UInt8} (h : six l = true) (hc : closedB l = true) : 2 ≤ l.length := by
  cases l with
  | nil => cases h
  | cons c t =>
    cases t with
    | nil =>
      rw [six_cons] at h
      obtain rfl : c = 91 := by simpa using h
      exact absurd hc (by decide)
    | cons d t => simp
theorem nameB_bad {l : List UInt8} (p : List UInt8) (hp : p ∈ labsL l) (h : labOk p = false) : nameB l = false := by
  unfold nameB
  rw [Bool.and_eq_false_iff]
  exact .inr (List.all_eq_false.2 ⟨p, hp, by rw [h]; decide⟩)
theorem nameB_long {l : List UInt8} (h : 253 < l.length) : nameB l = false := by
  unfold nameB
  rw [decide_eq_false (by omega)]; rfl
theorem nameB_good {l : List UInt8} (h : l.length ≤ 253) (ha : (labsL l).all labOk = true) : nameB l = true := by
  unfold nameB
  rw [decide_eq_true h, ha]; rfl
theorem all_take_labs (L : List (List UInt8)) (k : Nat) (h : k < L.length) : (L.take (k + 1)).all labOk = ((L.take k).all labOk && labOk (L[k]'h)) := by
  rw [List.take_succ_eq_append_getElem h, List.all_append]; simp
theorem addrOk_no (k : Int) (a : GAddr) : addrOk k a false = zeroH := rfl
set_option maxRecDepth 100000 in
set_option maxHeartbeats 2000000 in
theorem refParse_any (l : List UInt8) (hl : l.length ≤ 2000000000) (w : World) :
    Calls Tryd.prog 29 #[.string ⟨l.toArray⟩] w fun e w' => e = .returned (.tuple #[.agg (hostC (parseH l)), .int .i64 (parseE l)]) ∧ Below w.heap.size w w' := by
  cases h6 : six l
  · have hfirst : l.length = 0 ∨ (0 < l.length ∧ ∀ h, (((l[0]'h).toNat : Int) == 91) = false) := by
      rcases Nat.eq_zero_or_pos l.length with h | h
      · exact .inl h
      · refine .inr ⟨h, fun h => ?_⟩
        rw [u8_lit _ 91 91 rfl, ← six_at h, h6]
    have HLW : Hid (∀ w, Calls Tryd.prog 46 #[.string ⟨l.toArray⟩] w fun e w' => e = .returned (.string ⟨(lowerL l).toArray⟩) ∧ Below w.heap.size w w') := fun w => refLower_any l (by unfold maxLen; omega) w
    have HSP : Hid (∀ w, Calls Tryd.prog 27 #[.string ⟨(lowerL l).toArray⟩, .int .u8 46] w (Gives strCod (labsL l) w)) := fun w => refSplit_any (lowerL l) 46 (by rw [lowerL_len]; omega) w
    have HDG : Hid (∀ w, Calls Tryd.prog 47 #[.string ⟨(lastL l).toArray⟩] w fun e w' => e = .returned (.bool (lastD l)) ∧ w = w') := fun w => refDigits_any (lastL l) (by
      have hlt : (labsL l).length - 1 < (labsL l).length := by have := List.length_pos_iff.2 (labs_ne l); omega
      have := labs_piece l _ (List.getElem_mem hlt)
      rw [lastL_eq l hlt] at this
      unfold maxLen; omega) w
    have HLE := Lib.hid (lastL_eq l)
    have HN := Lib.hid (labs_ne l)
    have hpos := List.length_pos_iff.2 (labs_ne l)
    have hLl := labs_len l
    have HPC := Lib.hid (labs_piece l)
    have hll := lowerL_len l
    cases h4 : lastD l
    · rw [h4] at HDG
      have HBAD : Hid (∀ p ∈ labsL l, labOk p = false → parseH l = zeroH ∧ parseE l = 31) := fun p hp h => parse_none h6 h4 (nameB_bad p hp h)
      have HLONG : Hid (253 < l.length → parseH l = zeroH ∧ parseE l = 31) := fun h => parse_none h6 h4 (nameB_long h)
      have HGOOD : Hid (l.length ≤ 253 → (labsL l).all labOk = true → hostC (parseH l) = nameV (lowerL l) ∧ parseE l = 0) := fun h ha => by
        obtain ⟨e1, e2⟩ := parse_name h6 h4 (nameB_good h ha)
        rw [e1, e2]
        exact ⟨(nameV_eq (by rw [hll]; exact h)).symm, rfl⟩
      clear h6 h4
      generalize lowerL l = lw at *
      generalize lastL l = la at *
      generalize labsL l = L at *
      generalize parseH l = H at *
      generalize parseE l = E at *
      rcases hfirst with h0 | ⟨h0, h0'⟩
      all_goals
        go_enter Tryd.func29, Tryd.ntmps29
        go_wp2_with (first
          | (go_at_call 46; refine (HLW.out _).mono ?_; rintro e w1 ⟨rfl, hb1⟩; obtain ⟨p1, rfl⟩ := grown_of hb1; clear hb1)
          | (go_at_call 27; refine (HSP.out _).mono ?_; intro e w1 hg; obtain ⟨b, o, cap, rfl, hcap, hb1, hlo, hhi, hat⟩ := hg.some HN.out; have HBC := Lib.hid (bel_up (w := w) (by repeat (first | exact Below.refl _ _ | assumption | refine below_grown ?_ (by first | omega | (simp [go_sem]; done) | (simp [go_sem] <;> omega)) _ | refine Below.alloc ?_ (by first | omega | (simp [go_sem]; done) | (simp [go_sem] <;> omega)) _ | refine below_bytesW ?_ (by first | omega | (simp [go_sem]; done) | (simp [go_sem] <;> omega)) _ | refine Below.drew ?_ | refine below_drewN ?_ _)) hb1); have hcell := strAt hat _ (by omega : L.length - 1 < L.length); rw [HLE.out] at hcell; have HVR := Lib.hid (Var.below (Var.grown (Var.new w _ _ rfl rfl : Var (w.alloc _) w.heap.size (hostL zeroH)) _) hb1); have HAT := Lib.hid hat; clear hg hb1 hat)
          | (go_at_call 47; refine (HDG.out _).mono ?_; intro e w' h; obtain ⟨rfl, h2⟩ := h; subst w'))
        go_loop [64, 11] (fun i _ => ∃ k : Nat, k ≤ L.length ∧ i = .int .i64 k ∧ Hid ((L.take k).all labOk = true)) (fun i _ => L.length - (intOf i).toNat)
        case atStart => exact ⟨0, Nat.zero_le _, rfl, rfl⟩
        case round =>
          obtain ⟨k, hk, rfl, hinv⟩ := hrel
          have hv := HVR.out.has (n := 18) rfl
          by_cases hlt : k < L.length
          · have hcl := strAt HAT.out k hlt
            have HS := Lib.hid (all_take_labs L k hlt)
            have HB := Lib.hid (HBAD.out _ (List.getElem_mem hlt))
            have HR := Lib.hid (refLabel_any (L[k]'hlt) (by have := HPC.out _ (List.getElem_mem hlt); unfold maxLen; omega))
            generalize L[k]'hlt = x at *
            cases hc : labOk x
            · obtain ⟨rfl, rfl⟩ := HB.out hc
              rw [hc] at HR
              go_wp2_with (go_at_call 49; refine (HR.out _).mono ?_; intro e w' h; obtain ⟨rfl, h2⟩ := h; subst w')
              exact ret_cell_tmp w.heap.size (hostC zeroH) (.int .i64 31) rfl rfl rfl agg_host (by simp [go_sem, hv]) (by simp [go_sem, hv]) rfl ⟨rfl, below_setRow HBC.out (Nat.le_refl _) _⟩
            · rw [hc] at HR
              go_wp2_with (go_at_call 49; refine (HR.out _).mono ?_; intro e w' h; obtain ⟨rfl, h2⟩ := h; subst w')
              go_round
              case rel => exact ⟨k + 1, by omega, by go_num, show _ = true by rw [HS.out, hinv.out, hc]; rfl⟩
              case measure => simp [intOf]; omega
          · obtain rfl : k = L.length := by omega
            have hall := hinv.out
            rw [List.take_length] at hall
            by_cases hlong : (253 : Int) < l.length
            · first
                | (exfalso; omega)
                | (obtain ⟨rfl, rfl⟩ := HLONG.out (by omega)
                   clear hall hinv
                   go_wp2
                   exact ret_cell_tmp w.heap.size (hostC zeroH) (.int .i64 31) rfl rfl rfl agg_host (by simp [go_sem, hv]) (by simp [go_sem, hv]) rfl ⟨rfl, below_setRow HBC.out (Nat.le_refl _) _⟩)
            · obtain ⟨hH, rfl⟩ := HGOOD.out (by omega) hall
              have HH := Lib.hid hH
              clear hall hinv hH
              go_wp2
              exact ret_cell_tmp w.heap.size (nameV lw) (.int .i64 0) rfl rfl rfl agg_host (by simp [go_sem, hv]) (by simp [go_sem, hv]) rfl ⟨by rw [HH.out], below_setRow HBC.out (Nat.le_refl _) _⟩
    · rw [h4] at HDG
      obtain ⟨e1, e2⟩ := parse_four h6 h4
      rw [e1, e2]
      have HV : Hid (∀ w, Calls Tryd.prog 48 #[.string ⟨l.toArray⟩] w fun e w' => e = .returned (.tuple #[.agg (addrC (v4A l)), .bool (v4Ok l)]) ∧ Below w.heap.size w w') := fun w => refV4_any l (by omega) w
      clear e1 e2 h6 h4
      generalize lowerL l = lw at *
      generalize lastL l = la at *
      generalize labsL l = L at *
      generalize v4A l = A at *
      generalize v4Ok l = ok at *
      rcases hfirst with h0 | ⟨h0, h0'⟩
      all_goals
        cases ok
        all_goals
          go_enter Tryd.func29, Tryd.ntmps29
          go_wp2_with (first
            | (go_at_call 46; refine (HLW.out _).mono ?_; rintro e w1 ⟨rfl, hb1⟩; obtain ⟨p1, rfl⟩ := grown_of hb1; clear hb1)
            | (go_at_call 27; refine (HSP.out _).mono ?_; intro e w1 hg; obtain ⟨b, o, cap, rfl, hcap, hb1, hlo, hhi, hat⟩ := hg.some HN.out; have HBC := Lib.hid (bel_up (w := w) (by repeat (first | exact Below.refl _ _ | assumption | refine below_grown ?_ (by first | omega | (simp [go_sem]; done) | (simp [go_sem] <;> omega)) _ | refine Below.alloc ?_ (by first | omega | (simp [go_sem]; done) | (simp [go_sem] <;> omega)) _ | refine below_bytesW ?_ (by first | omega | (simp [go_sem]; done) | (simp [go_sem] <;> omega)) _ | refine Below.drew ?_ | refine below_drewN ?_ _)) hb1); have hcell := strAt hat _ (by omega : L.length - 1 < L.length); rw [HLE.out] at hcell; have HVR := Lib.hid (Var.below (Var.grown (Var.new w _ _ rfl rfl : Var (w.alloc _) w.heap.size (hostL zeroH)) _) hb1); have hv := (fun p o => ((HVR.out.grown p).alloc o).has (n := 18) rfl); have HAT := Lib.hid hat; clear hg hb1 hat)
            | (go_at_call 47; refine (HDG.out _).mono ?_; intro e w' h; obtain ⟨rfl, h2⟩ := h; subst w')
            | (go_at_call 48; refine (HV.out _).mono ?_; rintro e w1 ⟨rfl, hb1⟩; obtain ⟨p1, rfl⟩ := grown_of hb1; clear hb1))
        · exact ret_cell_tmp w.heap.size (hostC zeroH) (.int .i64 31) rfl rfl rfl agg_host (by simp [go_sem, hv]) (by simp [go_sem, hv]) rfl ⟨rfl, below_setRow (by repeat (first | exact HBC.out | refine below_grown ?_ (by have hbcs := HBC.out.size; first | omega | (simp [go_sem]; omega)) _ | refine Below.alloc ?_ (by have hbcs := HBC.out.size; first | omega | (simp [go_sem]; omega)) _)) (Nat.le_refl _) _⟩
        · exact ret_cell_tmp w.heap.size (hostC (v4H A)) (.int .i64 0) rfl rfl rfl agg_host (by simp [go_sem, hv]) (by simp [go_sem, hv]) rfl ⟨rfl, below_setRow (by repeat (first | exact HBC.out | refine below_grown ?_ (by have hbcs := HBC.out.size; first | omega | (simp [go_sem]; omega)) _ | refine Below.alloc ?_ (by have hbcs := HBC.out.size; first | omega | (simp [go_sem]; omega)) _)) (Nat.le_refl _) _⟩
  · have h0 : 0 < l.length := by
      cases l with
      | nil => cases h6
      | cons c t => simp
    have h0' : ∀ h, (((l[0]'h).toNat : Int) == 91) = true := fun h => by rw [u8_lit _ 91 91 rfl, ← six_at h, h6]
    obtain ⟨e1, e2⟩ := parse_six h6
    rw [e1, e2]
    have hcl := closed_at h6 (by omega)
    have hcc : ∀ h, (((l[l.length - 1]'h).toNat : Int) != 93) = !closedB l := fun h => by rw [hcl, u8_lit_ne _ 93 93 rfl]; rfl
    cases hc : closedB l
    · rw [hc] at hcc
      rw [Bool.and_false]
      clear hcl e1 e2 hc
      go_enter Tryd.func29, Tryd.ntmps29
      go_wp2
      exact ret_cell_tmp w.heap.size (hostC zeroH) (.int .i64 31) rfl rfl rfl agg_host (by simp [go_sem]) (by simp [go_sem]) rfl ⟨rfl, (by repeat (first | exact Below.refl _ _ | assumption | refine below_grown ?_ (by first | omega | (simp [go_sem]; done) | (simp [go_sem] <;> omega)) _ | refine Below.alloc ?_ (by first | omega | (simp [go_sem]; done) | (simp [go_sem] <;> omega)) _ | refine below_bytesW ?_ (by first | omega | (simp [go_sem]; done) | (simp [go_sem] <;> omega)) _ | refine Below.drew ?_ | refine below_drewN ?_ _))⟩
    · rw [hc] at hcc
      rw [Bool.and_true]
      have h2 := closed_len h6 hc
      have HI := Lib.hid (in6_at h6 hc)
      have HV : Hid (∀ w, Calls Tryd.prog 45 #[.string ⟨(in6 l).toArray⟩] w fun e w' => e = .returned (.tuple #[.agg (addrC (v6A (in6 l))), .bool (v6Ok (in6 l))]) ∧ Below w.heap.size w w') := fun w => refV6_any (in6 l) (by have := in6_length l; omega) w
      clear hcl e1 e2 hc
      generalize v6A (in6 l) = A at *
      generalize v6Ok (in6 l) = ok at *
      rw [HI.out] at HV
      cases ok
      all_goals
        go_enter Tryd.func29, Tryd.ntmps29
        go_wp2_with (go_at_call 45; refine (HV.out _).mono ?_; rintro e w1 ⟨rfl, hb1⟩; obtain ⟨p1, rfl⟩ := grown_of hb1; clear hb1)
      · exact ret_cell_tmp w.heap.size (hostC zeroH) (.int .i64 31) rfl rfl rfl agg_host (by simp [go_sem]) (by simp [go_sem]) rfl ⟨rfl, below_setRow (by repeat (first | exact Below.refl _ _ | assumption | refine below_grown ?_ (by first | omega | (simp [go_sem]; done) | (simp [go_sem] <;> omega)) _ | refine Below.alloc ?_ (by first | omega | (simp [go_sem]; done) | (simp [go_sem] <;> omega)) _ | refine below_bytesW ?_ (by first | omega | (simp [go_sem]; done) | (simp [go_sem] <;> omega)) _ | refine Below.drew ?_ | refine below_drewN ?_ _)) (Nat.le_refl _) _⟩
      · exact ret_cell_tmp w.heap.size (hostC (v6H A)) (.int .i64 0) rfl rfl rfl agg_host (by simp [go_sem]) (by simp [go_sem]) rfl ⟨rfl, below_setRow (by repeat (first | exact Below.refl _ _ | assumption | refine below_grown ?_ (by first | omega | (simp [go_sem]; done) | (simp [go_sem] <;> omega)) _ | refine Below.alloc ?_ (by first | omega | (simp [go_sem]; done) | (simp [go_sem] <;> omega)) _ | refine below_bytesW ?_ (by first | omega | (simp [go_sem]; done) | (simp [go_sem] <;> omega)) _ | refine Below.drew ?_ | refine below_drewN ?_ _)) (Nat.le_refl _) _⟩
/-! ### Text, Right, Labels, Under -/
end Go.Proofs.YthklfbakffaioaaDoor
