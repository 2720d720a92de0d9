/- The walks of Path, Right, usual and Text of URLs. -/
import Derived.Test.YtfnhkpfkaiamjaaGreatDoorUrl
import Derived.Test.YtfnhkpfkaiamjaaGreatDoorUrlP
import Derived.Test.YtfnhkpfkaiamjaaGreatDoorHostAll
namespace Go.Proofs.YtfnhkpfkaiamjaaGreatDoor
open Go Go.RowKit
set_option maxRecDepth 20000
set_option linter.unusedSimpArgs false
set_option linter.unusedVariables false

theorem ret_cell_tmp2 {P : Program} {fn : Func} {p u x : Tmp} {ty : TypeId} {R : Ending → World → Prop} {a : Act} {w : World} (g : Nat) (cs : Array Value) (v v2 : Value) (h : fn.results = #[.cell p ty, .tmp u, .tmp x]) (hp : a.tmps.getD p undef = .pointer (some ⟨g, 0, none⟩)) (hv : a.tmps.getD u undef = v) (hx : a.tmps.getD x undef = v2) (hagg : isAggT P ty = true)
    (hr : hasRow w ⟨g, 0, none⟩ (P.cellsOf ty) = true) (hc : rowAt w ⟨g, 0, none⟩ (P.cellsOf ty) = cs) (hd : a.defers = []) (hR : R (.returned (.tuple #[.agg cs, v, v2])) w) : bodyPost P fn R .ret a w := by
  refine bodyPost_ret (v := .tuple #[.agg cs, v, v2]) ?_ hd hR
  have hp' : a.tmps[p]?.getD undef = .pointer (some ⟨g, 0, none⟩) := by simpa using hp
  have hv' : a.tmps[u]?.getD undef = v := by simpa using hv
  have hx' : a.tmps[x]?.getD undef = v2 := by simpa using hx
  have := run_loadVar_agg (P := P) hagg ⟨g, 0, none⟩ w hr
  rw [hc] at this
  simp [results, h, hp', hv', hx', asAddr, this]
theorem pathOk_bad {s : List UInt8} (k : Nat) (h : k < s.length) (hc : pathC (s[k]'h) = false) : pathOk s = false := by
  have : s.all pathC = false := List.all_eq_false.2 ⟨_, List.getElem_mem h, by rw [hc]; decide⟩
  unfold pathOk
  rw [this]; simp
theorem pathOk_first {s : List UInt8} (h : 0 < s.length) (hc : s[0]'h ≠ 47) : pathOk s = false := by
  have : (s.headD 0 == 47) = false := by
    cases s with
    | nil => cases h
    | cons c t => rw [List.headD_cons, beq_eq_false_iff_ne]; exact hc
  unfold pathOk
  rw [this]; simp
theorem pathOk_long {s : List UInt8} (h : 2048 < s.length) : pathOk s = false := by
  unfold pathOk
  rw [decide_eq_false (by omega : ¬ s.length ≤ 2048)]; simp
theorem pathOk_good {s : List UInt8} (h : 0 < s.length) (hc : s[0]'h = 47) (hl : s.length ≤ 2048) (ha : s.all pathC = true) : pathOk s = true := by
  have : (s.headD 0 == 47) = true := by
    cases s with
    | nil => cases h
    | cons c t => rw [List.headD_cons, beq_iff_eq]; exact hc
  unfold pathOk
  rw [this, ha, decide_eq_true hl, decide_eq_true (by omega : 1 ≤ s.length)]; rfl
theorem all_take_path (l : List UInt8) (k : Nat) (h : k < l.length) : (l.take (k + 1)).all pathC = ((l.take k).all pathC && pathC (l[k]'h)) := by
  rw [List.take_succ_eq_append_getElem h, List.all_append]; simp
set_option maxHeartbeats 1000000 in
theorem urlPath_any (s : List UInt8) (hs : s.length ≤ maxLen) (w : World) :
    Calls Tryz.prog 31 #[.string ⟨s.toArray⟩] w fun e w' => e = .returned (.bool (pathOk s)) ∧ Below w.heap.size w w' := by
  unfold maxLen at hs
  rcases Nat.eq_zero_or_pos s.length with h0 | h0
  · obtain rfl := List.length_eq_zero_iff.1 h0
    go_enter Tryz.func31, Tryz.ntmps31
    go_wp2
    go_ret
    exact ⟨rfl, (by repeat (first | exact Below.refl _ _ | assumption | refine below_grown ?_ (by first | omega | (simp [go_sem]; done) | (simp [go_sem] <;> omega)) _ | refine Below.alloc ?_ (by first | omega | (simp [go_sem]; done) | (simp [go_sem] <;> omega)) _ | refine below_bytesW ?_ (by first | omega | (simp [go_sem]; done) | (simp [go_sem] <;> omega)) _ | refine Below.drew ?_ | refine below_drewN ?_ _))⟩
  · have hem : s.isEmpty = false := by rw [List.isEmpty_eq_false_iff]; exact List.length_pos_iff.1 h0
    have hem2 : (s == []) = false := by rw [beq_eq_false_iff_ne]; exact List.length_pos_iff.1 h0
    by_cases h1 : (2048 : Int) < s.length
    · rw [pathOk_long (by omega)]
      go_enter Tryz.func31, Tryz.ntmps31
      go_wp2
      go_ret
      exact ⟨rfl, (by repeat (first | exact Below.refl _ _ | assumption | refine below_grown ?_ (by first | omega | (simp [go_sem]; done) | (simp [go_sem] <;> omega)) _ | refine Below.alloc ?_ (by first | omega | (simp [go_sem]; done) | (simp [go_sem] <;> omega)) _ | refine below_bytesW ?_ (by first | omega | (simp [go_sem]; done) | (simp [go_sem] <;> omega)) _ | refine Below.drew ?_ | refine below_drewN ?_ _))⟩
    · by_cases h2 : s[0]'h0 = 47
      · have h2' : ∀ h, (((s[0]'h).toNat : Int) != 47) = false := fun h => by rw [h2]; rfl
        have HBAD : Hid (∀ k (h : k < s.length), pathC (s[k]'h) = false → pathOk s = false) := fun k h hc => pathOk_bad k h hc
        have HALL : Hid ((s.take s.length).all pathC = true → pathOk s = true) := fun h => pathOk_good h0 h2 (by omega) (by rwa [List.take_length] at h)
        generalize pathOk s = ok at *
        clear h2
        go_enter Tryz.func31, Tryz.ntmps31
        go_wp2
        go_loopw [20, 4] (fun i _ wr => ∃ k : Nat, k ≤ s.length ∧ i = .int .i64 k ∧ Below (bytesW w s).heap.size (bytesW w s) wr ∧ Hid ((s.take k).all pathC = true)) (fun i _ _ => s.length - (intOf i).toNat)
        case atStart => exact ⟨0, Nat.zero_le _, rfl, Below.refl _ _, rfl⟩
        case round =>
          obtain ⟨k, hk, rfl, hb, hinv⟩ := hrel
          have HB := Lib.hid (Below.trans (below_bytesW (Below.refl w.heap.size w) (Nat.le_refl _) s) (hb.mono (by simp [go_sem])))
          by_cases hlt : k < s.length
          · have hcell := bytesW_cell_after hb (b := w.heap.size) rfl k hlt
            have HS := Lib.hid (all_take_path s k hlt)
            have HBK := Lib.hid (HBAD.out k hlt)
            generalize s[k]'hlt = c at *
            rcases pathC_cases c with ⟨c1, hc⟩ | ⟨c1, hc⟩ | ⟨c1, c2, c3, c4, hc⟩ | ⟨c1, c2, c3, c4, hc⟩ | ⟨c1, c2, c3, c4, hc⟩
            · obtain rfl := HBK.out hc
              go_wp2
              go_ret
              exact ⟨rfl, HB.out⟩
            · obtain rfl := HBK.out hc
              have c1' : ¬ (c.toNat : Int) < 33 := by omega
              go_wp2
              go_ret
              exact ⟨rfl, HB.out⟩
            · obtain rfl := HBK.out hc
              have c1' : ¬ (c.toNat : Int) < 33 := by omega
              have c2' : ¬ (126 : Int) < (c.toNat : Int) := by omega
              go_wp2
              go_ret
              exact ⟨rfl, HB.out⟩
            · obtain rfl := HBK.out hc
              have c1' : ¬ (c.toNat : Int) < 33 := by omega
              have c2' : ¬ (126 : Int) < (c.toNat : Int) := by omega
              go_wp2
              go_ret
              exact ⟨rfl, HB.out⟩
            · have c1' : ¬ (c.toNat : Int) < 33 := by omega
              have c2' : ¬ (126 : Int) < (c.toNat : Int) := by omega
              go_wp2
              go_roundw
              case rel => exact ⟨k + 1, by omega, by go_num, hb, show _ = true by rw [HS.out, hinv.out, hc]; rfl⟩
              case measure => simp [intOf]; omega
          · obtain rfl : k = s.length := by omega
            obtain rfl := HALL.out hinv.out
            clear hinv HALL
            go_wp2
            go_ret
            exact ⟨rfl, HB.out⟩
      · rw [pathOk_first h0 h2]
        have h2' : ∀ h, (((s[0]'h).toNat : Int) != 47) = true := fun h => by rw [u8_lit_ne _ 47 47 rfl]; simpa using h2
        clear h2
        go_enter Tryz.func31, Tryz.ntmps31
        go_wp2
        go_ret
        exact ⟨rfl, (by repeat (first | exact Below.refl _ _ | assumption | refine below_grown ?_ (by first | omega | (simp [go_sem]; done) | (simp [go_sem] <;> omega)) _ | refine Below.alloc ?_ (by first | omega | (simp [go_sem]; done) | (simp [go_sem] <;> omega)) _ | refine below_bytesW ?_ (by first | omega | (simp [go_sem]; done) | (simp [go_sem] <;> omega)) _ | refine Below.drew ?_ | refine below_drewN ?_ _))⟩
set_option maxHeartbeats 1000000 in
theorem urlRight_any (se : Bool) (h : GHost) (po : Int) (pa : List UInt8) (hn : h.name.length ≤ 4294960000) (hp : pa.length ≤ maxLen) (m : Int) (w : World) (hm : HasMax m w) (htz : HasTz w) (hd : HasDec w) :
    Calls Tryz.prog 16 #[.agg (urlV se h po pa)] w fun e w' => e = .returned (.bool (rightU h po pa)) ∧ Below w.heap.size w w' := by
  have HR : Hid (∀ w, HasMax m w → HasTz w → HasDec w → Calls Tryz.prog 23 #[.agg (hostC h)] w fun e w' => e = .returned (.bool (rightB h)) ∧ Below w.heap.size w w') := fun w x y z => right_any h hn m w x y z
  have HP := Lib.hid (fun w => urlPath_any pa hp w)
  unfold rightU
  generalize pathOk pa = ok at *
  cases hr : rightB h
  · rw [hr] at HR
    go_enter Tryz.func16, Tryz.ntmps16
    go_wp2_with (go_at_call 23; refine (HR.out _ (by repeat (first | exact hm | apply HasMax.grown | apply HasMax.alloc | apply HasMax.drew)) (by repeat (first | exact htz | apply HasTz.grown | apply HasTz.alloc | apply HasTz.drew)) (by repeat (first | exact hd | apply HasDec.grown | apply HasDec.alloc | apply HasDec.drew))).mono ?_; rintro e w1 ⟨rfl, hb1⟩; obtain ⟨p1, rfl⟩ := grown_of hb1; clear hb1)
    go_ret
    exact ⟨by first | rfl | exact ret_bool (by simp), (by repeat (first | exact Below.refl _ _ | assumption | refine below_grown ?_ (by first | omega | (simp [go_sem]; done) | (simp [go_sem] <;> omega)) _ | refine Below.alloc ?_ (by first | omega | (simp [go_sem]; done) | (simp [go_sem] <;> omega)) _ | refine below_bytesW ?_ (by first | omega | (simp [go_sem]; done) | (simp [go_sem] <;> omega)) _ | refine Below.drew ?_ | refine below_drewN ?_ _))⟩
  · rw [hr] at HR
    by_cases h1 : (1 : Int) ≤ po
    · by_cases h2 : po ≤ (65535 : Int)
      · go_enter Tryz.func16, Tryz.ntmps16
        go_wp2_with (first
          | (go_at_call 23; refine (HR.out _ (by repeat (first | exact hm | apply HasMax.grown | apply HasMax.alloc | apply HasMax.drew)) (by repeat (first | exact htz | apply HasTz.grown | apply HasTz.alloc | apply HasTz.drew)) (by repeat (first | exact hd | apply HasDec.grown | apply HasDec.alloc | apply HasDec.drew))).mono ?_; rintro e w1 ⟨rfl, hb1⟩; obtain ⟨p1, rfl⟩ := grown_of hb1; clear hb1)
          | (go_at_call 31; refine (HP.out _).mono ?_; rintro e w1 ⟨rfl, hb1⟩; obtain ⟨p1, rfl⟩ := grown_of hb1; clear hb1))
        go_ret
        exact ⟨by first | rfl | exact ret_bool (by simp [h1, h2]), (by repeat (first | exact Below.refl _ _ | assumption | refine below_grown ?_ (by first | omega | (simp [go_sem]; done) | (simp [go_sem] <;> omega)) _ | refine Below.alloc ?_ (by first | omega | (simp [go_sem]; done) | (simp [go_sem] <;> omega)) _ | refine below_bytesW ?_ (by first | omega | (simp [go_sem]; done) | (simp [go_sem] <;> omega)) _ | refine Below.drew ?_ | refine below_drewN ?_ _))⟩
      · go_enter Tryz.func16, Tryz.ntmps16
        go_wp2_with (go_at_call 23; refine (HR.out _ (by repeat (first | exact hm | apply HasMax.grown | apply HasMax.alloc | apply HasMax.drew)) (by repeat (first | exact htz | apply HasTz.grown | apply HasTz.alloc | apply HasTz.drew)) (by repeat (first | exact hd | apply HasDec.grown | apply HasDec.alloc | apply HasDec.drew))).mono ?_; rintro e w1 ⟨rfl, hb1⟩; obtain ⟨p1, rfl⟩ := grown_of hb1; clear hb1)
        go_ret
        refine ⟨?_, (by repeat (first | exact Below.refl _ _ | assumption | refine below_grown ?_ (by first | omega | (simp [go_sem]; done) | (simp [go_sem] <;> omega)) _ | refine Below.alloc ?_ (by first | omega | (simp [go_sem]; done) | (simp [go_sem] <;> omega)) _ | refine below_bytesW ?_ (by first | omega | (simp [go_sem]; done) | (simp [go_sem] <;> omega)) _ | refine Below.drew ?_ | refine below_drewN ?_ _))⟩
        first | rfl | (apply ret_bool; simp; intros; omega)
    · go_enter Tryz.func16, Tryz.ntmps16
      go_wp2_with (go_at_call 23; refine (HR.out _ (by repeat (first | exact hm | apply HasMax.grown | apply HasMax.alloc | apply HasMax.drew)) (by repeat (first | exact htz | apply HasTz.grown | apply HasTz.alloc | apply HasTz.drew)) (by repeat (first | exact hd | apply HasDec.grown | apply HasDec.alloc | apply HasDec.drew))).mono ?_; rintro e w1 ⟨rfl, hb1⟩; obtain ⟨p1, rfl⟩ := grown_of hb1; clear hb1)
      go_ret
      refine ⟨?_, (by repeat (first | exact Below.refl _ _ | assumption | refine below_grown ?_ (by first | omega | (simp [go_sem]; done) | (simp [go_sem] <;> omega)) _ | refine Below.alloc ?_ (by first | omega | (simp [go_sem]; done) | (simp [go_sem] <;> omega)) _ | refine below_bytesW ?_ (by first | omega | (simp [go_sem]; done) | (simp [go_sem] <;> omega)) _ | refine Below.drew ?_ | refine below_drewN ?_ _))⟩
      first | rfl | (apply ret_bool; simp; intros; omega)
theorem usual_any (safe : Bool) (w : World) :
    Calls Tryz.prog 33 #[.bool safe] w fun e w' => e = .returned (.tuple #[.string ⟨(usualT safe).toArray⟩, .int .i64 (usualP safe)]) ∧ w = w' := by
  cases safe
  all_goals
    go_enter Tryz.func33, Tryz.ntmps33
    go_wp2
    go_ret2
    exact ⟨rfl, rfl⟩
theorem decDigits_len : ∀ (k n : Nat), n < 10 ^ (k + 1) → (Lib.decDigits n).length ≤ k + 1
  | 0, n, h => by rw [Lib.decDigits_one (by simpa using h)]; simp
  | k + 1, n, h => by
    by_cases h1 : n < 10
    · rw [Lib.decDigits_one h1]; simp
    · rw [Lib.decDigits, dif_neg h1, List.length_append]
      have := decDigits_len k (n / 10) (by rw [Nat.div_lt_iff_lt_mul (by omega)]; rw [Nat.pow_succ] at h; exact h)
      simp; omega
set_option maxHeartbeats 2000000 in
theorem urlText_any (se : Bool) (h : GHost) (po : Int) (pa : List UInt8) (hn : h.name.length ≤ 4294960000) (hp : pa.length ≤ 4294960000) (m : Int) (w : World) (hm : HasMax m w) (htz : HasTz w) (hd : HasDec w) :
    Calls Tryz.prog 18 #[.agg (urlV se h po pa)] w fun e w' => e = .returned (.string ⟨(textU se h po pa).toArray⟩) ∧ Below w.heap.size w w' := by
  have HR : Hid (∀ w, HasMax m w → HasTz w → HasDec w → Calls Tryz.prog 16 #[.agg (urlV se h po pa)] w fun e w' => e = .returned (.bool (rightU h po pa)) ∧ Below w.heap.size w w') := fun w x y z => urlRight_any se h po pa hn (by unfold maxLen; omega) m w x y z
  cases hr : rightU h po pa
  · rw [hr] at HR
    rw [show textU se h po pa = [] from if_neg (by rw [hr]; decide)]
    go_enter Tryz.func18, Tryz.ntmps18
    go_wp2_with (go_at_call 16; refine (HR.out _ (by repeat (first | exact hm | apply HasMax.grown | apply HasMax.alloc | apply HasMax.drew)) (by repeat (first | exact htz | apply HasTz.grown | apply HasTz.alloc | apply HasTz.drew)) (by repeat (first | exact hd | apply HasDec.grown | apply HasDec.alloc | apply HasDec.drew))).mono ?_; rintro e w1 ⟨rfl, hb1⟩; obtain ⟨p1, rfl⟩ := grown_of hb1; clear hb1)
    go_ret
    exact ⟨rfl, (by repeat (first | exact Below.refl _ _ | assumption | refine below_grown ?_ (by first | omega | (simp [go_sem]; done) | (simp [go_sem] <;> omega)) _ | refine Below.alloc ?_ (by first | omega | (simp [go_sem]; done) | (simp [go_sem] <;> omega)) _ | refine below_bytesW ?_ (by first | omega | (simp [go_sem]; done) | (simp [go_sem] <;> omega)) _ | refine Below.drew ?_ | refine below_drewN ?_ _))⟩
  · rw [hr] at HR
    rw [show textU se h po pa = goodT se h po pa from if_pos hr]
    unfold rightU at hr
    simp only [Bool.and_eq_true, decide_eq_true_eq] at hr
    obtain ⟨_, p1, p2, _⟩ := hr
    obtain ⟨n, rfl⟩ : ∃ n : Nat, po = n := ⟨po.toNat, by omega⟩
    have hnl := decDigits_len 4 n (by omega)
    have HU := Lib.hid (fun w => usual_any se w)
    have HT : Hid (∀ w, HasTz w → HasDec w → Calls Tryz.prog 34 #[.agg (hostC h)] w fun e w' => e = .returned (.string ⟨(textH h).toArray⟩) ∧ Below w.heap.size w w') := fun w x y => text_any h w x y
    have HI := Lib.hid (fun w x => itoa_any n (by omega) w x)
    have htl := textH_len h
    have hul : (usualT se).length ≤ 8 := by cases se <;> decide
    by_cases hq : (n : Int) = usualP se
    · have hq' : ((n : Int) != usualP se) = false := by rw [hq]; simp
      rw [show goodT se h n pa = usualT se ++ textH h ++ [] ++ pa by unfold goodT; rw [if_pos hq]]
      clear hq
      generalize usualT se = U at *
      generalize usualP se = P at *
      generalize textH h = T at *
      have n1 : ¬ 9223372036854775807 < U.length + T.length := by omega
      have n2 : ¬ 9223372036854775807 < U.length + T.length + pa.length := by omega
      have n3 : ¬ 9223372036854775807 < U.length + (T.length + pa.length) := by omega
      go_enter Tryz.func18, Tryz.ntmps18
      go_wp2_with (first
        | (go_at_call 16; refine (HR.out _ (by repeat (first | exact hm | apply HasMax.grown | apply HasMax.alloc | apply HasMax.drew)) (by repeat (first | exact htz | apply HasTz.grown | apply HasTz.alloc | apply HasTz.drew)) (by repeat (first | exact hd | apply HasDec.grown | apply HasDec.alloc | apply HasDec.drew))).mono ?_; rintro e w1 ⟨rfl, hb1⟩; obtain ⟨p1, rfl⟩ := grown_of hb1; clear hb1)
        | (go_at_call 33; refine (HU.out _).mono ?_; intro e w' h; obtain ⟨rfl, h2⟩ := h; subst w')
        | (go_at_call 34; refine (HT.out _ (by repeat (first | exact htz | apply HasTz.grown | apply HasTz.alloc | apply HasTz.drew)) (by repeat (first | exact hd | apply HasDec.grown | apply HasDec.alloc | apply HasDec.drew))).mono ?_; rintro e w1 ⟨rfl, hb1⟩; obtain ⟨p1, rfl⟩ := grown_of hb1; clear hb1))
      go_ret
      exact ⟨by first | rfl | exact ret_str (by simp), (by repeat (first | exact Below.refl _ _ | assumption | refine below_grown ?_ (by first | omega | (simp [go_sem]; done) | (simp [go_sem] <;> omega)) _ | refine Below.alloc ?_ (by first | omega | (simp [go_sem]; done) | (simp [go_sem] <;> omega)) _ | refine below_bytesW ?_ (by first | omega | (simp [go_sem]; done) | (simp [go_sem] <;> omega)) _ | refine Below.drew ?_ | refine below_drewN ?_ _))⟩
    · have hq' : ((n : Int) != usualP se) = true := by simpa using hq
      rw [show goodT se h n pa = usualT se ++ textH h ++ ([58] ++ Lib.decDigits n) ++ pa by unfold goodT; rw [if_neg hq]; rfl]
      clear hq
      generalize usualT se = U at *
      generalize usualP se = P at *
      generalize textH h = T at *
      generalize Lib.decDigits n = D at *
      have n1 : ¬ 9223372036854775807 < U.length + T.length := by omega
      have n4 : ¬ 9223372036854775807 < 1 + D.length := by omega
      have n5 : ¬ 9223372036854775807 < U.length + T.length + (D.length + 1) := by omega
      have n6 : ¬ 9223372036854775807 < U.length + (T.length + (D.length + 1)) + pa.length := by omega
      go_enter Tryz.func18, Tryz.ntmps18
      go_wp2_with (first
        | (go_at_call 16; refine (HR.out _ (by repeat (first | exact hm | apply HasMax.grown | apply HasMax.alloc | apply HasMax.drew)) (by repeat (first | exact htz | apply HasTz.grown | apply HasTz.alloc | apply HasTz.drew)) (by repeat (first | exact hd | apply HasDec.grown | apply HasDec.alloc | apply HasDec.drew))).mono ?_; rintro e w1 ⟨rfl, hb1⟩; obtain ⟨p1, rfl⟩ := grown_of hb1; clear hb1)
        | (go_at_call 33; refine (HU.out _).mono ?_; intro e w' h; obtain ⟨rfl, h2⟩ := h; subst w')
        | (go_at_call 34; refine (HT.out _ (by repeat (first | exact htz | apply HasTz.grown | apply HasTz.alloc | apply HasTz.drew)) (by repeat (first | exact hd | apply HasDec.grown | apply HasDec.alloc | apply HasDec.drew))).mono ?_; rintro e w1 ⟨rfl, hb1⟩; obtain ⟨p1, rfl⟩ := grown_of hb1; clear hb1)
        | (go_at_call 35; refine (HI.out _ (by repeat (first | exact hd | apply HasDec.grown | apply HasDec.alloc | apply HasDec.drew))).mono ?_; rintro e w1 ⟨rfl, hb1⟩; obtain ⟨p1, rfl⟩ := grown_of hb1; clear hb1))
      go_ret
      exact ⟨by first | rfl | exact ret_str (by simp), (by repeat (first | exact Below.refl _ _ | assumption | refine below_grown ?_ (by first | omega | (simp [go_sem]; done) | (simp [go_sem] <;> omega)) _ | refine Below.alloc ?_ (by first | omega | (simp [go_sem]; done) | (simp [go_sem] <;> omega)) _ | refine below_bytesW ?_ (by first | omega | (simp [go_sem]; done) | (simp [go_sem] <;> omega)) _ | refine Below.drew ?_ | refine below_drewN ?_ _))⟩
end Go.Proofs.YtfnhkpfkaiamjaaGreatDoor
