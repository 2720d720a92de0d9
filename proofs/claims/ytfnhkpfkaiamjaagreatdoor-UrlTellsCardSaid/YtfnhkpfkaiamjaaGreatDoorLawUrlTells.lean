/- The walks of the document's Path, Right, decimal and Text of URLs, and of the statement UrlTells. -/
import Derived.Test.YtfnhkpfkaiamjaaGreatDoorUrlAlive
namespace Go.Proofs.YtfnhkpfkaiamjaaGreatDoor
open Go Go.RowKit
set_option maxRecDepth 20000
set_option linter.unusedSimpArgs false
set_option linter.unusedVariables false

theorem pathOk_end {s : List UInt8} (ha : s.all pathC = true) : pathOk s = (decide ((1 : Int) ≤ s.length) && (decide ((s.length : Int) ≤ 2048) && (s.headD 0 == 47))) := by
  unfold pathOk
  rw [ha, Bool.and_true]
  congr 1
  · rw [decide_eq_decide]; omega
  · congr 1
    rw [decide_eq_decide]; omega
set_option maxHeartbeats 1000000 in
theorem refUPath_any (s : List UInt8) (hs : s.length ≤ maxLen) (w : World) :
    Calls Tryz.prog 32 #[.string ⟨s.toArray⟩] w fun e w' => e = .returned (.bool (pathOk s)) ∧ w = w' := by
  unfold maxLen at hs
  have HBAD : Hid (∀ k (h : k < s.length), pathC (s[k]'h) = false → pathOk s = false) := fun k h hc => pathOk_bad k h hc
  have HALL : Hid ((s.take s.length).all pathC = true → pathOk s = (decide ((1 : Int) ≤ s.length) && (decide ((s.length : Int) ≤ 2048) && (s.headD 0 == 47)))) := fun h => pathOk_end (by rwa [List.take_length] at h)
  generalize pathOk s = ok at *
  go_enter Tryz.func32, Tryz.ntmps32
  go_wp2
  go_loop [3] (fun i => ∃ k : Nat, k ≤ s.length ∧ i = .int .i64 k ∧ Hid ((s.take k).all pathC = true)) (fun i => s.length - (intOf i).toNat)
  case atStart => exact ⟨0, Nat.zero_le _, rfl, rfl⟩
  case round =>
    obtain ⟨k, hk, rfl, hinv⟩ := hrel
    by_cases hlt : k < s.length
    · have HS := Lib.hid (all_take_path s k hlt)
      have HBK := Lib.hid (HBAD.out k hlt)
      obtain ⟨c, hcc⟩ : ∃ c, ∀ h, s[k]'h = c := ⟨s[k]'hlt, fun _ => rfl⟩
      rw [hcc] at HS HBK
      rcases pathC_cases c with ⟨c1, hc⟩ | ⟨c1, hc⟩ | ⟨c1, c2, c3, c4, hc⟩ | ⟨c1, c2, c3, c4, hc⟩ | ⟨c1, c2, c3, c4, hc⟩
      · obtain rfl := HBK.out hc
        go_wp2
        go_ret
        exact ⟨rfl, rfl⟩
      · obtain rfl := HBK.out hc
        have c1' : ¬ (c.toNat : Int) < 33 := by omega
        go_wp2
        go_ret
        exact ⟨rfl, rfl⟩
      · obtain rfl := HBK.out hc
        have c1' : ¬ (c.toNat : Int) < 33 := by omega
        have c2' : ¬ (126 : Int) < (c.toNat : Int) := by omega
        go_wp2
        go_ret
        exact ⟨rfl, rfl⟩
      · obtain rfl := HBK.out hc
        have c1' : ¬ (c.toNat : Int) < 33 := by omega
        have c2' : ¬ (126 : Int) < (c.toNat : Int) := by omega
        go_wp2
        go_ret
        exact ⟨rfl, rfl⟩
      · have c1' : ¬ (c.toNat : Int) < 33 := by omega
        have c2' : ¬ (126 : Int) < (c.toNat : Int) := by omega
        go_wp2
        go_round
        case rel => exact ⟨k + 1, by omega, by go_num, show _ = true by rw [HS.out, hinv.out, hc]; rfl⟩
        case measure => simp [intOf]; omega
    · obtain rfl : k = s.length := by omega
      obtain rfl := HALL.out hinv.out
      clear HALL hinv HBAD
      by_cases h1 : (1 : Int) ≤ s.length
      · have h1n : 0 < s.length := by omega
        have hh : ∀ h, (((s[0]'h).toNat : Int) == 47) = (s.headD 0 == 47) := fun h => by
          rw [u8_lit _ 47 47 rfl]
          cases s with
          | nil => cases h
          | cons c t => rfl
        generalize hb : (s.headD 0 == 47) = b at *
        have HBQ := Lib.hid hb
        clear hb
        by_cases h2 : (s.length : Int) ≤ 2048
        · go_wp2
          go_ret
          refine ⟨?_, rfl⟩
          apply ret_bool
          rw [← HBQ.out]
          simp
        · go_wp2
          go_ret
          refine ⟨?_, rfl⟩
          first | rfl | (apply ret_bool; simp; intros; omega)
      · go_wp2
        go_ret
        refine ⟨?_, rfl⟩
        first | rfl | (apply ret_bool; simp; intros; omega)
set_option maxHeartbeats 1000000 in
theorem refURight_any (se : Bool) (h : GHost) (po : Int) (pa : List UInt8) (hn : h.name.length ≤ 1999990000) (hp : pa.length ≤ maxLen) (w : World) :
    Calls Tryz.prog 17 #[.agg (urlV se h po pa)] w fun e w' => e = .returned (.bool (rightU h po pa)) ∧ Below w.heap.size w w' := by
  have HR : Hid (∀ w, Calls Tryz.prog 14 #[.agg (hostC h)] w fun e w' => e = .returned (.bool (rightB h)) ∧ Below w.heap.size w w') := fun w => refRight_any h hn w
  have HP := Lib.hid (fun w => refUPath_any pa hp w)
  unfold rightU
  generalize pathOk pa = ok at *
  cases hr : rightB h
  · rw [hr] at HR
    go_enter Tryz.func17, Tryz.ntmps17
    go_wp2_with (go_at_call 14; refine (HR.out _).mono ?_; rintro e w1 ⟨rfl, hb1⟩; obtain ⟨p1, rfl⟩ := grown_of hb1; clear hb1)
    go_ret
    exact ⟨by first | rfl | exact ret_bool (by simp), (by repeat (first | exact Below.refl _ _ | assumption | refine below_grown ?_ (by first | omega | (simp [go_sem]; done) | (simp [go_sem] <;> omega)) _ | refine Below.alloc ?_ (by first | omega | (simp [go_sem]; done) | (simp [go_sem] <;> omega)) _ | refine below_bytesW ?_ (by first | omega | (simp [go_sem]; done) | (simp [go_sem] <;> omega)) _ | refine Below.drew ?_ | refine below_drewN ?_ _))⟩
  · rw [hr] at HR
    by_cases h1 : (1 : Int) ≤ po
    · by_cases h2 : po ≤ (65535 : Int)
      · go_enter Tryz.func17, Tryz.ntmps17
        go_wp2_with (first
          | (go_at_call 14; refine (HR.out _).mono ?_; rintro e w1 ⟨rfl, hb1⟩; obtain ⟨p1, rfl⟩ := grown_of hb1; clear hb1)
          | (go_at_call 32; refine (HP.out _).mono ?_; intro e w' h; obtain ⟨rfl, h2⟩ := h; subst w'))
        go_ret
        exact ⟨by first | rfl | exact ret_bool (by simp [h1, h2]), (by repeat (first | exact Below.refl _ _ | assumption | refine below_grown ?_ (by first | omega | (simp [go_sem]; done) | (simp [go_sem] <;> omega)) _ | refine Below.alloc ?_ (by first | omega | (simp [go_sem]; done) | (simp [go_sem] <;> omega)) _ | refine below_bytesW ?_ (by first | omega | (simp [go_sem]; done) | (simp [go_sem] <;> omega)) _ | refine Below.drew ?_ | refine below_drewN ?_ _))⟩
      · go_enter Tryz.func17, Tryz.ntmps17
        go_wp2_with (go_at_call 14; refine (HR.out _).mono ?_; rintro e w1 ⟨rfl, hb1⟩; obtain ⟨p1, rfl⟩ := grown_of hb1; clear hb1)
        go_ret
        refine ⟨?_, (by repeat (first | exact Below.refl _ _ | assumption | refine below_grown ?_ (by first | omega | (simp [go_sem]; done) | (simp [go_sem] <;> omega)) _ | refine Below.alloc ?_ (by first | omega | (simp [go_sem]; done) | (simp [go_sem] <;> omega)) _ | refine below_bytesW ?_ (by first | omega | (simp [go_sem]; done) | (simp [go_sem] <;> omega)) _ | refine Below.drew ?_ | refine below_drewN ?_ _))⟩
        first | rfl | (apply ret_bool; simp; intros; omega)
    · go_enter Tryz.func17, Tryz.ntmps17
      go_wp2_with (go_at_call 14; refine (HR.out _).mono ?_; rintro e w1 ⟨rfl, hb1⟩; obtain ⟨p1, rfl⟩ := grown_of hb1; clear hb1)
      go_ret
      refine ⟨?_, (by repeat (first | exact Below.refl _ _ | assumption | refine below_grown ?_ (by first | omega | (simp [go_sem]; done) | (simp [go_sem] <;> omega)) _ | refine Below.alloc ?_ (by first | omega | (simp [go_sem]; done) | (simp [go_sem] <;> omega)) _ | refine below_bytesW ?_ (by first | omega | (simp [go_sem]; done) | (simp [go_sem] <;> omega)) _ | refine Below.drew ?_ | refine below_drewN ?_ _))⟩
      first | rfl | (apply ret_bool; simp; intros; omega)
theorem dec_more (n : Nat) (h : 9 < n) (S : List UInt8) : Lib.decDigits n ++ S = Lib.decDigits (n / 10) ++ (decD (n % 10) :: S) := by
  rw [Lib.decDigits, dif_neg (by omega)]
  simp [decD]
theorem dec_last (n : Nat) (h : ¬ 9 < n) (S : List UInt8) : Lib.decDigits n ++ S = decD n :: S := by
  rw [Lib.decDigits_one (by omega)]
  simp [decD]
set_option maxHeartbeats 1000000 in
theorem refUDec_any (n : Nat) (hn : n ≤ 65535) (w : World) :
    Calls Tryz.prog 36 #[.int .i64 (n : Int)] w fun e w' => e = .returned (.string ⟨(Lib.decDigits n).toArray⟩) ∧ Below w.heap.size w w' := by
  have hlen := decDigits_len 4 n (by omega)
  generalize hD : Lib.decDigits n = D at *
  go_enter Tryz.func36, Tryz.ntmps36
  go_wp2
  go_loopw [0, 3] (fun x s wr => ∃ (k : Nat) (S : List UInt8), k ≤ 65535 ∧ x = .int .i64 k ∧ s = .string ⟨S.toArray⟩ ∧ Below w.heap.size w wr ∧ Hid (Lib.decDigits k ++ S = D)) (fun x _ _ => (intOf x).toNat)
  case atStart => exact ⟨n, [], hn, rfl, rfl, Below.refl _ _, by show _ = _; rw [List.append_nil]; exact hD⟩
  case round =>
    obtain ⟨k, S, hk, rfl, rfl, hb, hinv⟩ := hrel
    have hSl : S.length ≤ 5 := by have := congrArg List.length hinv.out; rw [List.length_append] at this; omega
    have HB := Lib.hid hb
    clear hb
    by_cases h9 : (9 : Int) < k
    · have HM := Lib.hid (dec_more k (by omega) S)
      have hd := decD_int (k % 10) (by omega)
      have hq : (k : Int).tdiv 10 = ((k / 10 : Nat) : Int) := tdiv_nat k 10
      have hr : (k : Int).tmod 10 = ((k % 10 : Nat) : Int) := tmod_nat k 10
      have hw : (IntKind.i64.wrap ((k / 10 : Nat) : Int)) = ((k / 10 : Nat) : Int) := IntWalk.i64_in _ (by omega)
      have hw2 : (IntKind.i64.wrap (48 + ((k % 10 : Nat) : Int))) = 48 + ((k % 10 : Nat) : Int) := IntWalk.i64_in _ (by omega)
      have hlt : k / 10 < k := by omega
      generalize decD (k % 10) = d at *
      generalize hkq : k / 10 = q at *
      generalize k % 10 = r at *
      have hn1 : ¬ 9223372036854775807 < 1 + S.length := by omega
      have hn2 : ¬ 9223372036854775807 < S.length + 1 := by omega
      go_wp2
      go_roundw
      case rel => exact ⟨q, d :: S, by omega, by go_num, rfl, HB.out.alloc HB.out.size _, by show _ = _; rw [← HM.out]; exact hinv.out⟩
      case measure => simp [intOf]; omega
    · have HM := Lib.hid (dec_last k (by omega) S)
      have hd := decD_int k (by omega)
      have hw2 : (IntKind.i64.wrap (48 + (k : Int))) = 48 + (k : Int) := IntWalk.i64_in _ (by omega)
      generalize decD k = d at *
      have hn1 : ¬ 9223372036854775807 < 1 + S.length := by omega
      have hn2 : ¬ 9223372036854775807 < S.length + 1 := by omega
      go_wp2
      go_ret
      exact ⟨ret_str (by rw [← hinv.out, HM.out]; try rfl), HB.out.alloc HB.out.size _⟩
set_option maxHeartbeats 2000000 in
theorem refUText_any (se : Bool) (h : GHost) (po : Int) (pa : List UInt8) (hn : h.name.length ≤ 1999990000) (hp : pa.length ≤ 1999990000) (w : World) :
    Calls Tryz.prog 19 #[.agg (urlV se h po pa)] w fun e w' => e = .returned (.string ⟨(textU se h po pa).toArray⟩) ∧ Below w.heap.size w w' := by
  have HR : Hid (∀ w, Calls Tryz.prog 17 #[.agg (urlV se h po pa)] w fun e w' => e = .returned (.bool (rightU h po pa)) ∧ Below w.heap.size w w') := fun w => refURight_any se h po pa hn (by unfold maxLen; omega) w
  cases hr : rightU h po pa
  · rw [hr] at HR
    rw [show textU se h po pa = [] from if_neg (by rw [hr]; decide)]
    go_enter Tryz.func19, Tryz.ntmps19
    go_wp2_with (go_at_call 17; refine (HR.out _).mono ?_; rintro e w1 ⟨rfl, hb1⟩; obtain ⟨p1, rfl⟩ := grown_of hb1; clear hb1)
    go_ret
    exact ⟨rfl, (by repeat (first | exact Below.refl _ _ | assumption | refine below_grown ?_ (by first | omega | (simp [go_sem]; done) | (simp [go_sem] <;> omega)) _ | refine Below.alloc ?_ (by first | omega | (simp [go_sem]; done) | (simp [go_sem] <;> omega)) _ | refine below_bytesW ?_ (by first | omega | (simp [go_sem]; done) | (simp [go_sem] <;> omega)) _ | refine Below.drew ?_ | refine below_drewN ?_ _))⟩
  · rw [hr] at HR
    rw [show textU se h po pa = goodT se h po pa from if_pos hr]
    unfold rightU at hr
    simp only [Bool.and_eq_true, decide_eq_true_eq] at hr
    obtain ⟨_, p1, p2, _⟩ := hr
    obtain ⟨n, rfl⟩ : ∃ n : Nat, po = n := ⟨po.toNat, by omega⟩
    have hnl := decDigits_len 4 n (by omega)
    have HT : Hid (∀ w, Calls Tryz.prog 30 #[.agg (hostC h)] w fun e w' => e = .returned (.string ⟨(textH h).toArray⟩) ∧ Below w.heap.size w w') := fun w => refText_any h w
    have HI := Lib.hid (fun w => refUDec_any n (by omega) w)
    have htl := textH_len h
    cases se
    · have hus : usualT false = [104, 116, 116, 112, 58, 47, 47] := by decide
      by_cases hq : (n : Int) = 80
      · have hq' : ((n : Int) != 80) = false := by simpa using hq
        rw [show goodT false h n pa = [104, 116, 116, 112, 58, 47, 47] ++ textH h ++ [] ++ pa by unfold goodT; rw [hus]; exact congrArg (fun x => _ ++ x ++ pa) (if_pos hq)]
        clear hq hus
        generalize textH h = T at *
        generalize Lib.decDigits n = D at *
        have n1 : ¬ 9223372036854775807 < 3 + T.length := by omega
        have n1' : ¬ 9223372036854775807 < T.length + 3 := by omega
        have n2 : ¬ 9223372036854775807 < 4 + (3 + T.length) := by omega
        have n2' : ¬ 9223372036854775807 < 4 + (T.length + 3) := by omega
        have n2'' : ¬ 9223372036854775807 < T.length + 3 + 4 := by omega
        have n3 : ¬ 9223372036854775807 < 1 + D.length := by omega
        have n3' : ¬ 9223372036854775807 < D.length + 1 := by omega
        have n4 : ¬ 9223372036854775807 < T.length + 7 + (D.length + 1) := by omega
        have n5 : ¬ 9223372036854775807 < T.length + (D.length + 1) + 7 + pa.length := by omega
        have n6 : ¬ 9223372036854775807 < T.length + 7 + pa.length := by omega
        go_enter Tryz.func19, Tryz.ntmps19
        go_wp2_with (first
          | (go_at_call 17; refine (HR.out _).mono ?_; rintro e w1 ⟨rfl, hb1⟩; obtain ⟨p1, rfl⟩ := grown_of hb1; clear hb1)
          | (go_at_call 30; refine (HT.out _).mono ?_; rintro e w1 ⟨rfl, hb1⟩; obtain ⟨p1, rfl⟩ := grown_of hb1; clear hb1)
          | (go_at_call 36; refine (HI.out _).mono ?_; rintro e w1 ⟨rfl, hb1⟩; obtain ⟨p1, rfl⟩ := grown_of hb1; clear hb1))
        go_ret
        exact ⟨by first | rfl | exact ret_str (by simp), (by repeat (first | exact Below.refl _ _ | assumption | refine below_grown ?_ (by first | omega | (simp [go_sem]; done) | (simp [go_sem] <;> omega)) _ | refine Below.alloc ?_ (by first | omega | (simp [go_sem]; done) | (simp [go_sem] <;> omega)) _ | refine below_bytesW ?_ (by first | omega | (simp [go_sem]; done) | (simp [go_sem] <;> omega)) _ | refine Below.drew ?_ | refine below_drewN ?_ _))⟩
      · have hq' : ((n : Int) != 80) = true := by simpa using hq
        rw [show goodT false h n pa = [104, 116, 116, 112, 58, 47, 47] ++ textH h ++ ([58] ++ Lib.decDigits n) ++ pa by unfold goodT; rw [hus]; exact congrArg (fun x => _ ++ x ++ pa) (if_neg hq)]
        clear hq hus
        generalize textH h = T at *
        generalize Lib.decDigits n = D at *
        have n1 : ¬ 9223372036854775807 < 3 + T.length := by omega
        have n1' : ¬ 9223372036854775807 < T.length + 3 := by omega
        have n2 : ¬ 9223372036854775807 < 4 + (3 + T.length) := by omega
        have n2' : ¬ 9223372036854775807 < 4 + (T.length + 3) := by omega
        have n2'' : ¬ 9223372036854775807 < T.length + 3 + 4 := by omega
        have n3 : ¬ 9223372036854775807 < 1 + D.length := by omega
        have n3' : ¬ 9223372036854775807 < D.length + 1 := by omega
        have n4 : ¬ 9223372036854775807 < T.length + 7 + (D.length + 1) := by omega
        have n5 : ¬ 9223372036854775807 < T.length + (D.length + 1) + 7 + pa.length := by omega
        have n6 : ¬ 9223372036854775807 < T.length + 7 + pa.length := by omega
        go_enter Tryz.func19, Tryz.ntmps19
        go_wp2_with (first
          | (go_at_call 17; refine (HR.out _).mono ?_; rintro e w1 ⟨rfl, hb1⟩; obtain ⟨p1, rfl⟩ := grown_of hb1; clear hb1)
          | (go_at_call 30; refine (HT.out _).mono ?_; rintro e w1 ⟨rfl, hb1⟩; obtain ⟨p1, rfl⟩ := grown_of hb1; clear hb1)
          | (go_at_call 36; refine (HI.out _).mono ?_; rintro e w1 ⟨rfl, hb1⟩; obtain ⟨p1, rfl⟩ := grown_of hb1; clear hb1))
        go_ret
        exact ⟨by first | rfl | exact ret_str (by simp), (by repeat (first | exact Below.refl _ _ | assumption | refine below_grown ?_ (by first | omega | (simp [go_sem]; done) | (simp [go_sem] <;> omega)) _ | refine Below.alloc ?_ (by first | omega | (simp [go_sem]; done) | (simp [go_sem] <;> omega)) _ | refine below_bytesW ?_ (by first | omega | (simp [go_sem]; done) | (simp [go_sem] <;> omega)) _ | refine Below.drew ?_ | refine below_drewN ?_ _))⟩
    · have hus : usualT true = [104, 116, 116, 112, 115, 58, 47, 47] := by decide
      by_cases hq : (n : Int) = 443
      · have hq' : ((n : Int) != 443) = false := by simpa using hq
        rw [show goodT true h n pa = [104, 116, 116, 112, 115, 58, 47, 47] ++ textH h ++ [] ++ pa by unfold goodT; rw [hus]; exact congrArg (fun x => _ ++ x ++ pa) (if_pos hq)]
        clear hq hus
        generalize textH h = T at *
        generalize Lib.decDigits n = D at *
        have n1 : ¬ 9223372036854775807 < 3 + T.length := by omega
        have n1' : ¬ 9223372036854775807 < T.length + 3 := by omega
        have n2 : ¬ 9223372036854775807 < 5 + (3 + T.length) := by omega
        have n2' : ¬ 9223372036854775807 < 5 + (T.length + 3) := by omega
        have n2'' : ¬ 9223372036854775807 < T.length + 3 + 5 := by omega
        have n3 : ¬ 9223372036854775807 < 1 + D.length := by omega
        have n3' : ¬ 9223372036854775807 < D.length + 1 := by omega
        have n4 : ¬ 9223372036854775807 < T.length + 8 + (D.length + 1) := by omega
        have n5 : ¬ 9223372036854775807 < T.length + (D.length + 1) + 8 + pa.length := by omega
        have n6 : ¬ 9223372036854775807 < T.length + 8 + pa.length := by omega
        go_enter Tryz.func19, Tryz.ntmps19
        go_wp2_with (first
          | (go_at_call 17; refine (HR.out _).mono ?_; rintro e w1 ⟨rfl, hb1⟩; obtain ⟨p1, rfl⟩ := grown_of hb1; clear hb1)
          | (go_at_call 30; refine (HT.out _).mono ?_; rintro e w1 ⟨rfl, hb1⟩; obtain ⟨p1, rfl⟩ := grown_of hb1; clear hb1)
          | (go_at_call 36; refine (HI.out _).mono ?_; rintro e w1 ⟨rfl, hb1⟩; obtain ⟨p1, rfl⟩ := grown_of hb1; clear hb1))
        go_ret
        exact ⟨by first | rfl | exact ret_str (by simp), (by repeat (first | exact Below.refl _ _ | assumption | refine below_grown ?_ (by first | omega | (simp [go_sem]; done) | (simp [go_sem] <;> omega)) _ | refine Below.alloc ?_ (by first | omega | (simp [go_sem]; done) | (simp [go_sem] <;> omega)) _ | refine below_bytesW ?_ (by first | omega | (simp [go_sem]; done) | (simp [go_sem] <;> omega)) _ | refine Below.drew ?_ | refine below_drewN ?_ _))⟩
      · have hq' : ((n : Int) != 443) = true := by simpa using hq
        rw [show goodT true h n pa = [104, 116, 116, 112, 115, 58, 47, 47] ++ textH h ++ ([58] ++ Lib.decDigits n) ++ pa by unfold goodT; rw [hus]; exact congrArg (fun x => _ ++ x ++ pa) (if_neg hq)]
        clear hq hus
        generalize textH h = T at *
        generalize Lib.decDigits n = D at *
        have n1 : ¬ 9223372036854775807 < 3 + T.length := by omega
        have n1' : ¬ 9223372036854775807 < T.length + 3 := by omega
        have n2 : ¬ 9223372036854775807 < 5 + (3 + T.length) := by omega
        have n2' : ¬ 9223372036854775807 < 5 + (T.length + 3) := by omega
        have n2'' : ¬ 9223372036854775807 < T.length + 3 + 5 := by omega
        have n3 : ¬ 9223372036854775807 < 1 + D.length := by omega
        have n3' : ¬ 9223372036854775807 < D.length + 1 := by omega
        have n4 : ¬ 9223372036854775807 < T.length + 8 + (D.length + 1) := by omega
        have n5 : ¬ 9223372036854775807 < T.length + (D.length + 1) + 8 + pa.length := by omega
        have n6 : ¬ 9223372036854775807 < T.length + 8 + pa.length := by omega
        go_enter Tryz.func19, Tryz.ntmps19
        go_wp2_with (first
          | (go_at_call 17; refine (HR.out _).mono ?_; rintro e w1 ⟨rfl, hb1⟩; obtain ⟨p1, rfl⟩ := grown_of hb1; clear hb1)
          | (go_at_call 30; refine (HT.out _).mono ?_; rintro e w1 ⟨rfl, hb1⟩; obtain ⟨p1, rfl⟩ := grown_of hb1; clear hb1)
          | (go_at_call 36; refine (HI.out _).mono ?_; rintro e w1 ⟨rfl, hb1⟩; obtain ⟨p1, rfl⟩ := grown_of hb1; clear hb1))
        go_ret
        exact ⟨by first | rfl | exact ret_str (by simp), (by repeat (first | exact Below.refl _ _ | assumption | refine below_grown ?_ (by first | omega | (simp [go_sem]; done) | (simp [go_sem] <;> omega)) _ | refine Below.alloc ?_ (by first | omega | (simp [go_sem]; done) | (simp [go_sem] <;> omega)) _ | refine below_bytesW ?_ (by first | omega | (simp [go_sem]; done) | (simp [go_sem] <;> omega)) _ | refine Below.drew ?_ | refine below_drewN ?_ _))⟩
set_option maxHeartbeats 2000000 in
theorem urlTells_law (u : GURL) (m : Int) (w : World) (hm : HasMax m w) (htz : HasTz w) (hd : HasDec w) :
    Calls Tryz.prog 6 #[.agg (urlC u)] w fun e w' => e = .returned (.bool true) ∧ Below w.heap.size w w' := by
  unfold urlC
  by_cases h1 : (3000 : Int) < u.path.length
  · go_enter Tryz.func6, Tryz.ntmps6
    go_wp2_with (go_at_call 15; refine (urlAlive_any m _ (by repeat (first | exact hm | apply HasMax.grown | apply HasMax.alloc | apply HasMax.drew))).mono ?_; rintro e w1 ⟨rfl, hb1⟩; obtain ⟨p1, rfl⟩ := grown_of hb1; clear hb1)
    go_ret
    exact ⟨rfl, (by repeat (first | exact Below.refl _ _ | assumption | refine below_grown ?_ (by first | omega | (simp [go_sem]; done) | (simp [go_sem] <;> omega)) _ | refine Below.alloc ?_ (by first | omega | (simp [go_sem]; done) | (simp [go_sem] <;> omega)) _ | refine below_bytesW ?_ (by first | omega | (simp [go_sem]; done) | (simp [go_sem] <;> omega)) _ | refine Below.drew ?_ | refine below_drewN ?_ _))⟩
  · by_cases h2 : (600 : Int) < u.host.name.length
    · go_enter Tryz.func6, Tryz.ntmps6
      go_wp2_with (go_at_call 15; refine (urlAlive_any m _ (by repeat (first | exact hm | apply HasMax.grown | apply HasMax.alloc | apply HasMax.drew))).mono ?_; rintro e w1 ⟨rfl, hb1⟩; obtain ⟨p1, rfl⟩ := grown_of hb1; clear hb1)
      go_ret
      exact ⟨rfl, (by repeat (first | exact Below.refl _ _ | assumption | refine below_grown ?_ (by first | omega | (simp [go_sem]; done) | (simp [go_sem] <;> omega)) _ | refine Below.alloc ?_ (by first | omega | (simp [go_sem]; done) | (simp [go_sem] <;> omega)) _ | refine below_bytesW ?_ (by first | omega | (simp [go_sem]; done) | (simp [go_sem] <;> omega)) _ | refine Below.drew ?_ | refine below_drewN ?_ _))⟩
    · have H1 : Hid (∀ w, HasMax m w → HasTz w → HasDec w → Calls Tryz.prog 16 #[.agg (urlV u.secure u.host u.port u.path)] w fun e w' => e = .returned (.bool (rightU u.host u.port u.path)) ∧ Below w.heap.size w w') := fun w x y z => urlRight_any _ _ _ _ (by omega) u.hpath m w x y z
      have H2 : Hid (∀ w, Calls Tryz.prog 17 #[.agg (urlV u.secure u.host u.port u.path)] w fun e w' => e = .returned (.bool (rightU u.host u.port u.path)) ∧ Below w.heap.size w w') := fun w => refURight_any _ _ _ _ (by omega) u.hpath w
      have H3 : Hid (∀ w, HasMax m w → HasTz w → HasDec w → Calls Tryz.prog 18 #[.agg (urlV u.secure u.host u.port u.path)] w fun e w' => e = .returned (.string ⟨(textU u.secure u.host u.port u.path).toArray⟩) ∧ Below w.heap.size w w') := fun w x y z => urlText_any _ _ _ _ (by omega) (by omega) m w x y z
      have H4 : Hid (∀ w, Calls Tryz.prog 19 #[.agg (urlV u.secure u.host u.port u.path)] w fun e w' => e = .returned (.string ⟨(textU u.secure u.host u.port u.path).toArray⟩) ∧ Below w.heap.size w w') := fun w => refUText_any _ _ _ _ (by omega) (by omega) w
      generalize textU u.secure u.host u.port u.path = T at *
      generalize rightU u.host u.port u.path = ok at *
      go_enter Tryz.func6, Tryz.ntmps6
      go_wp2_with (go_at_call 15; refine (urlAlive_any m _ (by repeat (first | exact hm | apply HasMax.grown | apply HasMax.alloc | apply HasMax.drew))).mono ?_; rintro e w1 ⟨rfl, hb1⟩; obtain ⟨p1, rfl⟩ := grown_of hb1; clear hb1)
      refine wp_region_quiet_grown (by kernel_rfl) (by kernel_rfl) ?_
      repeat (quiet_step ((first
        | (go_at_call 16; exact quiet_grown (H1.out _ (by repeat (first | exact hm | apply HasMax.grown | apply HasMax.alloc | apply HasMax.drew)) (by repeat (first | exact htz | apply HasTz.grown | apply HasTz.alloc | apply HasTz.drew)) (by repeat (first | exact hd | apply HasDec.grown | apply HasDec.alloc | apply HasDec.drew))))
        | (go_at_call 17; exact quiet_grown (H2.out _))
        | (go_at_call 18; exact quiet_grown (H3.out _ (by repeat (first | exact hm | apply HasMax.grown | apply HasMax.alloc | apply HasMax.drew)) (by repeat (first | exact htz | apply HasTz.grown | apply HasTz.alloc | apply HasTz.drew)) (by repeat (first | exact hd | apply HasDec.grown | apply HasDec.alloc | apply HasDec.drew))))
        | (go_at_call 19; exact quiet_grown (H4.out _)))))
      refine wpQuiet_nil ?_; intro _ hw'; obtain ⟨pq, hw''⟩ := hw'; subst hw''
      go_wp2
      go_ret
      exact ⟨by first | rfl | exact ret_bool (by simp), (by repeat (first | exact Below.refl _ _ | assumption | refine below_grown ?_ (by first | omega | (simp [go_sem]; done) | (simp [go_sem] <;> omega)) _ | refine Below.alloc ?_ (by first | omega | (simp [go_sem]; done) | (simp [go_sem] <;> omega)) _ | refine below_bytesW ?_ (by first | omega | (simp [go_sem]; done) | (simp [go_sem] <;> omega)) _ | refine Below.drew ?_ | refine below_drewN ?_ _))⟩
end Go.Proofs.YtfnhkpfkaiamjaaGreatDoor
