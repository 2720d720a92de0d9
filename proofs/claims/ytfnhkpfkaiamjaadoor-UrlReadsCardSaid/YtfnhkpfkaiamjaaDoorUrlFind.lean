/- The walks of the document's Path and find of URLs. -/
import Derived.Test.YtfnhkpfkaiamjaaDoorLawUrlDrops
import Derived.Test.YtfnhkpfkaiamjaaDoorHostRefn
namespace Go.Proofs.YtfnhkpfkaiamjaaDoor
open Go Go.RowKit
set_option maxRecDepth 20000
set_option linter.unusedSimpArgs false
set_option linter.unusedVariables false

theorem pathOk_end {s : List UInt8} (ha : s.all pathC = true) : pathOk s = (decide ((1 : Int) ≤ s.length) && (decide ((s.length : Int) ≤ 2048) && (s.headD 0 == 47))) := by
  unfold pathOk
  rw [ha, Bool.and_true]
  congr 1
  · rw [decide_eq_decide]; omega
  · congr 1
    rw [decide_eq_decide]; omega
set_option maxHeartbeats 1000000 in
theorem refUPath_any (s : List UInt8) (hs : s.length ≤ maxLen) (w : World) :
    Calls Tryd.prog 11 #[.string ⟨s.toArray⟩] w fun e w' => e = .returned (.bool (pathOk s)) ∧ w = w' := by
  unfold maxLen at hs
  have HBAD : Hid (∀ k (h : k < s.length), pathC (s[k]'h) = false → pathOk s = false) := fun k h hc => pathOk_bad k h hc
  have HALL : Hid ((s.take s.length).all pathC = true → pathOk s = (decide ((1 : Int) ≤ s.length) && (decide ((s.length : Int) ≤ 2048) && (s.headD 0 == 47)))) := fun h => pathOk_end (by rwa [List.take_length] at h)
  generalize pathOk s = ok at *
  go_enter Tryd.func11, Tryd.ntmps11
  go_wp2
  go_loop [3] (fun i => ∃ k : Nat, k ≤ s.length ∧ i = .int .i64 k ∧ Hid ((s.take k).all pathC = true)) (fun i => s.length - (intOf i).toNat)
  case atStart => exact ⟨0, Nat.zero_le _, rfl, rfl⟩
  case round =>
    obtain ⟨k, hk, rfl, hinv⟩ := hrel
    by_cases hlt : k < s.length
    · have HS := Lib.hid (all_take_path s k hlt)
      have HBK := Lib.hid (HBAD.out k hlt)
      obtain ⟨c, hcc⟩ : ∃ c, ∀ h, s[k]'h = c := ⟨s[k]'hlt, fun _ => rfl⟩
      rw [hcc] at HS HBK
      rcases pathC_cases c with ⟨c1, hc⟩ | ⟨c1, hc⟩ | ⟨c1, c2, c3, c4, hc⟩ | ⟨c1, c2, c3, c4, hc⟩ | ⟨c1, c2, c3, c4, hc⟩
      · obtain rfl := HBK.out hc
        go_wp2
        go_ret
        exact ⟨rfl, rfl⟩
      · obtain rfl := HBK.out hc
        have c1' : ¬ (c.toNat : Int) < 33 := by omega
        go_wp2
        go_ret
        exact ⟨rfl, rfl⟩
      · obtain rfl := HBK.out hc
        have c1' : ¬ (c.toNat : Int) < 33 := by omega
        have c2' : ¬ (126 : Int) < (c.toNat : Int) := by omega
        go_wp2
        go_ret
        exact ⟨rfl, rfl⟩
      · obtain rfl := HBK.out hc
        have c1' : ¬ (c.toNat : Int) < 33 := by omega
        have c2' : ¬ (126 : Int) < (c.toNat : Int) := by omega
        go_wp2
        go_ret
        exact ⟨rfl, rfl⟩
      · have c1' : ¬ (c.toNat : Int) < 33 := by omega
        have c2' : ¬ (126 : Int) < (c.toNat : Int) := by omega
        go_wp2
        go_round
        case rel => exact ⟨k + 1, by omega, by go_num, show _ = true by rw [HS.out, hinv.out, hc]; rfl⟩
        case measure => simp [intOf]; omega
    · obtain rfl : k = s.length := by omega
      obtain rfl := HALL.out hinv.out
      clear HALL hinv HBAD
      by_cases h1 : (1 : Int) ≤ s.length
      · have h1n : 0 < s.length := by omega
        have hh : ∀ h, (((s[0]'h).toNat : Int) == 47) = (s.headD 0 == 47) := fun h => by
          rw [u8_lit _ 47 47 rfl]
          cases s with
          | nil => cases h
          | cons c t => rfl
        generalize hb : (s.headD 0 == 47) = b at *
        have HBQ := Lib.hid hb
        clear hb
        by_cases h2 : (s.length : Int) ≤ 2048
        · go_wp2
          go_ret
          refine ⟨?_, rfl⟩
          apply ret_bool
          rw [← HBQ.out]
          simp
        · go_wp2
          go_ret
          refine ⟨?_, rfl⟩
          first | rfl | (apply ret_bool; simp; intros; omega)
      · go_wp2
        go_ret
        refine ⟨?_, rfl⟩
        first | rfl | (apply ret_bool; simp; intros; omega)

/-! ### places -/
theorem ixAny_one (c : UInt8) : ∀ s : List UInt8, Lib.indexAny s [c] = Lib.indexByte s c
  | [] => rfl
  | b :: t => by
    rw [Lib.indexAny, Lib.indexByte, ixAny_one c t]
    simp only [List.contains_cons, List.contains_nil, Bool.or_false]
theorem cutAny_len (s cs : List UInt8) : cutAny s cs ≤ s.length := by
  unfold cutAny
  have := (ixAny_bd s cs).2
  split <;> omega
theorem cutHP_at (s : List UInt8) (h : Lib.hasPrefix s [91] = false) : cutHP s = (s.take (cutAny s [58]), s.drop (cutAny s [58])) := by
  unfold cutHP cutAny
  rw [h, if_neg (by decide), ixAny_one]
  split
  · rfl
  · rw [List.take_length, List.drop_length]
theorem cutHP_six (s : List UInt8) (h : Lib.hasPrefix s [91] = true) : cutHP s = (s.take (min (cutAny s [93] + 1) s.length), s.drop (min (cutAny s [93] + 1) s.length)) := by
  unfold cutHP cutAny
  rw [h, if_pos rfl, ixAny_one]
  have := (ixByte_bd s 93).2
  split
  · rw [show min ((Lib.indexByte s 93).toNat + 1) s.length = (Lib.indexByte s 93).toNat + 1 by omega]
  · rw [show min (s.length + 1) s.length = s.length by omega, List.take_length, List.drop_length]
theorem cutAny_stop (cs : List UInt8) : ∀ (s : List UInt8) (k : Nat) (h : k < s.length), (s.take k).all (fun c => !cs.contains c) = true → cs.contains (s[k]'h) = true → cutAny s cs = k
  | [], k, h, _, _ => by cases h
  | c :: t, 0, h, _, hc => by rw [cutAny_cons, if_pos (by simpa using hc)]
  | c :: t, k + 1, h, ha, hc => by
    simp only [List.take_succ_cons, List.all_cons, Bool.and_eq_true] at ha
    rw [cutAny_cons, if_neg (by have := ha.1; intro e; rw [e] at this; cases this), cutAny_stop cs t k (by simpa using h) ha.2 (by simpa using hc)]
theorem cutAny_end (cs : List UInt8) : ∀ (s : List UInt8), s.all (fun c => !cs.contains c) = true → cutAny s cs = s.length
  | [], _ => rfl
  | c :: t, ha => by
    simp only [List.all_cons, Bool.and_eq_true] at ha
    rw [cutAny_cons, if_neg (by have := ha.1; intro e; rw [e] at this; cases this), cutAny_end cs t ha.2]; rfl
theorem all_take_no (l cs : List UInt8) (k : Nat) (h : k < l.length) : (l.take (k + 1)).all (fun c => !cs.contains c) = ((l.take k).all (fun c => !cs.contains c) && !cs.contains (l[k]'h)) := by
  rw [List.take_succ_eq_append_getElem h, List.all_append]; simp
theorem take_has (cs : List UInt8) (c : UInt8) (k : Nat) (h : k < cs.length) : (cs.take (k + 1)).contains c = ((cs.take k).contains c || (c == cs[k]'h)) := by
  rw [List.take_succ_eq_append_getElem h, Bool.eq_iff_iff]
  simp only [Bool.or_eq_true, List.contains_iff_mem, List.mem_append, List.mem_singleton, beq_iff_eq]
theorem has_at (cs : List UInt8) (c : UInt8) (k : Nat) (h : k < cs.length) (e : c = cs[k]'h) : cs.contains c = true := by
  rw [List.contains_iff_mem, e]; exact List.getElem_mem h
set_option maxHeartbeats 1000000 in
theorem find_any (s cs : List UInt8) (hs : s.length ≤ maxLen) (hcs : cs.length ≤ maxLen) (w : World) :
    Calls Tryd.prog 17 #[.string ⟨s.toArray⟩, .string ⟨cs.toArray⟩] w fun e w' => e = .returned (.int .i64 ((cutAny s cs : Nat) : Int)) ∧ Below w.heap.size w w' := by
  unfold maxLen at hs hcs
  have HST : Hid (∀ (k : Nat) (h : k < s.length), (s.take k).all (fun c => !cs.contains c) = true → cs.contains (s[k]'h) = true → cutAny s cs = k) := fun k h => cutAny_stop cs s k h
  have HEND : Hid ((s.take s.length).all (fun c => !cs.contains c) = true → cutAny s cs = s.length) := fun h => cutAny_end cs s (by rwa [List.take_length] at h)
  generalize cutAny s cs = r at *
  go_enter Tryd.func17, Tryd.ntmps17
  go_wp2
  go_loopw [5, 6] (fun i _ wr => ∃ k : Nat, k ≤ s.length ∧ i = .int .i64 k ∧ Below w.heap.size w wr ∧ Hid ((s.take k).all (fun c => !cs.contains c) = true)) (fun i _ _ => s.length - (intOf i).toNat)
  case atStart => exact ⟨0, Nat.zero_le _, rfl, Below.refl _ _, rfl⟩
  case round =>
    obtain ⟨k, hk, rfl, hb, hinv⟩ := hrel
    by_cases hlt : k < s.length
    · have HS := Lib.hid (all_take_no s cs k hlt)
      have HK := Lib.hid (HST.out k hlt)
      obtain ⟨c, hcc⟩ : ∃ c, ∀ h, s[k]'h = c := ⟨s[k]'hlt, fun _ => rfl⟩
      rw [hcc] at HS HK
      have hi1 : (k : Int) < (s.length : Int) := by omega
      go_wp2
      obtain ⟨wo, hwo⟩ : ∃ wo : World, wo = wr := ⟨_, rfl⟩
      go_loopw [6] (fun j wr => ∃ n : Nat, n ≤ cs.length ∧ j = .int .i64 n ∧ Below w.heap.size w wr ∧ Hid ((cs.take n).contains c = false)) (fun j _ => cs.length - (intOf j).toNat)
      case atStart => exact ⟨0, Nat.zero_le _, rfl, hb, rfl⟩
      case round =>
        obtain ⟨n, hn, rfl, hb2, hin⟩ := hrel
        have hsz := hb2.size
        by_cases hnl : n < cs.length
        · have hi2 : (n : Int) < (cs.length : Int) := by omega
          have HT := Lib.hid (take_has cs c n hnl)
          have HAT := Lib.hid (has_at cs c n hnl)
          obtain ⟨d, hdd⟩ : ∃ d, ∀ h, cs[n]'h = d := ⟨cs[n]'hnl, fun _ => rfl⟩
          rw [hdd] at HT HAT
          by_cases he : c = d
          · obtain rfl := HK.out hinv.out (HAT.out he)
            subst he
            have he1 : ((c.toNat : Int) == (c.toNat : Int)) = true := by simp
            go_wp2
            refine wp_region_quiet_grown (by kernel_rfl) (by kernel_rfl) ?_
            repeat (quiet_step (fail))
            refine wpQuiet_nil ?_; intro _ hw'; obtain ⟨pq, hw''⟩ := hw'; subst hw''
            go_wp2
            go_ret
            exact ⟨rfl, (by repeat (first | exact Below.refl _ _ | assumption | refine below_grown ?_ (by first | omega | (simp [go_sem]; done) | (simp [go_sem] <;> omega)) _ | refine Below.alloc ?_ (by first | omega | (simp [go_sem]; done) | (simp [go_sem] <;> omega)) _ | refine below_bytesW ?_ (by first | omega | (simp [go_sem]; done) | (simp [go_sem] <;> omega)) _ | refine Below.drew ?_ | refine below_drewN ?_ _))⟩
          · have he1 : ((c.toNat : Int) == (d.toNat : Int)) = false := by
              rw [beq_eq_false_iff_ne]
              intro h; exact he (UInt8.toNat_inj.1 (by omega))
            have HF : Hid ((cs.take (n + 1)).contains c = false) := by
              show _ = _
              rw [HT.out, hin.out, beq_false_of_ne he]; rfl
            go_wp2
            refine wp_region_quiet_grown (by kernel_rfl) (by kernel_rfl) ?_
            repeat (quiet_step (fail))
            refine wpQuiet_nil ?_; intro _ hw'; obtain ⟨pq, hw''⟩ := hw'; subst hw''
            go_wp2
            go_roundw
            case rel => exact ⟨n + 1, by omega, by go_num, (by repeat (first | exact Below.refl _ _ | assumption | refine below_grown ?_ (by first | omega | (simp [go_sem]; done) | (simp [go_sem] <;> omega)) _ | refine Below.alloc ?_ (by first | omega | (simp [go_sem]; done) | (simp [go_sem] <;> omega)) _ | refine below_bytesW ?_ (by first | omega | (simp [go_sem]; done) | (simp [go_sem] <;> omega)) _ | refine Below.drew ?_ | refine below_drewN ?_ _)), HF.out⟩
            case measure => simp [intOf]; omega
        · obtain rfl : n = cs.length := by omega
          have hno := hin.out
          rw [List.take_length] at hno
          have HF : Hid ((s.take (k + 1)).all (fun c => !cs.contains c) = true) := by
            show _ = _
            rw [HS.out, hinv.out, hno]; rfl
          clear hno
          go_wp2
          go_roundw
          case rel => exact ⟨k + 1, by omega, by go_num, hb2, HF.out⟩
          case measure => simp [intOf]; omega
    · obtain rfl : k = s.length := by omega
      obtain rfl := HEND.out hinv.out
      go_wp2
      go_ret
      exact ⟨rfl, (by repeat (first | exact Below.refl _ _ | assumption | refine below_grown ?_ (by first | omega | (simp [go_sem]; done) | (simp [go_sem] <;> omega)) _ | refine Below.alloc ?_ (by first | omega | (simp [go_sem]; done) | (simp [go_sem] <;> omega)) _ | refine below_bytesW ?_ (by first | omega | (simp [go_sem]; done) | (simp [go_sem] <;> omega)) _ | refine Below.drew ?_ | refine below_drewN ?_ _))⟩
end Go.Proofs.YtfnhkpfkaiamjaaDoor
