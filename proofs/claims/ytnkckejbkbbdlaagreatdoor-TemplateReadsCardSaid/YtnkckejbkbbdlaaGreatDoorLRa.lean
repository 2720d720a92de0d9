/- Merged: TplRn, TplRu, TplRl, TplRc. -/
import Derived.Test.YtnkckejbkbbdlaaGreatDoorTmInst
import Derived.Deep.DeepCutAuto
import Derived.Test.YtnkckejbkbbdlaaGreatDoorLUr
import Derived.Test.YtnkckejbkbbdlaaGreatDoorTmI
namespace Go.Proofs.YtnkckejbkbbdlaaGreatDoor
section
open Go Go.RowKit
set_option maxRecDepth 20000
set_option linter.unusedSimpArgs false
set_option linter.unusedVariables false

theorem nmC_five (c : UInt8) : ((c.toNat : Int) < 48 ∧ nmC c = false) ∨ ((48 : Int) ≤ c.toNat ∧ (c.toNat : Int) ≤ 57 ∧ nmC c = true) ∨ ((57 : Int) < c.toNat ∧ (c.toNat : Int) < 97 ∧ nmC c = false) ∨ ((97 : Int) ≤ c.toNat ∧ (c.toNat : Int) ≤ 122 ∧ nmC c = true) ∨ ((122 : Int) < c.toNat ∧ nmC c = false) := by
  unfold nmC
  generalize (c.toNat : Int) = z
  by_cases h1 : z < 48
  · exact .inl ⟨h1, by simp; omega⟩
  by_cases h2 : z ≤ 57
  · exact .inr (.inl ⟨by omega, h2, by simp; omega⟩)
  by_cases h3 : z < 97
  · exact .inr (.inr (.inl ⟨by omega, h3, by simp; omega⟩))
  by_cases h4 : z ≤ 122
  · exact .inr (.inr (.inr (.inl ⟨by omega, h4, by simp; omega⟩)))
  · exact .inr (.inr (.inr (.inr ⟨by omega, by simp; omega⟩)))
theorem nm_take (s : List UInt8) (k : Nat) (h : k < s.length) : (s.take (k + 1)).all nmC = ((s.take k).all nmC && nmC (s[k]'h)) := by
  rw [List.take_succ_eq_append_getElem h, List.all_append]; simp
theorem nm_bad (s : List UInt8) (k : Nat) (h : k < s.length) (hc : nmC (s[k]'h) = false) : nameT s = false := by
  unfold nameT
  have : s.all nmC = false := by
    rw [List.all_eq_false]
    exact ⟨_, List.getElem_mem h, by rw [hc]; decide⟩
  rw [this]; simp
set_option maxHeartbeats 2000000 in
theorem refName_any (s : List UInt8) (hs : s.length ≤ maxLen) (w : World) :
    Calls Tryz.prog 38 #[.string ⟨s.toArray⟩] w fun e w' => e = .returned (.bool (nameT s)) ∧ w = w' := by
  have HTK := Lib.hid (nm_take s)
  have HBAD := Lib.hid (nm_bad s)
  have HFIN : Hid (s.all nmC = true → nameT s = (decide (1 ≤ s.length) && decide (s.length ≤ 20))) := fun h => by
    unfold nameT
    rw [h, Bool.and_true]
    congr 1
    cases s <;> simp
  unfold maxLen at hs
  generalize nameT s = NM at *
  go_enter Tryz.func38, Tryz.ntmps38
  go_wp2
  go_loop [3] (fun i => ∃ k : Nat, k ≤ s.length ∧ i = .int .i64 k ∧ Hid ((s.take k).all nmC = true)) (fun i => s.length - (intOf i).toNat)
  case atStart => exact ⟨0, Nat.zero_le _, rfl, rfl⟩
  case round =>
    obtain ⟨k, hk, rfl, hall⟩ := hrel
    by_cases hlt : k < s.length
    · have hki : (k : Int) < (s.length : Int) := by omega
      have htk := HTK.out k hlt
      rw [hall.out, Bool.true_and] at htk
      have HT := Lib.hid htk
      have HB := Lib.hid (HBAD.out k hlt)
      have hcs := nmC_five (s[k]'hlt)
      clear htk hall
      rcases hcs with ⟨c1, e1⟩ | ⟨c1, c2, e1⟩ | ⟨c1, c2, e1⟩ | ⟨c1, c2, e1⟩ | ⟨c1, e1⟩
      · obtain rfl := HB.out e1
        have d1 : ((s[k]'hlt).toNat : Int) < 97 := by omega
        clear HB HT e1
        go_wp2
        go_ret
        exact ⟨rfl, rfl⟩
      · have HT2 : Hid ((s.take (k + 1)).all nmC = true) := by show _ = _; rw [HT.out, e1]
        have d1 : ((s[k]'hlt).toNat : Int) < 97 := by omega
        have d2 : ¬ ((s[k]'hlt).toNat : Int) < 48 := by omega
        have d3 : ¬ (57 : Int) < ((s[k]'hlt).toNat : Int) := by omega
        clear HB HT e1
        go_wp2
        go_round
        case rel => exact ⟨k + 1, by omega, by go_num, HT2.out⟩
        case measure => simp [intOf]; omega
      · obtain rfl := HB.out e1
        have d2 : ¬ ((s[k]'hlt).toNat : Int) < 48 := by omega
        clear HB HT e1
        go_wp2
        go_ret
        exact ⟨rfl, rfl⟩
      · have HT2 : Hid ((s.take (k + 1)).all nmC = true) := by show _ = _; rw [HT.out, e1]
        have d1 : ¬ ((s[k]'hlt).toNat : Int) < 97 := by omega
        have d2 : ¬ (122 : Int) < ((s[k]'hlt).toNat : Int) := by omega
        clear HB HT e1
        go_wp2
        go_round
        case rel => exact ⟨k + 1, by omega, by go_num, HT2.out⟩
        case measure => simp [intOf]; omega
      · obtain rfl := HB.out e1
        have d1 : ¬ ((s[k]'hlt).toNat : Int) < 97 := by omega
        have d2 : ¬ ((s[k]'hlt).toNat : Int) < 48 := by omega
        have d3 : (57 : Int) < ((s[k]'hlt).toNat : Int) := by omega
        clear HB HT e1
        go_wp2
        go_ret
        exact ⟨rfl, rfl⟩
    · obtain rfl : k = s.length := by omega
      have hal := hall.out
      rw [List.take_length] at hal
      have hf := HFIN.out hal
      subst hf
      clear hal hall HFIN HBAD HTK
      by_cases h1 : (1 : Int) ≤ (s.length : Int)
      · have e1 : decide (1 ≤ s.length) = true := decide_eq_true (by omega)
        by_cases h2 : (s.length : Int) ≤ 20
        · have e2 : decide (s.length ≤ 20) = true := decide_eq_true (by omega)
          have E1 := Lib.hid e1
          have E2 := Lib.hid e2
          clear e1 e2
          go_wp2
          go_ret
          exact ⟨ret_bool (by rw [E1.out, E2.out]; rfl), rfl⟩
        · have e2 : decide (s.length ≤ 20) = false := decide_eq_false (by omega)
          have E1 := Lib.hid e1
          have E2 := Lib.hid e2
          clear e1 e2
          go_wp2
          go_ret
          exact ⟨ret_bool (by rw [E1.out, E2.out]; rfl), rfl⟩
      · have e1 : decide (1 ≤ s.length) = false := decide_eq_false (by omega)
        have E1 := Lib.hid e1
        clear e1
        go_wp2
        go_ret
        exact ⟨ret_bool (by rw [E1.out]; rfl), rfl⟩
set_option maxHeartbeats 2000000 in
theorem refAt_any (R : List RCh) (hR : R.length ≤ 100000) (s : List UInt8) (a : Option Addr) (cap : Nat) (w : World) (h : ListIn chCod w a R 0) :
    Calls Tryz.prog 39 #[.slice a R.length cap, .string ⟨s.toArray⟩] w fun e w' => e = .returned (.int .i64 (rchAt R s)) ∧ Below w.heap.size w w' := by
  have HIN := Lib.hid h
  have HY : Hid (∀ k (hk : k < R.length), (R[k]'hk).name = s → (R.take k).any (fun r => r.name == s) = false → rchAt R s = (k : Nat)) := fun k hk h1 h2 => rchAt_yes hk h1 h2
  have HN : Hid ((R.take R.length).any (fun r => r.name == s) = false → rchAt R s = -1) := fun h => rchAt_no h
  have HTK : Hid (∀ k (hk : k < R.length), (R.take (k + 1)).any (fun r => r.name == s) = ((R.take k).any (fun r => r.name == s) || ((R[k]'hk).name == s))) := fun k hk => by
    rw [List.take_succ_eq_append_getElem hk, List.any_append]; simp
  clear h
  generalize rchAt R s = RES at *
  go_enter Tryz.func39, Tryz.ntmps39
  go_wp2
  go_loopw [9] (fun i wr => ∃ k : Nat, k ≤ R.length ∧ i = .int .i64 k ∧ Below w.heap.size w wr ∧ Hid ((R.take k).any (fun r => r.name == s) = false)) (fun i _ => R.length - (intOf i).toNat)
  case atStart => exact ⟨0, Nat.zero_le _, rfl, Below.refl _ _, rfl⟩
  case round =>
    obtain ⟨k, hk, rfl, hb, hno⟩ := hrel
    have hsz := hb.size
    by_cases hlt : k < R.length
    · obtain ⟨b1, o1, rfl, _, g1, hat1⟩ := HIN.out.resolve_left (fun h => by subst h; exact absurd hlt (Nat.not_lt_zero _))
      obtain ⟨r1, q1⟩ := chRow (hat1.below hb) k hlt
      have htk := HTK.out k hlt
      rw [hno.out, Bool.false_or] at htk
      have HT := Lib.hid htk
      have HY2 := Lib.hid (fun h => HY.out k hlt h hno.out)
      have hi1 : (k : Int) < (R.length : Int) := by omega
      clear hat1 htk hno
      generalize R[k]'hlt = r at *
      by_cases he : r.name = s
      · obtain rfl := HY2.out he
        have he2 : (r.name == s) = true := by rw [beq_iff_eq]; exact he
        clear HT HY2 he
        go_wp2
        go_ret
        exact ⟨rfl, (by repeat (first | exact Below.refl _ _ | assumption | refine below_grown ?_ (by first | omega | (simp [go_sem]; done) | (simp [go_sem] <;> omega)) _ | refine Below.alloc ?_ (by first | omega | (simp [go_sem]; done) | (simp [go_sem] <;> omega)) _ | refine below_bytesW ?_ (by first | omega | (simp [go_sem]; done) | (simp [go_sem] <;> omega)) _ | refine Below.drew ?_ | refine below_drewN ?_ _))⟩
      · have he2 : (r.name == s) = false := by rw [beq_eq_false_iff_ne]; exact he
        have HT2 : Hid ((R.take (k + 1)).any (fun r => r.name == s) = false) := by show _ = _; rw [HT.out, he2]
        clear HT HY2 he
        go_wp2
        go_roundw
        case rel => exact ⟨k + 1, by omega, by go_num, (by repeat (first | exact Below.refl _ _ | assumption | refine below_grown ?_ (by first | omega | (simp [go_sem]; done) | (simp [go_sem] <;> omega)) _ | refine Below.alloc ?_ (by first | omega | (simp [go_sem]; done) | (simp [go_sem] <;> omega)) _ | refine below_bytesW ?_ (by first | omega | (simp [go_sem]; done) | (simp [go_sem] <;> omega)) _ | refine Below.drew ?_ | refine below_drewN ?_ _)), HT2.out⟩
        case measure => simp [intOf]; omega
    · obtain rfl : k = R.length := by omega
      obtain rfl := HN.out hno.out
      clear hno
      go_wp2
      go_ret
      exact ⟨rfl, hb⟩
/-! ### the place with which a text begins -/
def placeB (r : List UInt8) : List UInt8 × Bool := if past 125 r = [] then ([], false) else (upTo 125 r, nameT (upTo 125 r))
theorem upTo_take (c : UInt8) (r : List UInt8) (i : Nat) (h : i < r.length) (hc : r[i]'h = c) (hno : (r.take i).any (fun x => x == c) = false) : upTo c r = r.take i ∧ past c r = r.drop i := by
  have e : r = r.take i ++ c :: r.drop (i + 1) := by
    rw [← hc, ← List.drop_eq_getElem_cons h, List.take_append_drop]
  have hn : c ∉ r.take i := fun hm => by
    rw [List.any_eq_false] at hno
    have := hno c hm
    simp at this
  obtain ⟨h1, h2⟩ := (show upTo c (r.take i ++ c :: r.drop (i + 1)) = r.take i ∧ past c (r.take i ++ c :: r.drop (i + 1)) = c :: r.drop (i + 1) by
    have key : ∀ (a b : List UInt8), c ∉ a → upTo c (a ++ c :: b) = a ∧ past c (a ++ c :: b) = c :: b := fun a => by
      induction a with
      | nil => intro b _; simp [upTo, past]
      | cons x a ih =>
        intro b hm
        have hx : (x == c) = false := by rw [beq_eq_false_iff_ne]; rintro rfl; exact hm (List.mem_cons_self ..)
        obtain ⟨h1, h2⟩ := ih b (fun hm' => hm (List.mem_cons_of_mem _ hm'))
        unfold upTo past at *
        rw [List.cons_append, List.takeWhile_cons, List.dropWhile_cons, hx]
        exact ⟨by simp [h1], by simpa using h2⟩
    exact key _ _ hn)
  rw [← e] at h1 h2
  refine ⟨h1, ?_⟩
  rw [h2, List.drop_eq_getElem_cons h, hc]
theorem past_no (c : UInt8) (r : List UInt8) (hno : (r.take r.length).any (fun x => x == c) = false) : past c r = [] := by
  rw [List.take_length, List.any_eq_false] at hno
  unfold past
  induction r with
  | nil => rfl
  | cons x r ih =>
    have hx : (x == c) = false := by have := hno x (List.mem_cons_self ..); simpa using this
    rw [List.dropWhile_cons, hx]
    exact ih (fun y hy => hno y (List.mem_cons_of_mem _ hy))
set_option maxHeartbeats 2000000 in
theorem refPlace_any (c0 : UInt8) (r : List UInt8) (hr : r.length ≤ 1000000) (w : World) :
    Calls Tryz.prog 70 #[.string ⟨(c0 :: r).toArray⟩] w fun e w' => e = .returned (.tuple #[.string ⟨(placeB r).1.toArray⟩, .bool (placeB r).2]) ∧ Below w.heap.size w w' := by
  have HY : Hid (∀ i (h : i < r.length), r[i]'h = 125 → (r.take i).any (fun x => x == 125) = false → placeB r = (r.take i, nameT (r.take i))) := fun i h h1 h2 => by
    obtain ⟨e1, e2⟩ := upTo_take 125 r i h h1 h2
    unfold placeB
    rw [if_neg (by rw [e2]; intro h9; rw [List.drop_eq_nil_iff] at h9; omega), e1]
  have HN : Hid ((r.take r.length).any (fun x => x == 125) = false → placeB r = ([], false)) := fun h => by
    unfold placeB
    rw [if_pos (past_no 125 r h)]
  have HTK : Hid (∀ k (hk : k < r.length), (r.take (k + 1)).any (fun x => x == 125) = ((r.take k).any (fun x => x == 125) || ((r[k]'hk) == 125))) := fun k hk => by
    rw [List.take_succ_eq_append_getElem hk, List.any_append]; simp
  have HNM : Hid (∀ i w', Calls Tryz.prog 38 #[.string ⟨(r.take i).toArray⟩] w' fun e w'' => e = .returned (.bool (nameT (r.take i))) ∧ w' = w'') := fun i w' => refName_any _ (by rw [List.length_take]; unfold maxLen; omega) w'
  generalize placeB r = RES at *
  go_enter Tryz.func70, Tryz.ntmps70
  go_wp2
  go_loop [4] (fun i => ∃ k : Nat, k ≤ r.length ∧ i = .int .i64 ((k : Int) + 1) ∧ Hid ((r.take k).any (fun x => x == 125) = false)) (fun i => r.length + 1 - (intOf i).toNat)
  case atStart => exact ⟨0, Nat.zero_le _, rfl, rfl⟩
  case round =>
    obtain ⟨k, hk, rfl, hno⟩ := hrel
    by_cases hlt : k < r.length
    · have hki : (k : Int) + 1 < ((c0 :: r).length : Int) := by simp; omega
      have hki2 : (k : Int) + 1 < (r.length : Int) + 1 := by omega
      have hk0 : (0 : Int) ≤ (k : Int) + 1 := by omega
      have hkn : ((k : Int) + 1).toNat = k + 1 := by omega
      have hkw : IntKind.i64.wrap ((k : Int) + 1 + 1) = ((k + 1 : Nat) : Int) + 1 := by rw [IntWalk.i64_in _ (by omega)]; omega
      have htk := HTK.out k hlt
      rw [hno.out, Bool.false_or] at htk
      have HT := Lib.hid htk
      have HY2 := Lib.hid (fun h => HY.out k hlt h hno.out)
      have hgt : ∀ (h : k + 1 < (c0 :: r).length), (c0 :: r)[k + 1]'h = r[k]'hlt := fun h => rfl
      clear htk hno
      by_cases hc : r[k]'hlt = 125
      · obtain rfl := HY2.out hc
        have HN2 : Hid (∀ x, x = r.take k → ∀ w', Calls Tryz.prog 38 #[.string ⟨x.toArray⟩] w' fun e w'' => e = .returned (.bool (nameT (r.take k))) ∧ w' = w'') := fun x hx w' => by rw [hx]; exact HNM.out k w'
        have hy : ((r[k]'hlt).toNat : Int) = 125 := by rw [hc]; rfl
        have hk1 : (1 : Int) ≤ (k : Int) + 1 := by omega
        have hk2 : (k : Int) + 1 ≤ (r.length : Int) + 1 := by omega
        clear HT HY2 hc HNM HTK
        go_upto_region 5 with fail
        go_cut [2, 3] (fun s2 s3 wx => s2 = .string ⟨(r.take k).toArray⟩ ∧ s3 = .bool (nameT (r.take k)) ∧ Below w.heap.size w wx)
        case first =>
          refine wp_region_quiet_grown (by kernel_rfl) (by kernel_rfl) ?_
          repeat (quiet_step ((go_at_call 38; exact quiet_still (HN2.out _ (by simp) _))))
          refine wpQuiet_nil ?_; intro _ hw'; obtain ⟨pq, hw''⟩ := hw'; subst hw''
          go_wp2
          go_meet
          exact ⟨by simp, rfl, (by repeat (first | exact Below.refl _ _ | assumption | refine below_grown ?_ (by first | omega | (simp [go_sem]; done) | (simp [go_sem] <;> omega)) _ | refine Below.alloc ?_ (by first | omega | (simp [go_sem]; done) | (simp [go_sem] <;> omega)) _ | refine below_bytesW ?_ (by first | omega | (simp [go_sem]; done) | (simp [go_sem] <;> omega)) _ | refine Below.drew ?_ | refine below_drewN ?_ _))⟩
        case rest =>
          obtain ⟨rfl, rfl, hbw⟩ := hcut
          go_wp2
          go_ret2
          exact ⟨rfl, hbw⟩
      · have hc2 : ((r[k]'hlt) == 125) = false := by rw [beq_eq_false_iff_ne]; exact hc
        have hy : (((r[k]'hlt).toNat : Int) == 125) = false := by rw [u8_lit _ 125 125 rfl]; exact hc2
        have HT2 : Hid ((r.take (k + 1)).any (fun x => x == 125) = false) := by show _ = _; rw [HT.out, hc2]
        clear HT HY2 hc hc2 HNM HTK
        go_wp2
        go_round
        case rel => exact ⟨k + 1, by omega, by go_num, HT2.out⟩
        case measure => simp [intOf]; omega
    · obtain rfl : k = r.length := by omega
      obtain rfl := HN.out hno.out
      clear hno
      have hki : ¬ (r.length : Int) + 1 < ((c0 :: r).length : Int) := by simp
      have hki2 : ¬ (r.length : Int) + 1 < (r.length : Int) + 1 := by omega
      go_wp2
      go_ret2
      exact ⟨rfl, Below.refl _ _⟩
end

section
open Go Go.RowKit
set_option maxRecDepth 20000
set_option linter.unusedSimpArgs false
set_option linter.unusedVariables false

/-! ### a text read from the left -/
def remU (C : List GCh) (out : List Nat) (r : List UInt8) : Option (List Nat) := (partsT C r).map (usesGo out)
theorem remU_nil (C : List GCh) (out : List Nat) : remU C out [] = some out := rfl
theorem usesGo_text (out : List Nat) (x : List UInt8) (l : List GPart) : usesGo out ((x, -1) :: l) = usesGo out l := by
  rw [usesGo, if_neg (by simp)]
theorem upTo_cons {c d : UInt8} (h : d ≠ c) (r : List UInt8) : upTo c (d :: r) = d :: upTo c r ∧ past c (d :: r) = past c r := by
  have hx : (d == c) = false := beq_eq_false_iff_ne.2 h
  unfold upTo past
  rw [List.takeWhile_cons, List.dropWhile_cons, hx]
  exact ⟨rfl, rfl⟩
theorem upTo_same (c : UInt8) (r : List UInt8) : upTo c (c :: r) = [] ∧ past c (c :: r) = c :: r := by
  unfold upTo past
  simp
theorem remU_other (C : List GCh) (out : List Nat) {c : UInt8} (h : c ≠ 123) (r : List UInt8) : remU C out (c :: r) = remU C out r := by
  obtain ⟨e1, e2⟩ := upTo_cons h r
  unfold remU
  rw [partsT_step C (c :: r) (by simp), e1, e2]
  by_cases h0 : r = []
  · subst h0
    rfl
  · rw [partsT_step C r h0]
    by_cases h1 : past 123 r = []
    · rw [if_pos h1, if_pos h1]
      simp only [Option.map_some, usesGo_text]
    · rw [if_neg h1, if_neg h1]
      by_cases h2 : placeOk C (past 123 r).tail = true
      · rw [if_pos h2, if_pos h2, Option.map_map, Option.map_map]
        congr 1
      · rw [if_neg h2, if_neg h2]
theorem remU_place (C : List GCh) (out : List Nat) (r : List UInt8) : remU C out (123 :: r) = if placeOk C r = true then remU C (if atC C (upTo 125 r) ∈ out then out else out ++ [atC C (upTo 125 r)]) (past 125 r).tail else none := by
  obtain ⟨e1, e2⟩ := upTo_same 123 r
  unfold remU
  rw [partsT_step C (123 :: r) (by simp), e1, e2, if_neg (by simp), List.tail_cons]
  split
  · rw [Option.map_map]
    congr 1
    funext l
    simp only [Function.comp, usesGo_text]
    rw [usesGo]
    simp only [Int.toNat_natCast, Int.natCast_nonneg, true_and]
    by_cases hm : atC C (upTo 125 r) ∈ out
    · simp [hm]
    · simp [hm]
  · rfl
theorem placeOk_iff (C : List GCh) (r : List UInt8) : placeOk C r = true ↔ past 125 r ≠ [] ∧ nameT (upTo 125 r) = true ∧ hasC C (upTo 125 r) = true := by
  unfold placeOk
  simp
theorem drop_past (c : UInt8) (s : List UInt8) (k : Nat) (h : k < s.length) (hp : past c (s.drop (k + 1)) ≠ []) : k + (upTo c (s.drop (k + 1))).length + 2 ≤ s.length ∧ s.drop (k + (upTo c (s.drop (k + 1))).length + 2) = (past c (s.drop (k + 1))).tail := by
  have e : upTo c (s.drop (k + 1)) ++ past c (s.drop (k + 1)) = s.drop (k + 1) := List.takeWhile_append_dropWhile
  have hl := congrArg List.length e
  rw [List.length_append, List.length_drop] at hl
  have hp1 : 0 < (past c (s.drop (k + 1))).length := List.length_pos_iff.2 hp
  refine ⟨by omega, ?_⟩
  have e2 : s.drop (k + 1 + (upTo c (s.drop (k + 1))).length) = past c (s.drop (k + 1)) := by
    rw [← List.drop_drop]
    conv => lhs; arg 2; rw [← e]
    rw [List.drop_left']
    rfl
  rw [show k + (upTo c (s.drop (k + 1))).length + 2 = k + 1 + (upTo c (s.drop (k + 1))).length + 1 by omega, ← List.drop_drop, e2, List.drop_one]
theorem Own.made1N {α : Type} {c : Cod α} {Q : Nat → Prop} {w : World} {t : TypeId} {b : Nat} (ht : t = c.E) (hb : b = w.heap.size) (h : Q b) : Own c Q (w.alloc (.cells #[] t)) (.slice (some ⟨b, 0, none⟩) 0 0) [] := by
  subst hb
  exact Own.made0 h ht
theorem any_eqN (out : List Nat) (u : Nat) : out.any (fun x => x == u) = decide (u ∈ out) := by
  rw [Bool.eq_iff_iff, List.any_eq_true, decide_eq_true_eq]
  constructor
  · rintro ⟨x, h1, h2⟩; rw [beq_iff_eq] at h2; subst h2; exact h1
  · exact fun h => ⟨u, h, by simp⟩
set_option maxRecDepth 100000 in
set_option maxHeartbeats 8000000 in
theorem refUses_any (C : List GCh) (R : List RCh) (hn : R.map (·.name) = C.map (·.name)) (hR : R.length ≤ 1000) (a : Option Addr) (cap : Nat) (s : List UInt8) (hs : s.length ≤ 100000) (w : World) (hin : ListIn chCod w a R 0) :
    Calls Tryz.prog 42 #[.string ⟨s.toArray⟩, .slice a R.length cap] w (Gives2 natCod ((remU C [] s).getD []) (remU C [] s).isSome w) := by
  obtain ⟨RES, hres⟩ : ∃ RES, remU C [] s = RES := ⟨_, rfl⟩
  rw [hres]
  obtain ⟨POST, hpost⟩ : ∃ POST : Ending → World → Prop, Gives2 natCod (RES.getD []) RES.isSome w = POST := ⟨_, rfl⟩
  rw [hpost]
  have HPOST := Lib.hid hpost
  have HRES := Lib.hid hres
  have HIN := Lib.hid hin
  have HOTH : Hid (∀ out k (h : k < s.length), s[k]'h ≠ 123 → remU C out (s.drop k) = remU C out (s.drop (k + 1))) := fun out k h hc => by
    rw [List.drop_eq_getElem_cons h, remU_other C out hc]
  have HPL : Hid (∀ out k (h : k < s.length), s[k]'h = 123 → remU C out (s.drop k) = if placeOk C (s.drop (k + 1)) = true then remU C (if atC C (upTo 125 (s.drop (k + 1))) ∈ out then out else out ++ [atC C (upTo 125 (s.drop (k + 1)))]) (s.drop (k + (upTo 125 (s.drop (k + 1))).length + 2)) else none) := fun out k h hc => by
    rw [List.drop_eq_getElem_cons h, hc, remU_place]
    by_cases hp : placeOk C (s.drop (k + 1)) = true
    · rw [if_pos hp, if_pos hp, (drop_past 125 s k h ((placeOk_iff _ _).1 hp).1).2]
    · rw [if_neg hp, if_neg hp]
  have HPO : Hid (∀ k (h : k < s.length), ∀ w', Calls Tryz.prog 70 #[.string ⟨(s.drop k).toArray⟩] w' fun e w'' => e = .returned (.tuple #[.string ⟨(placeB (s.drop (k + 1))).1.toArray⟩, .bool (placeB (s.drop (k + 1))).2]) ∧ Below w'.heap.size w' w'') := fun k h w' => by
    rw [List.drop_eq_getElem_cons h]
    exact refPlace_any _ _ (by rw [List.length_drop]; omega) w'
  have HAT : Hid (∀ (x : List UInt8) w', ListIn chCod w' a R 0 → Calls Tryz.prog 39 #[.slice a R.length cap, .string ⟨x.toArray⟩] w' fun e w'' => e = .returned (.int .i64 (if hasC C x = true then (atC C x : Int) else -1)) ∧ Below w'.heap.size w' w'') := fun x w' h => by
    rw [← rchAt_eq hn]
    exact refAt_any R (by omega) x a cap w' h
  have HLN := Lib.hid (drop_past 125 s)
  have HCL : Hid (∀ x, hasC C x = true → atC C x < 1000) := fun x h => by
    have h1 := atC_lt h
    have h2 := congrArg List.length hn
    rw [List.length_map, List.length_map] at h2
    omega
  clear hpost hres hin hn
  go_enter Tryz.func42, Tryz.ntmps42
  go_wp2
  go_loopw [6, 7] (fun v i wr => ∃ (k : Nat) (out : List Nat), k ≤ s.length ∧ i = .int .i64 (k : Int) ∧ Own natCod (From w.heap.size) wr v out ∧ Below w.heap.size w wr ∧ Hid (remU C out (s.drop k) = RES) ∧ out.length ≤ k) (fun _ i _ => s.length - (intOf i).toNat)
  case atStart => exact ⟨0, [], Nat.zero_le _, rfl, Own.made1N rfl rfl (Nat.le_refl _), (by repeat (first | exact Below.refl _ _ | assumption | refine below_grown ?_ (by first | omega | (simp [go_sem]; done) | (simp [go_sem] <;> omega)) _ | refine Below.alloc ?_ (by first | omega | (simp [go_sem]; done) | (simp [go_sem] <;> omega)) _ | refine below_bytesW ?_ (by first | omega | (simp [go_sem]; done) | (simp [go_sem] <;> omega)) _ | refine Below.drew ?_ | refine below_drewN ?_ _)), by rw [List.drop_zero]; exact HRES.out, Nat.le_refl _⟩
  case round =>
    obtain ⟨k, out, hk, rfl, ho, hb, hinv, hol⟩ := hrel
    have hsz := hb.size
    have HO := Lib.hid ho
    have HB := Lib.hid hb
    obtain ⟨av, cv, rfl, hcv, hlv⟩ := ho.slice (B := w.heap.size) (fun _ h => from_le h)
    have HLV := Lib.hid hlv
    clear ho hb hlv
    by_cases hlt : k < s.length
    · have hki : (k : Int) < (s.length : Int) := by omega
      have hk0 : (0 : Int) ≤ (k : Int) := by omega
      by_cases hc : s[k]'hlt = 123
      · have hy : (((s[k]'hlt).toNat : Int) != 123) = false := by rw [u8_lit_ne _ 123 123 rfl, hc]; rfl
        have hpl := HPL.out out k hlt hc
        rw [hinv.out] at hpl
        have HP := Lib.hid hpl
        have HPO2 := Lib.hid (HPO.out k hlt)
        have HLN2 := Lib.hid (HLN.out k hlt)
        have HIN2 := Lib.hid (HIN.out.below HB.out)
        clear hpl hinv hc HPO HOTH
        generalize s.drop (k + 1) = x at *
        by_cases hp : past 125 x = []
        · have hRN : RES = none := by rw [HP.out, if_neg (fun h => ((placeOk_iff _ _).1 h).1 hp)]
          have hPB : placeB x = ([], false) := by unfold placeB; rw [if_pos hp]
          rw [hPB] at HPO2
          have HA2 := Lib.hid (HAT.out [])
          subst hRN
          clear hp HP HLN2 HCL HAT HPL hPB
          generalize (if hasC C [] = true then (atC C [] : Int) else -1) = kk at *
          go_wp2_with (first
            | (go_at_call 70; (with_reducible refine (HPO2.out _).mono ?_); rintro e w1 ⟨rfl, hb1⟩; obtain ⟨p1, rfl⟩ := grown_of hb1; clear hb1)
            | (go_at_call 39; (with_reducible refine (HA2.out _ (HIN2.out.below (by repeat (first | exact Below.refl _ _ | assumption | refine below_grown ?_ (by first | omega | (simp [go_sem]; done) | (simp [go_sem] <;> omega)) _ | refine Below.alloc ?_ (by first | omega | (simp [go_sem]; done) | (simp [go_sem] <;> omega)) _ | refine below_bytesW ?_ (by first | omega | (simp [go_sem]; done) | (simp [go_sem] <;> omega)) _ | refine Below.drew ?_ | refine below_drewN ?_ _)))).mono ?_); rintro e w1 ⟨rfl, hb1⟩; obtain ⟨p1, rfl⟩ := grown_of hb1; clear hb1))
          rw [← HPOST.out]
          exact ⟨none, 0, rfl, Nat.le_refl _, HB.out.trans (Below.mono (B := wr.heap.size) (by repeat (first | exact Below.refl _ _ | assumption | refine below_grown ?_ (by first | omega | (simp [go_sem]; done) | (simp [go_sem] <;> omega)) _ | refine Below.alloc ?_ (by first | omega | (simp [go_sem]; done) | (simp [go_sem] <;> omega)) _ | refine below_bytesW ?_ (by first | omega | (simp [go_sem]; done) | (simp [go_sem] <;> omega)) _ | refine Below.drew ?_ | refine below_drewN ?_ _)) hsz), .inl rfl⟩
        · have hPB : placeB x = (upTo 125 x, nameT (upTo 125 x)) := by unfold placeB; rw [if_neg hp]
          rw [hPB] at HPO2
          have HA2 := Lib.hid (HAT.out (upTo 125 x))
          obtain ⟨l1, l2⟩ := HLN2.out hp
          have HP2 : Hid (RES = if nameT (upTo 125 x) = true ∧ hasC C (upTo 125 x) = true then remU C (if atC C (upTo 125 x) ∈ out then out else out ++ [atC C (upTo 125 x)]) (s.drop (k + (upTo 125 x).length + 2)) else none) := by
            show _ = _
            rw [HP.out]
            by_cases h9 : nameT (upTo 125 x) = true ∧ hasC C (upTo 125 x) = true
            · rw [if_pos h9, if_pos ((placeOk_iff _ _).2 ⟨hp, h9⟩)]
            · rw [if_neg h9, if_neg (fun h => h9 ((placeOk_iff _ _).1 h).2)]
          have HC2 := Lib.hid (HCL.out (upTo 125 x))
          clear hp HP HLN2 HCL HAT HPL hPB l2
          generalize upTo 125 x = key at *
          dsimp only at HPO2
          cases hnm : nameT key
          · have hRN : RES = none := by rw [HP2.out, if_neg (by rw [hnm]; simp)]
            rw [hnm] at HPO2
            subst hRN
            clear HP2 hnm
            generalize (if hasC C key = true then (atC C key : Int) else -1) = kk at *
            go_wp2_with (first
              | (go_at_call 70; (with_reducible refine (HPO2.out _).mono ?_); rintro e w1 ⟨rfl, hb1⟩; obtain ⟨p1, rfl⟩ := grown_of hb1; clear hb1)
              | (go_at_call 39; (with_reducible refine (HA2.out _ (HIN2.out.below (by repeat (first | exact Below.refl _ _ | assumption | refine below_grown ?_ (by first | omega | (simp [go_sem]; done) | (simp [go_sem] <;> omega)) _ | refine Below.alloc ?_ (by first | omega | (simp [go_sem]; done) | (simp [go_sem] <;> omega)) _ | refine below_bytesW ?_ (by first | omega | (simp [go_sem]; done) | (simp [go_sem] <;> omega)) _ | refine Below.drew ?_ | refine below_drewN ?_ _)))).mono ?_); rintro e w1 ⟨rfl, hb1⟩; obtain ⟨p1, rfl⟩ := grown_of hb1; clear hb1))
            rw [← HPOST.out]
            exact ⟨none, 0, rfl, Nat.le_refl _, HB.out.trans (Below.mono (B := wr.heap.size) (by repeat (first | exact Below.refl _ _ | assumption | refine below_grown ?_ (by first | omega | (simp [go_sem]; done) | (simp [go_sem] <;> omega)) _ | refine Below.alloc ?_ (by first | omega | (simp [go_sem]; done) | (simp [go_sem] <;> omega)) _ | refine below_bytesW ?_ (by first | omega | (simp [go_sem]; done) | (simp [go_sem] <;> omega)) _ | refine Below.drew ?_ | refine below_drewN ?_ _)) hsz), .inl rfl⟩
          · rw [hnm] at HPO2
            cases hhs : hasC C key
            · have hRN : RES = none := by rw [HP2.out, if_neg (by rw [hhs]; simp)]
              rw [hhs] at HA2
              subst hRN
              clear HP2 hnm hhs
              go_wp2_with (first
                | (go_at_call 70; (with_reducible refine (HPO2.out _).mono ?_); rintro e w1 ⟨rfl, hb1⟩; obtain ⟨p1, rfl⟩ := grown_of hb1; clear hb1)
                | (go_at_call 39; (with_reducible refine (HA2.out _ (HIN2.out.below (by repeat (first | exact Below.refl _ _ | assumption | refine below_grown ?_ (by first | omega | (simp [go_sem]; done) | (simp [go_sem] <;> omega)) _ | refine Below.alloc ?_ (by first | omega | (simp [go_sem]; done) | (simp [go_sem] <;> omega)) _ | refine below_bytesW ?_ (by first | omega | (simp [go_sem]; done) | (simp [go_sem] <;> omega)) _ | refine Below.drew ?_ | refine below_drewN ?_ _)))).mono ?_); rintro e w1 ⟨rfl, hb1⟩; obtain ⟨p1, rfl⟩ := grown_of hb1; clear hb1))
              rw [← HPOST.out]
              exact ⟨none, 0, rfl, Nat.le_refl _, HB.out.trans (Below.mono (B := wr.heap.size) (by repeat (first | exact Below.refl _ _ | assumption | refine below_grown ?_ (by first | omega | (simp [go_sem]; done) | (simp [go_sem] <;> omega)) _ | refine Below.alloc ?_ (by first | omega | (simp [go_sem]; done) | (simp [go_sem] <;> omega)) _ | refine below_bytesW ?_ (by first | omega | (simp [go_sem]; done) | (simp [go_sem] <;> omega)) _ | refine Below.drew ?_ | refine below_drewN ?_ _)) hsz), .inl rfl⟩
            · have HA3 : Hid (∀ w', ListIn chCod w' a R 0 → Calls Tryz.prog 39 #[.slice a R.length cap, .string ⟨key.toArray⟩] w' fun e w'' => e = .returned (.int .i64 (atC C key : Int)) ∧ Below w'.heap.size w' w'') := fun w' h => by
                have := HA2.out w' h
                rwa [if_pos hhs] at this
              have HP3 : Hid (RES = remU C (if atC C key ∈ out then out else out ++ [atC C key]) (s.drop (k + key.length + 2))) := by
                show _ = _
                rw [HP2.out, if_pos ⟨hnm, hhs⟩]
              have hu := HC2.out hhs
              clear HP2 hnm hhs HA2 HC2
              generalize atC C key = u at *
              have hu0 : (0 : Int) ≤ (u : Int) := by omega
              go_upto_region 11 with (first
                | (go_at_call 70; (with_reducible refine (HPO2.out _).mono ?_); rintro e w3 ⟨rfl, hb3⟩; have HB3 := Lib.hid hb3; clear hb3)
                | (go_at_call 39; (with_reducible refine (HA3.out _ (HIN2.out.below HB3.out)).mono ?_); rintro e w4 ⟨rfl, hb4⟩; have HB4 := Lib.hid hb4; clear hb4))
              have hs3 := HB3.out.size
              have hs4 := HB4.out.size
              have HBR4 : Hid (Below wr.heap.size wr w4) := HB3.out.trans (HB4.out.mono hs3)
              have HB5 : Hid (Below w.heap.size w w4) := HB.out.trans (HBR4.out.mono hsz)
              have HO5 := Lib.hid (HO.out.below HBR4.out)
              have HLV5 := Lib.hid (HLV.out.below HBR4.out)
              clear HPO2 HA3 HIN2 HO HLV HB HB3 HB4 HBR4
              go_wp2
              go_loop [11, 43] (fun kn i => ∃ j : Nat, j ≤ out.length ∧ i = .int .i64 (j : Int) ∧ kn = .bool ((out.take j).any (fun x => x == u))) (fun _ i => out.length - (intOf i).toNat)
              case atStart => exact ⟨0, Nat.zero_le _, rfl, rfl⟩
              case round =>
                obtain ⟨j, hj, rfl, rfl⟩ := hrel
                by_cases hjl : j < out.length
                · obtain ⟨g, o, rfl, _, hg, hat⟩ := HLV5.out.resolve_left (fun h => by subst h; exact absurd hjl (Nat.not_lt_zero _))
                  have hcell := natAt hat j hjl
                  have hji : (j : Int) < (out.length : Int) := by omega
                  have htk : (out.take (j + 1)).any (fun x => x == u) = ((out.take j).any (fun x => x == u) || ((out[j]'hjl) == u)) := by
                    rw [List.take_succ_eq_append_getElem hjl, List.any_append]; simp
                  have HT := Lib.hid htk
                  have hii : (((out[j]'hjl : Nat) : Int) == (u : Int)) = ((out[j]'hjl) == u) := by
                    rw [Bool.eq_iff_iff, beq_iff_eq, beq_iff_eq]; omega
                  clear hat htk
                  generalize out[j]'hjl = y at *
                  generalize (out.take j).any (fun x => x == u) = kn at *
                  cases kn
                  · go_wp2
                    go_round
                    case rel => exact ⟨j + 1, by omega, by go_num, by rw [HT.out]; simp [hii]⟩
                    case measure => simp [intOf]; omega
                  · go_wp2
                    go_round
                    case rel => exact ⟨j + 1, by omega, by go_num, by rw [HT.out]; simp⟩
                    case measure => simp [intOf]; omega
                · obtain rfl : j = out.length := by omega
                  have hall : (out.take out.length).any (fun x => x == u) = decide (u ∈ out) := by rw [List.take_length, any_eqN]
                  rw [hall]
                  clear hall
                  have hw1 : IntKind.i64.wrap ((key.length : Int) + 1) = (key.length : Int) + 1 := IntWalk.i64_in _ (by omega)
                  have hw2 : IntKind.i64.wrap ((k : Int) + ((key.length : Int) + 1)) = ((k + key.length + 1 : Nat) : Int) := by rw [IntWalk.i64_in _ (by omega)]; omega
                  have hw3 : IntKind.i64.wrap (((k + key.length + 1 : Nat) : Int) + 1) = ((k + key.length + 2 : Nat) : Int) := by rw [IntWalk.i64_in _ (by omega)]; omega
                  by_cases hm : u ∈ out
                  · have HI2 : Hid (remU C out (s.drop (k + key.length + 2)) = RES) := by show _ = _; rw [HP3.out, if_pos hm]
                    have hd : decide (u ∈ out) = true := decide_eq_true hm
                    rw [hd]
                    clear hd hm HP3
                    go_wp2
                    go_roundw
                    case rel => exact ⟨k + key.length + 2, out, by omega, by first | rfl | go_num, HO5.out, HB5.out, HI2.out, by omega⟩
                    case measure => simp [intOf]; omega
                  · have HI2 : Hid (remU C (out ++ [u]) (s.drop (k + key.length + 2)) = RES) := by show _ = _; rw [HP3.out, if_neg hm]
                    have hd : decide (u ∈ out) = false := decide_eq_false hm
                    rw [hd]
                    clear hd hm HP3
                    have hs5 : w.heap.size ≤ w4.heap.size := HB5.out.size
                    go_wp2_with (at_builtin; refine wpList_append_list rfl natCod (.tmp 56) (.tmp 58) 63 rfl rfl (From w.heap.size) _ _ (out) rfl (HO5.out.alloc _) _ 0 _ _ [u] rfl rfl (nat_new _ _ _ (by simp [go_sem])) (by first | omega | (simp; done) | (simp; omega) | (simp [go_sem]; done) | (simp [go_sem]; omega) | (simp [natCod]; omega)) (by first | omega | (simp; done) | (simp; omega) | (simp [go_sem]; done) | (simp [go_sem]; omega) | (simp [natCod]; omega)) (by first | (show _ ≤ _; first | omega | (simp; omega) | (simp [go_sem]; omega)) | (show _ ∨ _; right; first | omega | (simp; omega) | (simp [go_sem]; omega))) ?_; intro v' w1 ho1 hb1; have HO1 := Lib.hid ho1; have HB1 := Lib.hid hb1; clear ho1 hb1)
                    go_roundw
                    case rel => exact ⟨k + key.length + 2, out ++ [u], by omega, by first | rfl | go_num, by simpa using HO1.out, (HB5.out.alloc hs5 _).trans (HB1.out.below_from (by simp; omega)), HI2.out, by simp; omega⟩
                    case measure => simp [intOf]; omega
      · have hy : (((s[k]'hlt).toNat : Int) != 123) = true := by rw [u8_lit_ne _ 123 123 rfl, bne_iff_ne]; exact hc
        have hot := HOTH.out out k hlt hc
        rw [hinv.out] at hot
        have HI2 := Lib.hid hot.symm
        clear hot hinv hc
        go_wp2
        go_roundw
        case rel => exact ⟨k + 1, out, by omega, by go_num, HO.out, HB.out, HI2.out, by omega⟩
        case measure => simp [intOf]; omega
    · obtain rfl : k = s.length := by omega
      have hfin := hinv.out
      rw [List.drop_length, remU_nil] at hfin
      subst hfin
      clear hinv
      go_wp2
      rw [← HPOST.out]
      exact ⟨av, cv, rfl, hcv, HB.out, HLV.out⟩
end

section
open Go Go.RowKit
set_option maxRecDepth 20000
set_option linter.unusedSimpArgs false
set_option linter.unusedVariables false

/-! ### many -/
def manyGo (C : List GCh) : Nat → List Nat → Nat
  | n, [] => n
  | n, i :: is => manyGo C (min (n * min (valsC C i).length 25) 25) is
theorem manyGo_25 (C : List GCh) : ∀ us : List Nat, (∀ u ∈ us, 0 < (valsC C u).length) → manyGo C 25 us = 25
  | [], _ => rfl
  | u :: us, h => by
    have hu := h u (List.mem_cons_self ..)
    have e : min (25 * min (valsC C u).length 25) 25 = 25 := by omega
    rw [manyGo, e]
    exact manyGo_25 C us (fun x hx => h x (List.mem_cons_of_mem _ hx))
theorem manyGo_iff (C : List GCh) : ∀ (us : List Nat) (m : Nat), 1 ≤ m → (∀ u ∈ us, 0 < (valsC C u).length) → (24 < manyGo C (min m 25) us ↔ 24 < rowsGo C m us)
  | [], m, _, _ => by
    show 24 < min m 25 ↔ 24 < m
    omega
  | u :: us, m, hm, h => by
    have hu := h u (List.mem_cons_self ..)
    have hr := fun x hx => h x (List.mem_cons_of_mem _ hx)
    generalize hL : (valsC C u).length = L at hu
    rw [manyGo, rowsGo, hL]
    by_cases h24 : 24 < m * L
    · rw [if_pos h24]
      have e : min (min m 25 * min L 25) 25 = 25 := by
        by_cases h1 : m ≤ 25
        · have em : min m 25 = m := by omega
          by_cases h2 : L ≤ 25
          · have eL : min L 25 = L := by omega
            rw [em, eL]; omega
          · have eL : min L 25 = 25 := by omega
            rw [em, eL]; omega
        · have em : min m 25 = 25 := by omega
          rw [em]; omega
      rw [e, manyGo_25 C us hr]
      exact ⟨fun _ => h24, fun _ => by decide⟩
    · rw [if_neg h24]
      have h1 : m ≤ 24 := Nat.le_trans (Nat.le_mul_of_pos_right m hu) (by omega)
      have h2 : L ≤ 24 := Nat.le_trans (Nat.le_mul_of_pos_left L hm) (by omega)
      have e : min (min m 25 * min L 25) 25 = min (m * L) 25 := by
        rw [Nat.min_eq_left (by omega : m ≤ 25), Nat.min_eq_left (by omega : L ≤ 25)]
      rw [e]
      exact manyGo_iff C us (m * L) (Nat.mul_pos hm hu) hr
theorem manyGo_at (C : List GCh) (us : List Nat) (k : Nat) (h : k < us.length) (n : Nat) : manyGo C n (us.drop k) = manyGo C (min (n * min (valsC C (us[k]'h)).length 25) 25) (us.drop (k + 1)) := by
  rw [List.drop_eq_getElem_cons h, manyGo]
set_option maxHeartbeats 4000000 in
theorem refMany_any (C : List GCh) (R : List RCh) (lo : Nat) (us : List Nat) (hul : us.length ≤ 300000) (hu : ∀ u ∈ us, u < C.length) (hv : ∀ c ∈ C, c.vals.length ≤ 100000) (a au : Option Addr) (cap cu : Nat) (w : World) (hin : ListIn chCod w a R 0) (hC : ChsOk w lo R C) (hus : ListIn natCod w au us 0) :
    Calls Tryz.prog 43 #[.slice au us.length cu, .slice a R.length cap] w fun e w' => e = .returned (.int .i64 (manyGo C 1 us : Nat)) ∧ w = w' := by
  obtain ⟨RES, hres⟩ : ∃ RES, manyGo C 1 us = RES := ⟨_, rfl⟩
  rw [hres]
  have HRES := Lib.hid hres
  have HIN := Lib.hid hin
  have HC := Lib.hid hC
  have HUS := Lib.hid hus
  have HU := Lib.hid hu
  have HV := Lib.hid hv
  have HAT := Lib.hid (manyGo_at C us)
  have HRC := Lib.hid hC.1
  clear hin hC hus hu hv hres
  go_enter Tryz.func43, Tryz.ntmps43
  go_wp2
  go_loop [5, 10] (fun nv i => ∃ k n : Nat, k ≤ us.length ∧ i = .int .i64 (k : Int) ∧ nv = .int .i64 (n : Int) ∧ n ≤ 25 ∧ Hid (manyGo C n (us.drop k) = RES)) (fun _ i => us.length - (intOf i).toNat)
  case atStart => exact ⟨0, 1, Nat.zero_le _, rfl, rfl, by decide, by rw [List.drop_zero]; exact HRES.out⟩
  case round =>
    obtain ⟨k, n, hk, rfl, rfl, hn, hinv⟩ := hrel
    by_cases hlt : k < us.length
    · obtain ⟨gu, ou, rfl, _, _, hau⟩ := HUS.out.resolve_left (fun h => by subst h; exact absurd hlt (Nat.not_lt_zero _))
      have hcu := natAt hau k hlt
      have huC := HU.out _ (List.getElem_mem hlt)
      have hst := HAT.out k hlt n
      rw [hinv.out, valsC_at C _ huC] at hst
      have HS := Lib.hid hst
      have hkk : (k : Int) < (us.length : Int) := by omega
      have hvl := HV.out _ (List.getElem_mem huC)
      clear hau hst hinv
      generalize us[k]'hlt = u at *
      have huR : u < R.length := by rw [HRC.out]; exact huC
      obtain ⟨g, o, rfl, _, _, hat⟩ := HIN.out.resolve_left (fun h => by subst h; exact absurd huR (Nat.not_lt_zero _))
      obtain ⟨h1, h2, h3, h4⟩ := HC.out.2 u huR huC
      have hr0 := hat.get u huR 1 _ rfl
      have hr1 : w.cell? ⟨g, o + u * 2 + 1, none⟩ = some (.slice (R[u]'huR).a (R[u]'huR).n (R[u]'huR).cap) := by rw [Nat.add_assoc]; exact hr0
      rw [h2] at hr1
      have huu : (u : Int) < (R.length : Int) := by omega
      have hu0 : (0 : Int) ≤ (u : Int) := by omega
      clear hr0 hat h1 h2 h3 h4
      generalize (C[u]'huC).vals.length = L at *
      have hml : min L 25 ≤ 25 := Nat.min_le_right _ _
      obtain ⟨l', hl'⟩ : ∃ l', min L 25 = l' := ⟨_, rfl⟩
      rw [hl'] at HS hml
      have hmn : min (L : Int) 25 = (l' : Int) := by omega
      have hmul : n * l' ≤ 25 * 25 := Nat.mul_le_mul hn hml
      have hw : IntKind.i64.wrap ((n : Int) * (l' : Int)) = ((n * l' : Nat) : Int) := by rw [← Int.natCast_mul]; exact IntWalk.i64_in _ (by omega)
      have hw2 : (n : Int) * (l' : Int) = ((n * l' : Nat) : Int) := by rw [Int.natCast_mul]
      generalize n * l' = q at *
      have hwq : wrap64 (q : Int) = (q : Int) := by unfold wrap64; omega
      have hmq : min q 25 ≤ 25 := Nat.min_le_right _ _
      obtain ⟨q', hq'⟩ : ∃ q', min q 25 = q' := ⟨_, rfl⟩
      rw [hq'] at HS hmq
      have hmn2 : min (q : Int) 25 = (q' : Int) := by clear hwq hw hw2 hmul; omega
      have HS2 : Hid (manyGo C q' (us.drop (k + 1)) = RES) := HS.out.symm
      clear HS hl' hq' hmul
      go_wp2
      go_round
      case rel => exact ⟨k + 1, q', by omega, by go_num, rfl, hmq, HS2.out⟩
      case measure => simp [intOf]; omega
    · obtain rfl : k = us.length := by omega
      have hfin := hinv.out
      rw [List.drop_length] at hfin
      have hf2 : n = RES := hfin
      subst hf2
      clear hinv hfin
      go_wp2
      go_ret
      exact ⟨rfl, rfl⟩
/-! ### long -/
theorem lenGo_ge (C : List GCh) : ∀ (l : List GPart) (n : Nat), n ≤ lenGo C n l
  | [], n => Nat.le_refl _
  | p :: l, n => by
    rw [lenGo]
    split
    · exact Nat.le_trans (by omega) (lenGo_ge C l _)
    split
    · omega
    · exact Nat.le_trans (by omega) (lenGo_ge C l _)
/-- What is left of a text makes this of a length. -/
def Lft (C : List GCh) (n : Nat) (r : List UInt8) (b : Bool) : Prop := ∃ l, partsT C r = some l ∧ decide (2000 < lenGo C n l) = b
theorem lenGo_txt' (C : List GCh) (n : Nat) (s : List UInt8) (l : List GPart) : lenGo C n ((s, -1) :: l) = lenGo C (n + s.length) l := by
  rw [lenGo, if_pos (show (-1 : Int) < 0 by decide)]
theorem Lft.other {C : List GCh} {n : Nat} {c : UInt8} {r : List UInt8} {b : Bool} (h : Lft C n (c :: r) b) (hc : c ≠ 123) : Lft C (n + 1) r b := by
  obtain ⟨l, h1, h2⟩ := h
  obtain ⟨e1, e2⟩ := upTo_cons hc r
  rw [partsT_step C (c :: r) (by simp), e1, e2] at h1
  by_cases h0 : r = []
  · subst h0
    have hl : l = [([c], -1)] := by
      rw [show past 123 ([] : List UInt8) = [] from rfl, if_pos rfl] at h1
      exact (Option.some.inj h1).symm
    subst hl
    exact ⟨[], rfl, by rw [← h2, lenGo_txt']; rfl⟩
  · rw [Lft, partsT_step C r h0]
    by_cases h3 : past 123 r = []
    · rw [if_pos h3] at h1 ⊢
      cases h1
      refine ⟨_, rfl, ?_⟩
      rw [← h2, lenGo_txt', lenGo_txt']
      congr 3
      simp; omega
    · rw [if_neg h3] at h1 ⊢
      by_cases h4 : placeOk C (past 123 r).tail = true
      · rw [if_pos h4] at h1 ⊢
        obtain ⟨l', h5, rfl⟩ := Option.map_eq_some_iff.1 h1
        rw [h5]
        refine ⟨_, rfl, ?_⟩
        rw [← h2, lenGo_txt', lenGo_txt']
        congr 3
        simp; omega
      · rw [if_neg h4] at h1
        cases h1
theorem Lft.place {C : List GCh} {n : Nat} {r : List UInt8} {b : Bool} (h : Lft C n (123 :: r) b) : placeOk C r = true ∧ Lft C (n + mostT (valsC C (atC C (upTo 125 r)))) (past 125 r).tail b := by
  obtain ⟨l, h1, h2⟩ := h
  obtain ⟨e1, e2⟩ := upTo_same 123 r
  rw [partsT_step C (123 :: r) (by simp), e1, e2, if_neg (by simp), List.tail_cons] at h1
  by_cases h4 : placeOk C r = true
  · rw [if_pos h4] at h1
    obtain ⟨l', h5, rfl⟩ := Option.map_eq_some_iff.1 h1
    refine ⟨h4, l', h5, ?_⟩
    rw [← h2, lenGo_txt', lenGo, if_neg (show ¬ ((atC C (upTo 125 r) : Int) < 0) by omega)]
    simp only [List.length_nil, Nat.add_zero, Int.toNat_natCast]
    split
    · rename_i h6
      rw [decide_eq_true h6, decide_eq_true (Nat.lt_of_lt_of_le h6 (lenGo_ge C l' _))]
    · rfl
  · rw [if_neg h4] at h1
    cases h1
theorem Lft.big {C : List GCh} {n : Nat} {r : List UInt8} {b : Bool} (h : Lft C n r b) (hn : 2000 < n) : b = true := by
  obtain ⟨l, _, h2⟩ := h
  rw [← h2]
  exact decide_eq_true (Nat.lt_of_lt_of_le hn (lenGo_ge C l n))
theorem Lft.nil {C : List GCh} {n : Nat} {b : Bool} (h : Lft C n [] b) : b = decide (2000 < n) := by
  obtain ⟨l, h1, h2⟩ := h
  cases h1
  exact h2.symm
set_option maxRecDepth 100000 in
set_option maxHeartbeats 8000000 in
theorem refLong_any (C : List GCh) (R : List RCh) (lo : Nat) (hR : R.length ≤ 1000) (hv : ∀ c ∈ C, c.vals.length ≤ 1000 ∧ ∀ x ∈ c.vals, x.length ≤ 100000) (a : Option Addr) (cap : Nat) (s : List UInt8) (hs : s.length ≤ 100000) (l : List GPart) (hl : partsT C s = some l) (w : World) (hin : ListIn chCod w a R 0) (hC : ChsOk w lo R C) :
    Calls Tryz.prog 44 #[.string ⟨s.toArray⟩, .slice a R.length cap] w fun e w' => e = .returned (.bool (decide (2000 < lenGo C 0 l))) ∧ Below w.heap.size w w' := by
  obtain ⟨RES, hres⟩ : ∃ RES, decide (2000 < lenGo C 0 l) = RES := ⟨_, rfl⟩
  rw [hres]
  have HL0 : Hid (Lft C 0 s RES) := ⟨l, hl, hres⟩
  have HIN := Lib.hid hin
  have HC := Lib.hid hC
  have HV := Lib.hid hv
  have HRC := Lib.hid hC.1
  have hn := hC.names
  have HOTH : Hid (∀ n k (h : k < s.length), s[k]'h ≠ 123 → Lft C n (s.drop k) RES → Lft C (n + 1) (s.drop (k + 1)) RES) := fun n k h hc h1 => by
    rw [List.drop_eq_getElem_cons h] at h1
    exact h1.other hc
  have HPL : Hid (∀ n k (h : k < s.length), s[k]'h = 123 → Lft C n (s.drop k) RES → past 125 (s.drop (k + 1)) ≠ [] ∧ nameT (upTo 125 (s.drop (k + 1))) = true ∧ hasC C (upTo 125 (s.drop (k + 1))) = true ∧ k + (upTo 125 (s.drop (k + 1))).length + 2 ≤ s.length ∧ Lft C (n + mostT (valsC C (atC C (upTo 125 (s.drop (k + 1)))))) (s.drop (k + (upTo 125 (s.drop (k + 1))).length + 2)) RES) := fun n k h hc h1 => by
    rw [List.drop_eq_getElem_cons h, hc] at h1
    obtain ⟨h2, h3⟩ := h1.place
    obtain ⟨h4, h5, h6⟩ := (placeOk_iff _ _).1 h2
    obtain ⟨h7, h8⟩ := drop_past 125 s k h h4
    exact ⟨h4, h5, h6, h7, by rw [h8]; exact h3⟩
  have HPO : Hid (∀ k (h : k < s.length), ∀ w', Calls Tryz.prog 70 #[.string ⟨(s.drop k).toArray⟩] w' fun e w'' => e = .returned (.tuple #[.string ⟨(placeB (s.drop (k + 1))).1.toArray⟩, .bool (placeB (s.drop (k + 1))).2]) ∧ Below w'.heap.size w' w'') := fun k h w' => by
    rw [List.drop_eq_getElem_cons h]
    exact refPlace_any _ _ (by rw [List.length_drop]; omega) w'
  have HAT : Hid (∀ (x : List UInt8) w', ListIn chCod w' a R 0 → Calls Tryz.prog 39 #[.slice a R.length cap, .string ⟨x.toArray⟩] w' fun e w'' => e = .returned (.int .i64 (if hasC C x = true then (atC C x : Int) else -1)) ∧ Below w'.heap.size w' w'') := fun x w' h => by
    rw [← rchAt_eq hn]
    exact refAt_any R (by omega) x a cap w' h
  clear hres hin hC hv hn hl
  go_enter Tryz.func44, Tryz.ntmps44
  go_wp2
  go_loopw [5, 6] (fun nv i wr => ∃ k n : Nat, k ≤ s.length ∧ n ≤ 200000 ∧ i = .int .i64 (k : Int) ∧ nv = .int .i64 (n : Int) ∧ Below w.heap.size w wr ∧ Hid (Lft C n (s.drop k) RES)) (fun _ i _ => s.length - (intOf i).toNat)
  case atStart => exact ⟨0, 0, Nat.zero_le _, Nat.zero_le _, rfl, rfl, Below.refl _ _, by rw [List.drop_zero]; exact HL0.out⟩
  case round =>
    obtain ⟨k, n, hk, hn, rfl, rfl, hb, hinv⟩ := hrel
    have hsz := hb.size
    have HB := Lib.hid hb
    by_cases hn2 : 2000 < n
    · obtain rfl := hinv.out.big hn2
      have hn3 : ¬ (n : Int) ≤ 2000 := by omega
      have hn4 : (2000 : Int) < (n : Int) := by omega
      clear hinv hn2
      by_cases hlt : k < s.length
      · have hki : (k : Int) < (s.length : Int) := by omega
        go_wp2
        go_ret
        exact ⟨by first | rfl | exact ret_bool (by simp; omega), hb⟩
      · have hki : ¬ (k : Int) < (s.length : Int) := by omega
        go_wp2
        go_ret
        exact ⟨by first | rfl | exact ret_bool (by simp; omega), hb⟩
    · have hn3 : (n : Int) ≤ 2000 := by omega
      by_cases hlt : k < s.length
      · have hki : (k : Int) < (s.length : Int) := by omega
        have hk0 : (0 : Int) ≤ (k : Int) := by omega
        by_cases hc : s[k]'hlt = 123
        · have hy : (((s[k]'hlt).toNat : Int) != 123) = false := by rw [u8_lit_ne _ 123 123 rfl, hc]; rfl
          obtain ⟨p1', p2', p3', p4', p5'⟩ := HPL.out n k hlt hc hinv.out
          have HLF := Lib.hid p5'
          have hPB : placeB (s.drop (k + 1)) = (upTo 125 (s.drop (k + 1)), true) := by unfold placeB; rw [if_neg p1', p2']
          have HPO2 := Lib.hid (HPO.out k hlt)
          rw [hPB] at HPO2
          have HA3 : Hid (∀ w', ListIn chCod w' a R 0 → Calls Tryz.prog 39 #[.slice a R.length cap, .string ⟨(upTo 125 (s.drop (k + 1))).toArray⟩] w' fun e w'' => e = .returned (.int .i64 (atC C (upTo 125 (s.drop (k + 1))) : Int)) ∧ Below w'.heap.size w' w'') := fun w' h => by
            have := HAT.out (upTo 125 (s.drop (k + 1))) w' h
            rwa [if_pos p3'] at this
          have huC := atC_lt p3'
          have HIN2 := Lib.hid (HIN.out.below HB.out)
          clear p1' p2' p3' p5' hPB HPO hinv hc HPL HOTH HAT
          rw [valsC_at C _ huC] at HLF
          generalize upTo 125 (s.drop (k + 1)) = key at *
          generalize atC C key = u at *
          have hu0 : (0 : Int) ≤ (u : Int) := by omega
          have huR : u < R.length := by rw [HRC.out]; exact huC
          have huu : (u : Int) < (R.length : Int) := by omega
          obtain ⟨v1, v2⟩ := HV.out _ (List.getElem_mem huC)
          obtain ⟨g, o, rfl, _, hgw, hat⟩ := HIN.out.resolve_left (fun h => by subst h; exact absurd huR (Nat.not_lt_zero _))
          obtain ⟨h1, h2, h3, h4⟩ := HC.out.2 u huR huC
          have HR1 : Hid (∀ w', Below w.heap.size w w' → w'.cell? ⟨g, o + u * 2 + 1, none⟩ = some (.slice (R[u]'huR).a (R[u]'huR).n (R[u]'huR).cap)) := fun w' hw' => by
            rw [Nat.add_assoc]
            exact (hat.below hw').get u huR 1 _ rfl
          have HLV : Hid (∀ w', Below w.heap.size w w' → ListIn strCod w' (R[u]'huR).a (C[u]'huC).vals 0) := fun w' hw' => (h4.mono (Nat.zero_le _)).below hw'
          rw [h2] at HR1
          clear h1 h2 h3 h4 hat
          generalize (C[u]'huC).vals = V at *
          generalize (R[u]'huR).a = av at *
          generalize (R[u]'huR).cap = cv at *
          go_upto_region 9 with (go_at_call 70; (with_reducible refine (HPO2.out _).mono ?_); rintro e w3 ⟨rfl, hb3⟩; have HB3 := Lib.hid hb3; clear hb3)
          have hs3 := HB3.out.size
          have HBW3 : Hid (Below w.heap.size w w3) := HB.out.trans (HB3.out.mono hsz)
          clear HPO2 HIN2
          go_wp2_with (go_at_call 39; (with_reducible refine (HA3.out _ (HIN.out.below HBW3.out)).mono ?_); rintro e w4 ⟨rfl, hb4⟩; have HB4 := Lib.hid hb4; have hr1 := HR1.out _ (HBW3.out.trans (hb4.mono HBW3.out.size)); clear hb4)
          have HBW4 : Hid (Below w.heap.size w w4) := HBW3.out.trans (HB4.out.mono HBW3.out.size)
          have HLV4 := Lib.hid (HLV.out _ HBW4.out)
          clear HLV HR1 HA3 HB3 HB4 HBW3 hr1
          have HMT := Lib.hid (mostT_take V)
          have HML := Lib.hid (mostT_le V v2)
          go_loop [9, 43] (fun mv i => ∃ j : Nat, j ≤ V.length ∧ i = .int .i64 (j : Int) ∧ mv = .int .i64 (mostT (V.take j) : Nat)) (fun _ i => V.length - (intOf i).toNat)
          case atStart => exact ⟨0, Nat.zero_le _, rfl, rfl⟩
          case round =>
            obtain ⟨j, hj, rfl, rfl⟩ := hrel
            by_cases hjl : j < V.length
            · obtain ⟨gv, ov, rfl, _, _, hav⟩ := HLV4.out.resolve_left (fun h => by subst h; exact absurd hjl (Nat.not_lt_zero _))
              have hcell := strAt hav j hjl
              have hji : (j : Int) < (V.length : Int) := by omega
              have hmt := HMT.out j hjl
              clear hav
              generalize V[j]'hjl = y at *
              generalize mostT (V.take j) = m0 at *
              obtain ⟨m1, hm1⟩ : ∃ m1, mostT (V.take (j + 1)) = m1 := ⟨_, rfl⟩
              rw [hm1] at hmt
              have hmx : max (m0 : Int) (y.length : Int) = (m1 : Int) := by omega
              have HM1 := Lib.hid hm1
              clear hm1 hmt
              go_wp2
              go_round
              case rel => exact ⟨j + 1, by omega, by go_num, by rw [HM1.out]⟩
              case measure => simp [intOf]; omega
            · obtain rfl : j = V.length := by omega
              have hml := HML.out V.length
              rw [List.take_length] at hml ⊢
              generalize mostT V = m0 at *
              have hw1 : IntKind.i64.wrap ((key.length : Int) + 1) = (key.length : Int) + 1 := IntWalk.i64_in _ (by omega)
              have hw2 : IntKind.i64.wrap ((k : Int) + ((key.length : Int) + 1)) = ((k + key.length + 1 : Nat) : Int) := by rw [IntWalk.i64_in _ (by omega)]; omega
              have hw3 : IntKind.i64.wrap (((k + key.length + 1 : Nat) : Int) + 1) = ((k + key.length + 2 : Nat) : Int) := by rw [IntWalk.i64_in _ (by omega)]; omega
              have hw4 : IntKind.i64.wrap ((n : Int) + (m0 : Int)) = ((n + m0 : Nat) : Int) := by rw [IntWalk.i64_in _ (by omega)]; omega
              clear HMT HML
              go_wp2
              go_roundw
              case rel => exact ⟨k + key.length + 2, n + m0, by omega, by omega, by first | rfl | go_num, by first | rfl | go_num, HBW4.out, HLF.out⟩
              case measure => simp [intOf]; omega
        · have hy : (((s[k]'hlt).toNat : Int) != 123) = true := by rw [u8_lit_ne _ 123 123 rfl, bne_iff_ne]; exact hc
          have HI2 := Lib.hid (HOTH.out n k hlt hc hinv.out)
          clear hinv hc HPL HOTH
          go_wp2
          go_roundw
          case rel => exact ⟨k + 1, n + 1, by omega, by omega, by go_num, by go_num, HB.out, HI2.out⟩
          case measure => simp [intOf]; omega
      · obtain rfl : k = s.length := by omega
        have hfin := hinv.out
        rw [List.drop_length] at hfin
        have hf2 := hfin.nil
        subst hf2
        clear hinv hfin
        go_wp2
        go_ret
        exact ⟨by first | exact ret_bool (by rw [decide_eq_decide]; omega) | rfl, hb⟩
end

section
open Go Go.RowKit
set_option maxRecDepth 20000
set_option linter.unusedSimpArgs false
set_option linter.unusedVariables false

def RefChPost (W : List (List UInt8)) (C : List GCh) (w : World) (e : Ending) (w' : World) : Prop :=
  ∃ r : RCh, e = .returned (.tuple #[.agg (chV r), .int .i64 (chLine W C).1, .int .i64 ((chLine W C).2.1 : Int)]) ∧ Below w.heap.size w w' ∧ ((chLine W C).1 = 0 → ChOk w' w.heap.size r (chLine W C).2.2 ∧ ValsOk w' w.heap.size [r])
theorem chV_lit (x : List UInt8) (a : Option Addr) (n c : Nat) : chV ⟨x, a, n, c⟩ = #[.string ⟨x.toArray⟩, .slice a n c] := rfl
set_option maxRecDepth 100000 in
set_option maxHeartbeats 8000000 in
theorem refChoice_any (W : List (List UInt8)) (C : List GCh) (R : List RCh) (hn : R.map (·.name) = C.map (·.name)) (hCl : C.length ≤ 6) (a aw : Option Addr) (cap cw : Nat) (hWl : W.length ≤ 1000000) (hk : 2 < W.length) (hx : ∀ x ∈ W, x.length ≤ 1000000) (w : World) (hin : ListIn chCod w a R 0) (hw : ListIn strCod w aw W 0) :
    Calls Tryz.prog 20 #[.slice aw W.length cw, .slice a R.length cap] w (RefChPost W C w) := by
  obtain ⟨POST, hpost⟩ : ∃ POST : Ending → World → Prop, RefChPost W C w = POST := ⟨_, rfl⟩
  rw [hpost]
  have HPOST := Lib.hid hpost
  have hRl : R.length ≤ 6 := by
    have h2 := congrArg List.length hn
    rw [List.length_map, List.length_map] at h2
    omega
  have hRC : R.length = C.length := by
    have h2 := congrArg List.length hn
    rwa [List.length_map, List.length_map] at h2
  have HRC := Lib.hid hRC
  clear hRC
  have hnth : nth W 1 = W[1]'(by omega) := by unfold nth; rw [List.getD_eq_getElem?_getD, List.getElem?_eq_getElem (by omega)]; rfl
  have HNM : Hid (∀ w', Calls Tryz.prog 38 #[.string ⟨(W[1]'(by omega)).toArray⟩] w' fun e w'' => e = .returned (.bool (nameT (W[1]'(by omega)))) ∧ w' = w'') := fun w' => refName_any _ (by have := hx _ (List.getElem_mem (l := W) (n := 1) (by omega)); unfold maxLen; omega) w'
  have HAT : Hid (∀ w', ListIn chCod w' a R 0 → Calls Tryz.prog 39 #[.slice a R.length cap, .string ⟨(W[1]'(by omega)).toArray⟩] w' fun e w'' => e = .returned (.int .i64 (if hasC C (W[1]'(by omega)) = true then (atC C (W[1]'(by omega)) : Int) else -1)) ∧ Below w'.heap.size w' w'') := fun w' h => by
    rw [← rchAt_eq hn]
    exact refAt_any R (by omega) _ a cap w' h
  have HUN : Hid (∀ j (hj : j < W.length) w', Calls Tryz.prog 40 #[.string ⟨(W[j]'hj).toArray⟩] w' (UnwordPost (W[j]'hj) w')) := fun j hj w' => refUnword_any _ (by have := hx _ (List.getElem_mem hj); omega) w'
  have HUL : Hid (∀ j (hj : j < W.length), (unwL (W[j]'hj)).1.length ≤ 1000000) := fun j hj => Nat.le_trans (unwL_len _) (hx _ (List.getElem_mem hj))
  obtain ⟨RES, hres⟩ : ∃ RES, chVals (W.drop 2) 2 [] = RES := ⟨_, rfl⟩
  have HRES := Lib.hid hres
  have hcl : chLine W C = if nameT (W[1]'(by omega)) = false then (221, 1, ⟨[], []⟩) else if hasC C (W[1]'(by omega)) = true then (52, 1, ⟨[], []⟩) else if RES.1 ≠ 0 then (RES.1, RES.2.1, ⟨[], []⟩) else if C.length = 6 then (53, 0, ⟨[], []⟩) else (0, 0, ⟨W[1]'(by omega), RES.2.2⟩) := by
    unfold chLine
    rw [hnth, hres]
  have HCL := Lib.hid hcl
  have HCA := Lib.hid (chVals_at W)
  have HIN := Lib.hid hin
  obtain ⟨g, o, rfl, _, hgw, hat⟩ := hw.resolve_left (fun h => by subst h; exact absurd hk (Nat.not_lt_zero _))
  have HWA := Lib.hid hat
  have c1 := strAt hat 1 (by omega)
  have ig : isOld g w = true := isOld_iff.2 hgw
  have hk1 : (1 : Int) < (W.length : Int) := by omega
  have hk2 : (2 : Int) < (W.length : Int) := by omega
  have HERR : Hid (∀ (code : Int) (k : Nat) r w', chLine W C = (code, k, ⟨[], []⟩) → code ≠ 0 → Below w.heap.size w w' → POST (.returned (.tuple #[.agg (chV r), .int .i64 code, .int .i64 (k : Int)])) w') := fun code k r w' h1 h2 h3 => by
    rw [← HPOST.out]
    exact ⟨r, by rw [h1], h3, fun h => absurd h (by rw [h1]; exact h2)⟩
  have HGOOD : Hid (∀ r gc w', chLine W C = (0, 0, gc) → Below w.heap.size w w' → ChOk w' w.heap.size r gc → ValsOk w' w.heap.size [r] → POST (.returned (.tuple #[.agg (chV r), .int .i64 0, .int .i64 0])) w') := fun r gc w' h1 h3 h4 h5 => by
    rw [← HPOST.out]
    exact ⟨r, by rw [h1]; rfl, h3, fun _ => by rw [h1]; exact ⟨h4, h5⟩⟩
  clear hpost hcl hres hnth hn hw hin hat
  generalize hx1 : W[1]'(by omega) = x at *
  cases hn : nameT x
  · have HE : Hid (chLine W C = (221, 1, ⟨[], []⟩)) := by show _ = _; rw [HCL.out, if_pos hn]
    rw [hn] at HNM
    clear HCL hx1 hn
    go_enter Tryz.func20, Tryz.ntmps20
    go_wp2_with (go_at_call 38; (with_reducible refine (HNM.out _).mono ?_); rintro e w3 ⟨rfl, rfl⟩)
    exact ret_cell_tmp2 w.heap.size (chV ⟨x, none, 0, 0⟩) (.int .i64 221) (.int .i64 1) rfl rfl rfl rfl agg_ch (by simp [go_sem]) (by simp [go_sem]) rfl (HERR.out 221 1 _ _ HE.out (by decide) (below_setRow (by repeat (first | exact Below.refl _ _ | assumption | refine below_grown ?_ (by first | omega | (simp [go_sem]; done) | (simp [go_sem] <;> omega)) _ | refine Below.alloc ?_ (by first | omega | (simp [go_sem]; done) | (simp [go_sem] <;> omega)) _ | refine below_bytesW ?_ (by first | omega | (simp [go_sem]; done) | (simp [go_sem] <;> omega)) _ | refine Below.drew ?_ | refine below_drewN ?_ _)) (Nat.le_refl _) _))
  · rw [hn] at HNM
    cases hh : hasC C x
    · rw [hh, if_neg (by decide)] at HAT
      have HC2 : Hid (chLine W C = if RES.1 ≠ 0 then (RES.1, RES.2.1, ⟨[], []⟩) else if C.length = 6 then (53, 0, ⟨[], []⟩) else (0, 0, ⟨x, RES.2.2⟩)) := by show _ = _; rw [HCL.out, if_neg (by rw [hn]; decide), if_neg (by rw [hh]; decide)]
      clear HCL hx1 hn hh
      go_enter Tryz.func20, Tryz.ntmps20
      go_upto_region 6 with (first
        | (go_at_call 38; (with_reducible refine (HNM.out _).mono ?_); rintro e w3 ⟨rfl, rfl⟩)
        | (go_at_call 39; (with_reducible refine (HAT.out _ (HIN.out.below (by repeat (first | exact Below.refl _ _ | assumption | refine below_grown ?_ (by first | omega | (simp [go_sem]; done) | (simp [go_sem] <;> omega)) _ | refine Below.alloc ?_ (by first | omega | (simp [go_sem]; done) | (simp [go_sem] <;> omega)) _ | refine below_bytesW ?_ (by first | omega | (simp [go_sem]; done) | (simp [go_sem] <;> omega)) _ | refine Below.drew ?_ | refine below_drewN ?_ _)))).mono ?_); rintro e w1 ⟨rfl, hb1⟩; obtain ⟨p1, rfl⟩ := grown_of hb1; clear hb1))
      obtain ⟨wa, hwa⟩ : ∃ wa, grown ((w.alloc (Obj.cells #[.string ⟨#[]⟩, .slice none 0 0] 45)).alloc (Obj.cells (chV ⟨x, none, 0, 0⟩) 45)) p1 = wa := ⟨_, rfl⟩
      have HBA : Hid (Below w.heap.size w wa) := by rw [← hwa]; exact (by repeat (first | exact Below.refl _ _ | assumption | refine below_grown ?_ (by first | omega | (simp [go_sem]; done) | (simp [go_sem] <;> omega)) _ | refine Below.alloc ?_ (by first | omega | (simp [go_sem]; done) | (simp [go_sem] <;> omega)) _ | refine below_bytesW ?_ (by first | omega | (simp [go_sem]; done) | (simp [go_sem] <;> omega)) _ | refine Below.drew ?_ | refine below_drewN ?_ _))
      have HV4a : Hid (Var wa w.heap.size [.string ⟨#[]⟩, .slice none 0 0]) := by rw [← hwa]; exact ((Var.new _ _ _ rfl rfl).alloc _).grown _
      have HV7a : Hid (Var wa (w.heap.size + 1) [.string ⟨x.toArray⟩, .slice none 0 0]) := by rw [← hwa]; exact (Var.new _ _ _ rfl (by simp)).grown _
      rw [hwa]
      clear hwa
      obtain ⟨p7, hp7⟩ : ∃ p7, w.heap.size + 1 = p7 := ⟨_, rfl⟩
      have hp7w : w.heap.size < p7 := by omega
      rw [hp7] at HV7a
      simp only [hp7]
      clear hp7
      have hp7a := HV7a.out.lt
      go_wp2
      go_loopw [8] (fun i wr => ∃ (j : Nat) (V : List (List UInt8)) (vV : Value), i = .int .i64 (j : Int) ∧ 2 ≤ j ∧ j ≤ W.length ∧ V.length ≤ 6 ∧ Below w.heap.size w wr ∧ hasVar wr w.heap.size 2 = true ∧ Var wr p7 [.string ⟨x.toArray⟩, vV] ∧ Own strCod (From (p7 + 1)) wr vV V ∧ Hid (chVals (W.drop j) j V = RES)) (fun i _ => W.length - (intOf i).toNat)
      case atStart => exact ⟨2, [], _, rfl, Nat.le_refl _, by omega, Nat.zero_le _, HBA.out, HV4a.out.has rfl, HV7a.out, Own.nil _ _, HRES.out⟩
      case round =>
        obtain ⟨j, V, vV, rfl, hj2, hj, hV6, hbr, hv4, hv7, hov, hinv⟩ := hrel
        have hszr := hbr.size
        have HBR := Lib.hid hbr
        have HV7 := Lib.hid hv7
        have HOV := Lib.hid hov
        obtain ⟨aV, cV, rfl, hcV, hlV⟩ := hov.slice (B := p7 + 1) (fun _ h => from_le h)
        have HLV := Lib.hid hlV
        have hp7r := hv7.lt
        have i4 : isOld w.heap.size wr = true := isOld_iff.2 (by omega)
        clear hbr hv7 hov hlV
        by_cases hlt : j < W.length
        · have hst := HCA.out j hlt V
          rw [hinv.out] at hst
          have hcj := strAt (HWA.out.below HBR.out) j hlt
          have hji : (j : Int) < (W.length : Int) := by omega
          have HUN2 := Lib.hid (HUN.out j hlt wr)
          have HST := Lib.hid hst
          have HUL2 := Lib.hid (HUL.out j hlt)
          clear hst hinv
          generalize W[j]'hlt = y at *
          go_upto_region 10 with (go_at_call 40; (with_reducible refine HUN2.out.mono ?_); intro e w3 hg; obtain ⟨t, ok, huw, rfl, hb3⟩ := hg; have HUW := Lib.hid (unwL_of huw); have HB3 := Lib.hid hb3; clear huw hb3)
          have hs3 := HB3.out.size
          have HBW3 : Hid (Below w.heap.size w w3) := HBR.out.trans (HB3.out.mono (by omega))
          have hv43 : hasVar w3 w.heap.size 2 = true := (hasVar_congr (HB3.out.block _ (by omega))).trans hv4
          have HV73 := Lib.hid (HV7.out.below HB3.out)
          have HOV3 := Lib.hid (HOV.out.below HB3.out)
          have HLV3 := Lib.hid (HLV.out.below HB3.out)
          have hul := HUL2.out
          rw [HUW.out] at hul
          rw [HUW.out] at HST
          dsimp only at HST hul
          have k1 : hasRow w3 ⟨p7, 0, none⟩ 2 = true := HV73.out.hasRow rfl
          have k2 : rowAt w3 ⟨p7, 0, none⟩ 2 = chV ⟨x, aV, V.length, cV⟩ := HV73.out.rowAt rfl
          have k3 : w3.cell? ⟨p7, 1, none⟩ = some (.slice aV V.length cV) := HV73.out.cell 1 (by simp)
          have k4 : isOld w.heap.size w3 = true := isOld_iff.2 (by omega)
          have k5 : isOld p7 w3 = true := isOld_iff.2 (by omega)
          clear HUN2 HV7 HOV HLV HB3 hv4 hcj i4 HUL2 HBR
          cases ok
          · have HR2 : Hid (RES = (131, j, V)) := by show _ = _; rw [HST.out, if_pos rfl]
            have HE : Hid (chLine W C = (131, j, ⟨[], []⟩)) := by show _ = _; rw [HC2.out, HR2.out, if_pos (show (131 : Int) ≠ 0 by decide)]
            clear HST HR2 HC2
            go_wp2
            exact ret_cell_tmp2 w.heap.size (chV ⟨x, aV, V.length, cV⟩) (.int .i64 131) (.int .i64 (j : Int)) rfl rfl rfl rfl agg_ch (by simp [go_sem, hv43, k4]) (by simp [go_sem, hv43, k4]) rfl (HERR.out 131 j _ _ HE.out (by decide) (below_setRow HBW3.out (Nat.le_refl _) _))
          · have HST2 : Hid (RES = if t ∈ V then (52, j, V) else if V.length = 6 then (53, j, V) else chVals (W.drop (j + 1)) (j + 1) (V ++ [t])) := by show _ = _; rw [HST.out, if_neg (by decide)]
            clear HST
            go_wp2
            go_loop [51] (fun i => ∃ q : Nat, q ≤ V.length ∧ i = .int .i64 (q : Int) ∧ Hid (t ∉ V.take q)) (fun i => V.length - (intOf i).toNat)
            case atStart => exact ⟨0, Nat.zero_le _, rfl, by show t ∉ V.take 0; simp⟩
            case round =>
              obtain ⟨q, hq, rfl, hno⟩ := hrel
              by_cases hql : q < V.length
              · obtain ⟨gv, ov, rfl, _, hgv, hav⟩ := HLV3.out.resolve_left (fun h => by subst h; exact absurd hql (Nat.not_lt_zero _))
                have hcell := strAt hav q hql
                have hqi : (q : Int) < (V.length : Int) := by omega
                have HTK : Hid (V[q]'hql ≠ t → t ∉ V.take (q + 1)) := fun h => by
                  show ¬ (t ∈ V.take (q + 1))
                  rw [List.take_succ_eq_append_getElem hql, List.mem_append, List.mem_singleton]
                  rintro (h1 | h1)
                  · exact hno.out h1
                  · exact h h1.symm
                have HMM : Hid (V[q]'hql = t → t ∈ V) := fun h => by rw [← h]; exact List.getElem_mem hql
                clear hav hno
                generalize V[q]'hql = z at *
                by_cases hz : z = t
                · have hz1 : (z == t) = true := by rw [beq_iff_eq]; exact hz
                  have hm := HMM.out hz
                  have HE : Hid (chLine W C = (52, j, ⟨[], []⟩)) := by show _ = _; rw [HC2.out, HST2.out, if_pos hm, if_pos (show (52 : Int) ≠ 0 by decide)]
                  clear HST2 HC2 HMM HTK hz hm
                  go_wp2
                  exact ret_cell_tmp2 w.heap.size (chV ⟨x, some ⟨gv, ov, none⟩, V.length, cV⟩) (.int .i64 52) (.int .i64 (j : Int)) rfl rfl rfl rfl agg_ch (by simp [go_sem, hv43, k4]) (by simp [go_sem, hv43, k4]) rfl (HERR.out 52 j _ _ HE.out (by decide) (below_setRow HBW3.out (Nat.le_refl _) _))
                · have hz1 : (z == t) = false := by rw [beq_eq_false_iff_ne]; exact hz
                  have HN2 := Lib.hid (HTK.out hz)
                  clear HMM HTK hz
                  go_wp2
                  go_round
                  case rel => exact ⟨q + 1, by omega, by go_num, HN2.out⟩
                  case measure => simp [intOf]; omega
              · obtain rfl : q = V.length := by omega
                have hnm : t ∉ V := by have h9 := hno.out; rwa [List.take_length] at h9
                have HST3 : Hid (RES = if V.length = 6 then (53, j, V) else chVals (W.drop (j + 1)) (j + 1) (V ++ [t])) := by show _ = _; rw [HST2.out, if_neg hnm]
                clear HST2 hno hnm
                by_cases h6 : V.length = 6
                · have HE : Hid (chLine W C = (53, j, ⟨[], []⟩)) := by show _ = _; rw [HC2.out, HST3.out, if_pos h6, if_pos (show (53 : Int) ≠ 0 by decide)]
                  have h6i : (6 : Int) ≤ (V.length : Int) := by omega
                  clear HST3 HC2 h6
                  go_wp2
                  exact ret_cell_tmp2 w.heap.size (chV ⟨x, aV, V.length, cV⟩) (.int .i64 53) (.int .i64 (j : Int)) rfl rfl rfl rfl agg_ch (by simp [go_sem, hv43, k4]) (by simp [go_sem, hv43, k4]) rfl (HERR.out 53 j _ _ HE.out (by decide) (below_setRow HBW3.out (Nat.le_refl _) _))
                · have HI2 : Hid (chVals (W.drop (j + 1)) (j + 1) (V ++ [t]) = RES) := by show _ = _; rw [HST3.out, if_neg h6]
                  have h6i : ¬ (6 : Int) ≤ (V.length : Int) := by omega
                  have hbcl := HV73.out.lt
                  have g2 : w3.frozen? ⟨p7, 1, none⟩ = false := HV73.out.free 1
                  have hwj : IntKind.i64.wrap ((j : Int) + 1) = ((j + 1 : Nat) : Int) := by rw [IntWalk.i64_in _ (by omega)]; omega
                  clear HST3
                  go_wp2_with (at_builtin; go_loud (refine wpList_append_list rfl strCod (.tmp 68) (.tmp 70) 26 rfl rfl (From (p7 + 1)) _ _ V rfl (HOV3.out.alloc _) _ 0 _ _ [t] rfl rfl (str_new _ _ _ (by simp [go_sem])) (by simp [strCod]; omega) (by simp; omega) (by show p7 + 1 ≤ _; simp; omega) ?_); intro v' w4 ho4 hb4; have hsz4 := hb4.size; have d1 : w4.frozen? ⟨p7, 1, none⟩ = false := ((HV73.out.alloc _).keeps hb4 (fun h => by have := from_le h; omega)).free 1; have HV74 := Lib.hid ((HV73.out.alloc _).keeps hb4 (fun h => by have := from_le h; omega)); have d2 : w4.cell? ⟨p7, 1, none⟩ = some (.slice aV V.length cV) := HV74.out.cell 1 (by simp); obtain ⟨a5, c5, rfl, hc5, hl5⟩ := ho4.slice (B := p7 + 1) (fun _ h => from_le h); have HO4 := Lib.hid ho4; have HB4 := Lib.hid hb4; clear ho4 hb4 hl5)
                  have hOO : Own strCod (From (p7 + 1)) w4 (.slice a5 (V.length + 1) c5) (V ++ [t]) := by have := HO4.out; rwa [List.length_append, List.length_singleton] at this
                  have hW4 : Below w.heap.size w w4 := (HBW3.out.alloc HBW3.out.size _).trans (HB4.out.below (B := w.heap.size) (fun q hq => ⟨by simp; omega, fun h => by have := from_le h; omega⟩))
                  have hv44 : hasVar w4 w.heap.size 2 = true := (hasVar_congr (HB4.out.block w.heap.size (by simp; omega) (fun h => by have := from_le h; omega))).trans (by simp [go_sem, hv43, k4])
                  have HFIN : Hid (Below w.heap.size w (w4.setCell ⟨p7, 1, none⟩ (.slice a5 (V.length + 1) c5)) ∧ hasVar (w4.setCell ⟨p7, 1, none⟩ (.slice a5 (V.length + 1) c5)) w.heap.size 2 = true ∧ Var (w4.setCell ⟨p7, 1, none⟩ (.slice a5 (V.length + 1) c5)) p7 [.string ⟨x.toArray⟩, .slice a5 (V.length + 1) c5] ∧ Own strCod (From (p7 + 1)) (w4.setCell ⟨p7, 1, none⟩ (.slice a5 (V.length + 1) c5)) (.slice a5 (V.length + 1) c5) (V ++ [t])) := ⟨hW4.setCell (by show w.heap.size ≤ p7; omega) _, by rw [hasVar_setCell]; exact hv44, HV74.out.setCell 1 _, hOO.blocks (fun g hg _ => setCell_other' _ _ _ _ (by have := from_le (hOO.2 g hg); show g ≠ p7; omega))⟩
                  go_roundw
                  case rel => exact ⟨j + 1, V ++ [t], _, by first | rfl | go_num, by omega, by omega, by simp; omega, HFIN.out.1, HFIN.out.2.1, HFIN.out.2.2.1, HFIN.out.2.2.2, HI2.out⟩
                  case measure => simp [intOf]; omega
        · obtain rfl : j = W.length := by omega
          have hR2 : RES = (0, 0, V) := by rw [← hinv.out, List.drop_length, chVals]
          have HC3 : Hid (chLine W C = if C.length = 6 then (53, 0, ⟨[], []⟩) else (0, 0, ⟨x, V⟩)) := by
            show _ = _
            rw [HC2.out, hR2, if_neg (show ¬ ((0 : Int) ≠ 0) by decide)]
          have k1 : hasRow wr ⟨p7, 0, none⟩ 2 = true := HV7.out.hasRow rfl
          have k2 : rowAt wr ⟨p7, 0, none⟩ 2 = chV ⟨x, aV, V.length, cV⟩ := HV7.out.rowAt rfl
          have k5 : isOld p7 wr = true := isOld_iff.2 (by omega)
          clear hinv hR2 HC2 HUN HUL HCA
          by_cases h6 : C.length = 6
          · have HE : Hid (chLine W C = (53, 0, ⟨[], []⟩)) := by show _ = _; rw [HC3.out, if_pos h6]
            have h6i : (6 : Int) ≤ (R.length : Int) := by have := HRC.out; omega
            clear HC3 h6
            go_wp2
            exact ret_cell_tmp2 w.heap.size (chV ⟨x, aV, V.length, cV⟩) (.int .i64 53) (.int .i64 0) rfl rfl rfl rfl agg_ch (by simp [go_sem, hv4, i4]) (by simp [go_sem, hv4, i4]) rfl (HERR.out 53 0 _ _ HE.out (by decide) (below_setRow HBR.out (Nat.le_refl _) _))
          · have HE : Hid (chLine W C = (0, 0, ⟨x, V⟩)) := by show _ = _; rw [HC3.out, if_neg h6]
            have h6i : ¬ (6 : Int) ≤ (R.length : Int) := by have := HRC.out; omega
            clear HC3 h6
            have HFN : Hid (POST (.returned (.tuple #[.agg (chV ⟨x, aV, V.length, cV⟩), .int .i64 0, .int .i64 0])) (wr.setRow w.heap.size (chV ⟨x, aV, V.length, cV⟩))) := by
              refine HGOOD.out _ _ _ HE.out (below_setRow HBR.out (Nat.le_refl _) _) ⟨rfl, rfl, hcV, ?_⟩ ?_
              · rcases HLV.out with h | ⟨gv, ov, e1, e2, e3, e4⟩
                · exact .inl h
                · exact .inr ⟨gv, ov, e1, by omega, by rw [setRow_size']; exact e3, fun q u hq => by rw [cell_setRow_other _ _ _ _ _ (by omega)]; exact e4 q u hq⟩
              · intro r hr
                rw [List.mem_singleton] at hr
                subst hr
                by_cases h0 : V.length = 0
                · exact .inl h0
                · rcases HOV.out.form with ⟨_, e'⟩ | ⟨gv, c', e, _⟩
                  · exact absurd (by rw [e']; rfl) h0
                  · have hob : (Value.slice aV V.length cV).ownBlock = some gv := by rw [e]; rfl
                    obtain ⟨cur, e2⟩ := own_elem HOV.out hob
                    have hq := from_le (HOV.out.2 gv hob)
                    cases e
                    exact .inr ⟨gv, 0, cur, (0, 0), rfl, by omega, by rw [Go.setRow_other wr w.heap.size gv _ (by omega)]; exact e2⟩
            go_wp2
            exact ret_cell_tmp2 w.heap.size (chV ⟨x, aV, V.length, cV⟩) (.int .i64 0) (.int .i64 0) rfl rfl rfl rfl agg_ch (by simp [go_sem, hv4, i4]) (by simp [go_sem, hv4, i4]) rfl HFN.out
    · rw [hh, if_pos rfl] at HAT
      have HE : Hid (chLine W C = (52, 1, ⟨[], []⟩)) := by show _ = _; rw [HCL.out, if_neg (by rw [hn]; decide), if_pos hh]
      clear HCL hx1 hn hh
      generalize atC C x = u at *
      have hu0 : (0 : Int) ≤ (u : Int) := by omega
      go_enter Tryz.func20, Tryz.ntmps20
      go_wp2_with (first
        | (go_at_call 38; (with_reducible refine (HNM.out _).mono ?_); rintro e w3 ⟨rfl, rfl⟩)
        | (go_at_call 39; (with_reducible refine (HAT.out _ (HIN.out.below (by repeat (first | exact Below.refl _ _ | assumption | refine below_grown ?_ (by first | omega | (simp [go_sem]; done) | (simp [go_sem] <;> omega)) _ | refine Below.alloc ?_ (by first | omega | (simp [go_sem]; done) | (simp [go_sem] <;> omega)) _ | refine below_bytesW ?_ (by first | omega | (simp [go_sem]; done) | (simp [go_sem] <;> omega)) _ | refine Below.drew ?_ | refine below_drewN ?_ _)))).mono ?_); rintro e w1 ⟨rfl, hb1⟩; obtain ⟨p1, rfl⟩ := grown_of hb1; clear hb1))
      exact ret_cell_tmp2 w.heap.size (chV ⟨x, none, 0, 0⟩) (.int .i64 52) (.int .i64 1) rfl rfl rfl rfl agg_ch (by simp [go_sem]) (by simp [go_sem]) rfl (HERR.out 52 1 _ _ HE.out (by decide) (below_setRow (by repeat (first | exact Below.refl _ _ | assumption | refine below_grown ?_ (by first | omega | (simp [go_sem]; done) | (simp [go_sem] <;> omega)) _ | refine Below.alloc ?_ (by first | omega | (simp [go_sem]; done) | (simp [go_sem] <;> omega)) _ | refine below_bytesW ?_ (by first | omega | (simp [go_sem]; done) | (simp [go_sem] <;> omega)) _ | refine Below.drew ?_ | refine below_drewN ?_ _)) (Nat.le_refl _) _))
end
end Go.Proofs.YtnkckejbkbbdlaaGreatDoor
