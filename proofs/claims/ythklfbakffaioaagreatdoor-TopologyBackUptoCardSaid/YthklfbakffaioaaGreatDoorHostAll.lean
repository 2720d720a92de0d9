/- Merged: HostUnder, HostTail, HostAlive, HostRef, MatchDom. -/
import Derived.Test.YthklfbakffaioaaGreatDoorHostParse
import Derived.Test.YthklfbakffaioaaGreatDoorAddrText6
import Derived.Test.YthklfbakffaioaaGreatDoorHostQ
import Derived.Test.YthklfbakffaioaaGreatDoorAddrRefAll
namespace Go.Proofs.YthklfbakffaioaaGreatDoor
section
open Go Go.RowKit
set_option maxRecDepth 20000
set_option linter.unusedSimpArgs false
set_option linter.unusedVariables false

theorem text4_le (a : GAddr) : (text4L a.b).length ≤ 1000 := by
  have := joinL_le 46 ((a.b.drop 12).map fun c => decT c.toNat) 3 (fun p hp => by
    simp only [List.mem_map] at hp
    obtain ⟨y, _, rfl⟩ := hp
    exact (decT_ok y).2.2.2)
  rw [List.length_map, List.length_drop, a.len] at this
  show (joinL 46 _).length ≤ _
  omega
theorem text6_le (a : GAddr) : (text6L a.b).length ≤ 39 := (text6_len _ (grpG a).len).2
theorem textH_len (h : GHost) : (textH h).length ≤ h.name.length + 1000 := by
  have h4 := text4_le h.addr
  have h6 := text6_le h.addr
  unfold textH
  split
  · omega
  · split
    · omega
    · split
      · simp; omega
      · simp
set_option maxHeartbeats 1000000 in
theorem text_any (h : GHost) (w : World) (htz : HasTz w) (hd : HasDec w) :
    Calls Tryz.prog 46 #[.agg (hostC h)] w fun e w' => e = .returned (.string ⟨(textH h).toArray⟩) ∧ Below w.heap.size w w' := by
  have H4 : Hid (∀ w, HasDec w → Calls Tryz.prog 78 #[.agg (addrC h.addr)] w fun e w' => e = .returned (.string ⟨(text4L h.addr.b).toArray⟩) ∧ Below w.heap.size w w') := fun w hd => text4_any h.addr w hd
  have H6 : Hid (∀ w, HasTz w → Calls Tryz.prog 79 #[.agg (addrC h.addr)] w fun e w' => e = .returned (.string ⟨(text6L h.addr.b).toArray⟩) ∧ Below w.heap.size w w') := fun w htz => text6_any h.addr w htz
  have h6 := text6_le h.addr
  by_cases k1 : h.kind = 1
  · have e : textH h = h.name := if_pos k1
    rw [e]
    have k1' : (h.kind == 1) = true := by simp [k1]
    go_enter Tryz.func46, Tryz.ntmps46
    go_wp2
    go_ret
    exact ⟨rfl, (by repeat (first | exact Below.refl _ _ | assumption | refine below_grown ?_ (by first | omega | (simp [go_sem]; done) | (simp [go_sem] <;> omega)) _ | refine Below.alloc ?_ (by first | omega | (simp [go_sem]; done) | (simp [go_sem] <;> omega)) _ | refine below_bytesW ?_ (by first | omega | (simp [go_sem]; done) | (simp [go_sem] <;> omega)) _ | refine Below.drew ?_ | refine below_drewN ?_ _))⟩
  · have k1' : (h.kind == 1) = false := by simp [k1]
    by_cases k2 : h.kind = 2
    · have e : textH h = text4L h.addr.b := by unfold textH; rw [if_neg k1, if_pos k2]
      rw [e]
      have k2' : (h.kind == 2) = true := by simp [k2]
      clear k1
      generalize text4L h.addr.b = T at *
      go_enter Tryz.func46, Tryz.ntmps46
      go_wp2_with (go_at_call 78; refine (H4.out _ (by repeat (first | exact hd | apply HasDec.grown | apply HasDec.alloc | apply HasDec.drew))).mono ?_; rintro e w1 ⟨rfl, hb1⟩; obtain ⟨p1, rfl⟩ := grown_of hb1; clear hb1)
      go_ret
      exact ⟨rfl, (by repeat (first | exact Below.refl _ _ | assumption | refine below_grown ?_ (by first | omega | (simp [go_sem]; done) | (simp [go_sem] <;> omega)) _ | refine Below.alloc ?_ (by first | omega | (simp [go_sem]; done) | (simp [go_sem] <;> omega)) _ | refine below_bytesW ?_ (by first | omega | (simp [go_sem]; done) | (simp [go_sem] <;> omega)) _ | refine Below.drew ?_ | refine below_drewN ?_ _))⟩
    · have k2' : (h.kind == 2) = false := by simp [k2]
      by_cases k3 : h.kind = 3
      · have e : textH h = [91] ++ text6L h.addr.b ++ [93] := by unfold textH; rw [if_neg k1, if_neg k2, if_pos k3]
        rw [e]
        have k3' : (h.kind == 3) = true := by simp [k3]
        clear k1 k2
        generalize text6L h.addr.b = T at *
        have hn1 : ¬ 9223372036854775807 < 1 + T.length := by omega
        have hn2 : ¬ 9223372036854775807 < T.length + 1 := by omega
        have hn3 : ¬ 9223372036854775807 < T.length + 1 + 1 := by omega
        have hn4 : ¬ 9223372036854775807 < 1 + T.length + 1 := by omega
        go_enter Tryz.func46, Tryz.ntmps46
        go_wp2_with (go_at_call 79; refine (H6.out _ (by repeat (first | exact htz | apply HasTz.grown | apply HasTz.alloc | apply HasTz.drew))).mono ?_; rintro e w1 ⟨rfl, hb1⟩; obtain ⟨p1, rfl⟩ := grown_of hb1; clear hb1)
        go_ret
        exact ⟨by first | rfl | exact ret_str (by simp), (by repeat (first | exact Below.refl _ _ | assumption | refine below_grown ?_ (by first | omega | (simp [go_sem]; done) | (simp [go_sem] <;> omega)) _ | refine Below.alloc ?_ (by first | omega | (simp [go_sem]; done) | (simp [go_sem] <;> omega)) _ | refine below_bytesW ?_ (by first | omega | (simp [go_sem]; done) | (simp [go_sem] <;> omega)) _ | refine Below.drew ?_ | refine below_drewN ?_ _))⟩
      · have e : textH h = [] := by unfold textH; rw [if_neg k1, if_neg k2, if_neg k3]
        rw [e]
        have k3' : (h.kind == 3) = false := by simp [k3]
        clear k1 k2 k3
        go_enter Tryz.func46, Tryz.ntmps46
        go_wp2
        go_ret
        exact ⟨rfl, (by repeat (first | exact Below.refl _ _ | assumption | refine below_grown ?_ (by first | omega | (simp [go_sem]; done) | (simp [go_sem] <;> omega)) _ | refine Below.alloc ?_ (by first | omega | (simp [go_sem]; done) | (simp [go_sem] <;> omega)) _ | refine below_bytesW ?_ (by first | omega | (simp [go_sem]; done) | (simp [go_sem] <;> omega)) _ | refine Below.drew ?_ | refine below_drewN ?_ _))⟩
theorem parseE_cases (s : List UInt8) : (parseOk s = true ∧ parseE s = 0) ∨ (parseOk s = false ∧ parseE s = 31) := by
  unfold parseE
  cases parseOk s
  · exact .inr ⟨rfl, rfl⟩
  · exact .inl ⟨rfl, rfl⟩
set_option maxHeartbeats 1000000 in
theorem right_any (h : GHost) (hn : h.name.length ≤ 4294960000) (m : Int) (w : World) (hm : HasMax m w) (htz : HasTz w) (hd : HasDec w) :
    Calls Tryz.prog 29 #[.agg (hostC h)] w fun e w' => e = .returned (.bool (rightB h)) ∧ Below w.heap.size w w' := by
  have HT : Hid (∀ w, HasTz w → HasDec w → Calls Tryz.prog 46 #[.agg (hostC h)] w fun e w' => e = .returned (.string ⟨(textH h).toArray⟩) ∧ Below w.heap.size w w') := fun w h1 h2 => text_any h w h1 h2
  have HP : Hid (∀ w, HasMax m w → Calls Tryz.prog 56 #[.string ⟨(textH h).toArray⟩] w fun e w' => e = .returned (.tuple #[.agg (hostC (parseH (textH h))), .int .i64 (parseE (textH h))]) ∧ Below w.heap.size w w') := fun w hm => parse_any _ (by have := textH_len h; omega) m w hm
  unfold rightB
  rcases parseE_cases (textH h) with ⟨h1, h2⟩ | ⟨h1, h2⟩
  all_goals
    rw [h1]
    rw [h2] at HP
    clear h1 h2
    generalize parseH (textH h) = g at *
    generalize textH h = T at *
    go_enter Tryz.func29, Tryz.ntmps29
    go_wp2_with (first
      | (go_at_call 46; refine (HT.out _ (by repeat (first | exact htz | apply HasTz.grown | apply HasTz.alloc | apply HasTz.drew)) (by repeat (first | exact hd | apply HasDec.grown | apply HasDec.alloc | apply HasDec.drew))).mono ?_; rintro e w1 ⟨rfl, hb1⟩; obtain ⟨p1, rfl⟩ := grown_of hb1; clear hb1)
      | (go_at_call 56; refine (HP.out _ (by repeat (first | exact hm | apply HasMax.grown | apply HasMax.alloc | apply HasMax.drew))).mono ?_; rintro e w1 ⟨rfl, hb1⟩; obtain ⟨p1, rfl⟩ := grown_of hb1; clear hb1))
    go_ret
    exact ⟨by first | rfl | exact ret_bool (by simp), (by repeat (first | exact Below.refl _ _ | assumption | refine below_grown ?_ (by first | omega | (simp [go_sem]; done) | (simp [go_sem] <;> omega)) _ | refine Below.alloc ?_ (by first | omega | (simp [go_sem]; done) | (simp [go_sem] <;> omega)) _ | refine below_bytesW ?_ (by first | omega | (simp [go_sem]; done) | (simp [go_sem] <;> omega)) _ | refine Below.drew ?_ | refine below_drewN ?_ _))⟩
theorem Gives.nil {α : Type} {c : Cod α} {w w' : World} (hb : Below w.heap.size w w') : Gives c [] w (.returned (.slice none 0 0)) w' := ⟨none, 0, rfl, Nat.le_refl _, hb, .inl rfl⟩
theorem labels_yes {h : GHost} (h1 : h.kind = 1) (h2 : rightB h = true) : labelsL h = splitL 46 h.name := if_pos (by unfold nameOk; rw [h2, h1]; rfl)
theorem labels_no1 {h : GHost} (h1 : h.kind ≠ 1) : labelsL h = [] := if_neg (by unfold nameOk; simp [h1])
theorem labels_no2 {h : GHost} (h2 : rightB h = false) : labelsL h = [] := if_neg (by unfold nameOk; simp [h2])
end

section
open Go Go.RowKit
set_option maxRecDepth 20000
set_option linter.unusedSimpArgs false
set_option linter.unusedVariables false

theorem tailOk_cases (h : GHost) (n : Int) : (n < 1 ∧ tailOk h n = false) ∨ (1 ≤ n ∧ ((labelsL h).length : Int) < n ∧ tailOk h n = false) ∨ (1 ≤ n ∧ n ≤ (labelsL h).length ∧ tailOk h n = true) := by
  unfold tailOk
  by_cases h1 : 1 ≤ n
  · by_cases h2 : n ≤ (labelsL h).length
    · exact .inr (.inr ⟨h1, h2, by simp [h1, h2]⟩)
    · exact .inr (.inl ⟨h1, by omega, by simp [h2]⟩)
  · exact .inl ⟨by omega, by simp [h1]⟩
theorem labels_len {h : GHost} (hn : h.name.length ≤ 4294960000) : (labelsL h).length ≤ 254 := by
  by_cases hl : labelsL h = []
  · rw [hl]; simp
  · have hk := labels_ne hl
    rw [labels_ok hk]
    have := splitL_length_le 46 h.name
    have := (nameOk_facts hk).2.1
    omega
theorem gives_len {α : Type} {c : Cod α} {xs : List α} {w w' : World} {e : Ending} (h : Gives c xs w e w') : ∃ (a : Option Addr) (cap : Nat), e = .returned (.slice a xs.length cap) ∧ Below w.heap.size w w' := by
  obtain ⟨a, cap, he, _, hb, _⟩ := h
  exact ⟨a, cap, he, hb⟩
end

section
open Go Go.RowKit
set_option maxRecDepth 20000
set_option linter.unusedSimpArgs false
set_option linter.unusedVariables false

def exA : List UInt8 := [65, 46, 69, 120, 97, 109, 112, 108, 101, 46, 99, 111, 109]
def exL : List UInt8 := [97, 46, 101, 120, 97, 109, 112, 108, 101, 46, 99, 111, 109]
def exD : List UInt8 := [101, 120, 97, 109, 112, 108, 101, 46, 99, 111, 109]
def exN : List UInt8 := [49, 46, 50, 46, 51]
theorem ex_six : six exA = false ∧ six exD = false ∧ six exN = false ∧ lastD exA = false ∧ lastD exD = false ∧ lastD exN = true ∧ v4Ok exN = false ∧ lowerL exA = exL ∧ nameB exA = true ∧ nameB exD = true ∧ lowerL exD = exD := by decide +kernel
theorem ex_labs : (splitL 46 exL).all labOk = true ∧ (splitL 46 exD).all labOk = true ∧ digitsB ((splitL 46 exL).getLastD []) = false ∧ digitsB ((splitL 46 exD).getLastD []) = false ∧ (splitL 46 exL).length = 3 ∧ (splitL 46 exD).length = 2 ∧ joinL 46 ((splitL 46 exL).drop 1) = exD := by decide +kernel
theorem exH : parseH exA = nameH exL ∧ parseE exA = 0 ∧ parseH exD = nameH exD ∧ parseE exD = 0 ∧ parseE exN = 31 ∧ parseH exN = zeroH ∧ underB (nameH exL) (nameH exD) = true := by
  obtain ⟨a1, a2, a3, a4, a5, a6, a7, a8, a9, a10, a11⟩ := ex_six
  obtain ⟨b1, b2, b3, b4, b5, b6, b7⟩ := ex_labs
  obtain ⟨c1, c2⟩ := parse_name a1 a4 a9
  obtain ⟨d1, d2⟩ := parse_name a2 a5 a10
  obtain ⟨e1, e2⟩ := parse_four a3 a6
  rw [a8] at c1
  rw [a11] at d1
  rw [a7] at e1 e2
  refine ⟨c1, c2, d1, d2, e2, e1, ?_⟩
  obtain ⟨_, hL⟩ := name_right (n := exL) (by decide) b1 b3
  obtain ⟨_, hD⟩ := name_right (n := exD) (by decide) b2 b4
  unfold underB tailH tailOk tailN
  rw [hL, hD, b5, b6]
  rw [if_neg (by omega), if_pos (by decide)]
  show hostEq (nameH (joinL 46 ((splitL 46 exL).drop 1))) _ = true
  rw [b7]
  exact (hostEq_iff _ _).2 rfl
end

section
open Go Go.RowKit
set_option maxRecDepth 20000
set_option linter.unusedSimpArgs false
set_option linter.unusedVariables false

theorem all_take_lab (l : List UInt8) (k : Nat) (h : k < l.length) : (l.take (k + 1)).all labC = ((l.take k).all labC && labC (l[k]'h)) := by
  rw [List.take_succ_eq_append_getElem h, List.all_append]; simp
theorem lab_bad {x : List UInt8} (k : Nat) (h : k < x.length) (hc : labC (x[k]'h) = false) : labOk x = false := by
  have : x.all labC = false := List.all_eq_false.2 ⟨_, List.getElem_mem h, by rw [hc]; decide⟩
  rw [labOk, this]; simp
theorem lab_good {x : List UInt8} (h : x.all labC = true) : labOk x = (decide ((1 : Int) ≤ x.length) && decide ((x.length : Int) ≤ 63)) := by
  rw [labOk, h]
  cases x with
  | nil => rfl
  | cons c t =>
    have : decide ((1 : Int) ≤ ((c :: t).length : Int)) = true := decide_eq_true (by simp; omega)
    rw [this]
    by_cases hl : (c :: t).length ≤ 63
    · rw [decide_eq_true hl, decide_eq_true (by omega : (((c :: t).length : Nat) : Int) ≤ 63)]; rfl
    · rw [decide_eq_false hl, decide_eq_false (by omega : ¬ (((c :: t).length : Nat) : Int) ≤ 63)]; rfl
set_option maxHeartbeats 1000000 in
theorem refLabel_any (x : List UInt8) (hx : x.length ≤ maxLen) (w : World) :
    Calls Tryz.prog 118 #[.string ⟨x.toArray⟩] w fun e w' => e = .returned (.bool (labOk x)) ∧ w = w' := by
  unfold maxLen at hx
  have HBAD : Hid (∀ k (h : k < x.length), labC (x[k]'h) = false → labOk x = false) := fun k h hc => lab_bad k h hc
  have HALL : Hid ((x.take x.length).all labC = true → labOk x = (decide ((1 : Int) ≤ x.length) && decide ((x.length : Int) ≤ 63))) := fun h => lab_good (by rwa [List.take_length] at h)
  generalize labOk x = ok at *
  go_enter Tryz.func118, Tryz.ntmps118
  go_wp2
  go_loop [3, 4] (fun i _ => ∃ k : Nat, k ≤ x.length ∧ i = .int .i64 k ∧ Hid ((x.take k).all labC = true)) (fun i _ => x.length - (intOf i).toNat)
  case atStart => exact ⟨0, Nat.zero_le _, rfl, rfl⟩
  case round =>
    obtain ⟨k, hk, rfl, hinv⟩ := hrel
    by_cases hlt : k < x.length
    · have HS := Lib.hid (all_take_lab x k hlt)
      have HB := Lib.hid (HBAD.out k hlt)
      obtain ⟨c, hcc⟩ : ∃ c, ∀ h, x[k]'h = c := ⟨x[k]'hlt, fun _ => rfl⟩
      rw [hcc] at HS HB
      rcases labC_cases c with ⟨h1, h2, hd⟩ | ⟨h1, h2, hd⟩ | ⟨h1, h2, hd⟩ | ⟨h1, h2, h3, hd⟩ | ⟨h1, h2, h3, hd⟩ | ⟨h1, h2, hd⟩ | ⟨h1, hd⟩
      · obtain rfl := HB.out hd
        have n1 : ((c.toNat : Int) != 45) = true := by rw [bne, h2]; rfl
        have n2 : ((c.toNat : Int) != 95) = true := by rw [bne_iff_ne]; omega
        have t1 : (c.toNat : Int) < 97 := by omega
        go_wp2
        go_ret
        exact ⟨rfl, rfl⟩
      · have n1 : ((c.toNat : Int) != 45) = false := by rw [bne, h2]; rfl
        have t1 : (c.toNat : Int) < 97 := by omega
        go_wp2
        go_round
        case rel => exact ⟨k + 1, by omega, by go_num, show _ = true by rw [HS.out, hinv.out, hd]; rfl⟩
        case measure => simp [intOf]; omega
      · have t1 : (c.toNat : Int) < 97 := by omega
        have t2 : ¬ (c.toNat : Int) < 48 := by omega
        have t3 : ¬ (57 : Int) < (c.toNat : Int) := by omega
        go_wp2
        go_round
        case rel => exact ⟨k + 1, by omega, by go_num, show _ = true by rw [HS.out, hinv.out, hd]; rfl⟩
        case measure => simp [intOf]; omega
      · obtain rfl := HB.out hd
        have n1 : ((c.toNat : Int) != 45) = true := by rw [bne_iff_ne]; omega
        have n2 : ((c.toNat : Int) != 95) = true := by rw [bne, h3]; rfl
        have t2 : ¬ (c.toNat : Int) < 48 := by omega
        go_wp2
        go_ret
        exact ⟨rfl, rfl⟩
      · have n1 : ((c.toNat : Int) != 45) = true := by rw [bne_iff_ne]; omega
        have n2 : ((c.toNat : Int) != 95) = false := by rw [bne, h3]; rfl
        have t2 : ¬ (c.toNat : Int) < 48 := by omega
        go_wp2
        go_round
        case rel => exact ⟨k + 1, by omega, by go_num, show _ = true by rw [HS.out, hinv.out, hd]; rfl⟩
        case measure => simp [intOf]; omega
      · have t1 : ¬ (c.toNat : Int) < 97 := by omega
        have t2 : ¬ (122 : Int) < (c.toNat : Int) := by omega
        go_wp2
        go_round
        case rel => exact ⟨k + 1, by omega, by go_num, show _ = true by rw [HS.out, hinv.out, hd]; rfl⟩
        case measure => simp [intOf]; omega
      · obtain rfl := HB.out hd
        have n1 : ((c.toNat : Int) != 45) = true := by rw [bne_iff_ne]; omega
        have n2 : ((c.toNat : Int) != 95) = true := by rw [bne_iff_ne]; omega
        have t1 : ¬ (c.toNat : Int) < 97 := by omega
        have t2 : ¬ (c.toNat : Int) < 48 := by omega
        have t3 : (57 : Int) < (c.toNat : Int) := by omega
        go_wp2
        go_ret
        exact ⟨rfl, rfl⟩
    · obtain rfl : k = x.length := by omega
      obtain rfl := HALL.out hinv.out
      clear HALL hinv
      by_cases h1 : (1 : Int) ≤ x.length
      all_goals
        go_wp2
        go_ret
        exact ⟨by first | rfl | exact ret_bool (by simp; try omega), rfl⟩

/-! ### Parse -/
theorem six_nil : six [] = false := rfl
theorem six_cons (c : UInt8) (t : List UInt8) : six (c :: t) = (c == 91) := by
  show ((91 : UInt8) == c && List.isPrefixOf [] t) = _
  rw [Bool.beq_comm]
  show ((c == 91) && true) = _
  rw [Bool.and_true]
theorem six_at {l : List UInt8} (h : 0 < l.length) : six l = (l[0]'h == 91) := by
  cases l with
  | nil => cases h
  | cons c t => exact six_cons c t
theorem in1_six {l : List UInt8} (h : six l = true) : in1 l = l.drop 1 := by
  unfold in1 Lib.trimPrefix
  unfold six at h
  rw [if_pos h]; rfl
theorem suffix_one (x : List UInt8) (c : UInt8) : Lib.hasSuffix x [c] = (x.getLast? == some c) := by
  unfold Lib.hasSuffix
  rw [Bool.eq_iff_iff, List.isSuffixOf_iff_suffix, beq_iff_eq]
  constructor
  · rintro ⟨t, rfl⟩
    simp
  · intro h
    obtain ⟨t, rfl⟩ := List.getLast?_eq_some_iff.1 h
    exact ⟨t, rfl⟩
theorem closed_at {l : List UInt8} (h : six l = true) (h0 : l.length - 1 < l.length) : closedB l = (l[l.length - 1]'h0 == 93) := by
  unfold closedB
  rw [in1_six h, suffix_one]
  cases l with
  | nil => cases h
  | cons c t =>
    rw [six_cons] at h
    obtain rfl : c = 91 := by simpa using h
    cases t with
    | nil => rfl
    | cons d t =>
      have e : ((91 : UInt8) :: d :: t).drop 1 = d :: t := rfl
      rw [e, List.getLast?_eq_getElem?, List.getElem?_eq_getElem (by simp)]
      simp
theorem in6_at {l : List UInt8} (h : six l = true) (hc : closedB l = true) : in6 l = l.tail.take (l.length - 1 - 1) := by
  unfold in6 Lib.trimSuffix
  unfold closedB at hc
  rw [if_pos hc, in1_six h, List.drop_one, List.length_tail]
  rfl
theorem closed_len {l : List UInt8} (h : six l = true) (hc : closedB l = true) : 2 ≤ l.length := by
  cases l with
  | nil => cases h
  | cons c t =>
    cases t with
    | nil =>
      rw [six_cons] at h
      obtain rfl : c = 91 := by simpa using h
      exact absurd hc (by decide)
    | cons d t => simp
theorem nameB_bad {l : List UInt8} (p : List UInt8) (hp : p ∈ labsL l) (h : labOk p = false) : nameB l = false := by
  unfold nameB
  rw [Bool.and_eq_false_iff]
  exact .inr (List.all_eq_false.2 ⟨p, hp, by rw [h]; decide⟩)
theorem nameB_long {l : List UInt8} (h : 253 < l.length) : nameB l = false := by
  unfold nameB
  rw [decide_eq_false (by omega)]; rfl
theorem nameB_good {l : List UInt8} (h : l.length ≤ 253) (ha : (labsL l).all labOk = true) : nameB l = true := by
  unfold nameB
  rw [decide_eq_true h, ha]; rfl
theorem all_take_labs (L : List (List UInt8)) (k : Nat) (h : k < L.length) : (L.take (k + 1)).all labOk = ((L.take k).all labOk && labOk (L[k]'h)) := by
  rw [List.take_succ_eq_append_getElem h, List.all_append]; simp
theorem addrOk_no (k : Int) (a : GAddr) : addrOk k a false = zeroH := rfl
set_option maxRecDepth 100000 in
set_option maxHeartbeats 2000000 in
theorem refParse_any (l : List UInt8) (hl : l.length ≤ 2000000000) (w : World) :
    Calls Tryz.prog 77 #[.string ⟨l.toArray⟩] w fun e w' => e = .returned (.tuple #[.agg (hostC (parseH l)), .int .i64 (parseE l)]) ∧ Below w.heap.size w w' := by
  cases h6 : six l
  · have hfirst : l.length = 0 ∨ (0 < l.length ∧ ∀ h, (((l[0]'h).toNat : Int) == 91) = false) := by
      rcases Nat.eq_zero_or_pos l.length with h | h
      · exact .inl h
      · refine .inr ⟨h, fun h => ?_⟩
        rw [u8_lit _ 91 91 rfl, ← six_at h, h6]
    have HLW : Hid (∀ w, Calls Tryz.prog 106 #[.string ⟨l.toArray⟩] w fun e w' => e = .returned (.string ⟨(lowerL l).toArray⟩) ∧ Below w.heap.size w w') := fun w => refLower_any l (by unfold maxLen; omega) w
    have HSP : Hid (∀ w, Calls Tryz.prog 62 #[.string ⟨(lowerL l).toArray⟩, .int .u8 46] w (Gives strCod (labsL l) w)) := fun w => refSplit_any (lowerL l) 46 (by rw [lowerL_len]; omega) w
    have HDG : Hid (∀ w, Calls Tryz.prog 116 #[.string ⟨(lastL l).toArray⟩] w fun e w' => e = .returned (.bool (lastD l)) ∧ w = w') := fun w => refDigits_any (lastL l) (by
      have hlt : (labsL l).length - 1 < (labsL l).length := by have := List.length_pos_iff.2 (labs_ne l); omega
      have := labs_piece l _ (List.getElem_mem hlt)
      rw [lastL_eq l hlt] at this
      unfold maxLen; omega) w
    have HLE := Lib.hid (lastL_eq l)
    have HN := Lib.hid (labs_ne l)
    have hpos := List.length_pos_iff.2 (labs_ne l)
    have hLl := labs_len l
    have HPC := Lib.hid (labs_piece l)
    have hll := lowerL_len l
    cases h4 : lastD l
    · rw [h4] at HDG
      have HBAD : Hid (∀ p ∈ labsL l, labOk p = false → parseH l = zeroH ∧ parseE l = 31) := fun p hp h => parse_none h6 h4 (nameB_bad p hp h)
      have HLONG : Hid (253 < l.length → parseH l = zeroH ∧ parseE l = 31) := fun h => parse_none h6 h4 (nameB_long h)
      have HGOOD : Hid (l.length ≤ 253 → (labsL l).all labOk = true → hostC (parseH l) = nameV (lowerL l) ∧ parseE l = 0) := fun h ha => by
        obtain ⟨e1, e2⟩ := parse_name h6 h4 (nameB_good h ha)
        rw [e1, e2]
        exact ⟨(nameV_eq (by rw [hll]; exact h)).symm, rfl⟩
      clear h6 h4
      generalize lowerL l = lw at *
      generalize lastL l = la at *
      generalize labsL l = L at *
      generalize parseH l = H at *
      generalize parseE l = E at *
      rcases hfirst with h0 | ⟨h0, h0'⟩
      all_goals
        go_enter Tryz.func77, Tryz.ntmps77
        go_wp2_with (first
          | (go_at_call 106; refine (HLW.out _).mono ?_; rintro e w1 ⟨rfl, hb1⟩; obtain ⟨p1, rfl⟩ := grown_of hb1; clear hb1)
          | (go_at_call 62; refine (HSP.out _).mono ?_; intro e w1 hg; obtain ⟨b, o, cap, rfl, hcap, hb1, hlo, hhi, hat⟩ := hg.some HN.out; have HBC := Lib.hid (bel_up (w := w) (by repeat (first | exact Below.refl _ _ | assumption | refine below_grown ?_ (by first | omega | (simp [go_sem]; done) | (simp [go_sem] <;> omega)) _ | refine Below.alloc ?_ (by first | omega | (simp [go_sem]; done) | (simp [go_sem] <;> omega)) _ | refine below_bytesW ?_ (by first | omega | (simp [go_sem]; done) | (simp [go_sem] <;> omega)) _ | refine Below.drew ?_ | refine below_drewN ?_ _)) hb1); have hcell := strAt hat _ (by omega : L.length - 1 < L.length); rw [HLE.out] at hcell; have HVR := Lib.hid (Var.below (Var.grown (Var.new w _ _ rfl rfl : Var (w.alloc _) w.heap.size (hostL zeroH)) _) hb1); have HAT := Lib.hid hat; clear hg hb1 hat)
          | (go_at_call 116; refine (HDG.out _).mono ?_; intro e w' h; obtain ⟨rfl, h2⟩ := h; subst w'))
        go_loop [64, 11] (fun i _ => ∃ k : Nat, k ≤ L.length ∧ i = .int .i64 k ∧ Hid ((L.take k).all labOk = true)) (fun i _ => L.length - (intOf i).toNat)
        case atStart => exact ⟨0, Nat.zero_le _, rfl, rfl⟩
        case round =>
          obtain ⟨k, hk, rfl, hinv⟩ := hrel
          have hv := HVR.out.has (n := 18) rfl
          by_cases hlt : k < L.length
          · have hcl := strAt HAT.out k hlt
            have HS := Lib.hid (all_take_labs L k hlt)
            have HB := Lib.hid (HBAD.out _ (List.getElem_mem hlt))
            have HR := Lib.hid (refLabel_any (L[k]'hlt) (by have := HPC.out _ (List.getElem_mem hlt); unfold maxLen; omega))
            generalize L[k]'hlt = x at *
            cases hc : labOk x
            · obtain ⟨rfl, rfl⟩ := HB.out hc
              rw [hc] at HR
              go_wp2_with (go_at_call 118; refine (HR.out _).mono ?_; intro e w' h; obtain ⟨rfl, h2⟩ := h; subst w')
              exact ret_cell_tmp w.heap.size (hostC zeroH) (.int .i64 31) rfl rfl rfl agg_host (by simp [go_sem, hv]) (by simp [go_sem, hv]) rfl ⟨rfl, below_setRow HBC.out (Nat.le_refl _) _⟩
            · rw [hc] at HR
              go_wp2_with (go_at_call 118; refine (HR.out _).mono ?_; intro e w' h; obtain ⟨rfl, h2⟩ := h; subst w')
              go_round
              case rel => exact ⟨k + 1, by omega, by go_num, show _ = true by rw [HS.out, hinv.out, hc]; rfl⟩
              case measure => simp [intOf]; omega
          · obtain rfl : k = L.length := by omega
            have hall := hinv.out
            rw [List.take_length] at hall
            by_cases hlong : (253 : Int) < l.length
            · first
                | (exfalso; omega)
                | (obtain ⟨rfl, rfl⟩ := HLONG.out (by omega)
                   clear hall hinv
                   go_wp2
                   exact ret_cell_tmp w.heap.size (hostC zeroH) (.int .i64 31) rfl rfl rfl agg_host (by simp [go_sem, hv]) (by simp [go_sem, hv]) rfl ⟨rfl, below_setRow HBC.out (Nat.le_refl _) _⟩)
            · obtain ⟨hH, rfl⟩ := HGOOD.out (by omega) hall
              have HH := Lib.hid hH
              clear hall hinv hH
              go_wp2
              exact ret_cell_tmp w.heap.size (nameV lw) (.int .i64 0) rfl rfl rfl agg_host (by simp [go_sem, hv]) (by simp [go_sem, hv]) rfl ⟨by rw [HH.out], below_setRow HBC.out (Nat.le_refl _) _⟩
    · rw [h4] at HDG
      obtain ⟨e1, e2⟩ := parse_four h6 h4
      rw [e1, e2]
      have HV : Hid (∀ w, Calls Tryz.prog 117 #[.string ⟨l.toArray⟩] w fun e w' => e = .returned (.tuple #[.agg (addrC (v4A l)), .bool (v4Ok l)]) ∧ Below w.heap.size w w') := fun w => refV4_any l (by omega) w
      clear e1 e2 h6 h4
      generalize lowerL l = lw at *
      generalize lastL l = la at *
      generalize labsL l = L at *
      generalize v4A l = A at *
      generalize v4Ok l = ok at *
      rcases hfirst with h0 | ⟨h0, h0'⟩
      all_goals
        cases ok
        all_goals
          go_enter Tryz.func77, Tryz.ntmps77
          go_wp2_with (first
            | (go_at_call 106; refine (HLW.out _).mono ?_; rintro e w1 ⟨rfl, hb1⟩; obtain ⟨p1, rfl⟩ := grown_of hb1; clear hb1)
            | (go_at_call 62; refine (HSP.out _).mono ?_; intro e w1 hg; obtain ⟨b, o, cap, rfl, hcap, hb1, hlo, hhi, hat⟩ := hg.some HN.out; have HBC := Lib.hid (bel_up (w := w) (by repeat (first | exact Below.refl _ _ | assumption | refine below_grown ?_ (by first | omega | (simp [go_sem]; done) | (simp [go_sem] <;> omega)) _ | refine Below.alloc ?_ (by first | omega | (simp [go_sem]; done) | (simp [go_sem] <;> omega)) _ | refine below_bytesW ?_ (by first | omega | (simp [go_sem]; done) | (simp [go_sem] <;> omega)) _ | refine Below.drew ?_ | refine below_drewN ?_ _)) hb1); have hcell := strAt hat _ (by omega : L.length - 1 < L.length); rw [HLE.out] at hcell; have HVR := Lib.hid (Var.below (Var.grown (Var.new w _ _ rfl rfl : Var (w.alloc _) w.heap.size (hostL zeroH)) _) hb1); have hv := (fun p o => ((HVR.out.grown p).alloc o).has (n := 18) rfl); have HAT := Lib.hid hat; clear hg hb1 hat)
            | (go_at_call 116; refine (HDG.out _).mono ?_; intro e w' h; obtain ⟨rfl, h2⟩ := h; subst w')
            | (go_at_call 117; refine (HV.out _).mono ?_; rintro e w1 ⟨rfl, hb1⟩; obtain ⟨p1, rfl⟩ := grown_of hb1; clear hb1))
        · exact ret_cell_tmp w.heap.size (hostC zeroH) (.int .i64 31) rfl rfl rfl agg_host (by simp [go_sem, hv]) (by simp [go_sem, hv]) rfl ⟨rfl, below_setRow (by repeat (first | exact HBC.out | refine below_grown ?_ (by have hbcs := HBC.out.size; first | omega | (simp [go_sem]; omega)) _ | refine Below.alloc ?_ (by have hbcs := HBC.out.size; first | omega | (simp [go_sem]; omega)) _)) (Nat.le_refl _) _⟩
        · exact ret_cell_tmp w.heap.size (hostC (v4H A)) (.int .i64 0) rfl rfl rfl agg_host (by simp [go_sem, hv]) (by simp [go_sem, hv]) rfl ⟨rfl, below_setRow (by repeat (first | exact HBC.out | refine below_grown ?_ (by have hbcs := HBC.out.size; first | omega | (simp [go_sem]; omega)) _ | refine Below.alloc ?_ (by have hbcs := HBC.out.size; first | omega | (simp [go_sem]; omega)) _)) (Nat.le_refl _) _⟩
  · have h0 : 0 < l.length := by
      cases l with
      | nil => cases h6
      | cons c t => simp
    have h0' : ∀ h, (((l[0]'h).toNat : Int) == 91) = true := fun h => by rw [u8_lit _ 91 91 rfl, ← six_at h, h6]
    obtain ⟨e1, e2⟩ := parse_six h6
    rw [e1, e2]
    have hcl := closed_at h6 (by omega)
    have hcc : ∀ h, (((l[l.length - 1]'h).toNat : Int) != 93) = !closedB l := fun h => by rw [hcl, u8_lit_ne _ 93 93 rfl]; rfl
    cases hc : closedB l
    · rw [hc] at hcc
      rw [Bool.and_false]
      clear hcl e1 e2 hc
      go_enter Tryz.func77, Tryz.ntmps77
      go_wp2
      exact ret_cell_tmp w.heap.size (hostC zeroH) (.int .i64 31) rfl rfl rfl agg_host (by simp [go_sem]) (by simp [go_sem]) rfl ⟨rfl, (by repeat (first | exact Below.refl _ _ | assumption | refine below_grown ?_ (by first | omega | (simp [go_sem]; done) | (simp [go_sem] <;> omega)) _ | refine Below.alloc ?_ (by first | omega | (simp [go_sem]; done) | (simp [go_sem] <;> omega)) _ | refine below_bytesW ?_ (by first | omega | (simp [go_sem]; done) | (simp [go_sem] <;> omega)) _ | refine Below.drew ?_ | refine below_drewN ?_ _))⟩
    · rw [hc] at hcc
      rw [Bool.and_true]
      have h2 := closed_len h6 hc
      have HI := Lib.hid (in6_at h6 hc)
      have HV : Hid (∀ w, Calls Tryz.prog 115 #[.string ⟨(in6 l).toArray⟩] w fun e w' => e = .returned (.tuple #[.agg (addrC (v6A (in6 l))), .bool (v6Ok (in6 l))]) ∧ Below w.heap.size w w') := fun w => refV6_any (in6 l) (by have := in6_length l; omega) w
      clear hcl e1 e2 hc
      generalize v6A (in6 l) = A at *
      generalize v6Ok (in6 l) = ok at *
      rw [HI.out] at HV
      cases ok
      all_goals
        go_enter Tryz.func77, Tryz.ntmps77
        go_wp2_with (go_at_call 115; refine (HV.out _).mono ?_; rintro e w1 ⟨rfl, hb1⟩; obtain ⟨p1, rfl⟩ := grown_of hb1; clear hb1)
      · exact ret_cell_tmp w.heap.size (hostC zeroH) (.int .i64 31) rfl rfl rfl agg_host (by simp [go_sem]) (by simp [go_sem]) rfl ⟨rfl, below_setRow (by repeat (first | exact Below.refl _ _ | assumption | refine below_grown ?_ (by first | omega | (simp [go_sem]; done) | (simp [go_sem] <;> omega)) _ | refine Below.alloc ?_ (by first | omega | (simp [go_sem]; done) | (simp [go_sem] <;> omega)) _ | refine below_bytesW ?_ (by first | omega | (simp [go_sem]; done) | (simp [go_sem] <;> omega)) _ | refine Below.drew ?_ | refine below_drewN ?_ _)) (Nat.le_refl _) _⟩
      · exact ret_cell_tmp w.heap.size (hostC (v6H A)) (.int .i64 0) rfl rfl rfl agg_host (by simp [go_sem]) (by simp [go_sem]) rfl ⟨rfl, below_setRow (by repeat (first | exact Below.refl _ _ | assumption | refine below_grown ?_ (by first | omega | (simp [go_sem]; done) | (simp [go_sem] <;> omega)) _ | refine Below.alloc ?_ (by first | omega | (simp [go_sem]; done) | (simp [go_sem] <;> omega)) _ | refine below_bytesW ?_ (by first | omega | (simp [go_sem]; done) | (simp [go_sem] <;> omega)) _ | refine Below.drew ?_ | refine below_drewN ?_ _)) (Nat.le_refl _) _⟩
/-! ### Text, Right, Labels, Under -/
set_option maxHeartbeats 1000000 in
theorem refText_any (h : GHost) (w : World) :
    Calls Tryz.prog 49 #[.agg (hostC h)] w fun e w' => e = .returned (.string ⟨(textH h).toArray⟩) ∧ Below w.heap.size w w' := by
  have H4 : Hid (∀ w, Calls Tryz.prog 81 #[.agg (addrC h.addr)] w fun e w' => e = .returned (.string ⟨(text4L h.addr.b).toArray⟩) ∧ Below w.heap.size w w') := fun w => refText4_any h.addr w
  have H6 : Hid (∀ w, Calls Tryz.prog 82 #[.agg (addrC h.addr)] w fun e w' => e = .returned (.string ⟨(text6L h.addr.b).toArray⟩) ∧ Below w.heap.size w w') := fun w => refText6_any h.addr w
  have h6 := text6_le h.addr
  by_cases k1 : h.kind = 1
  · have e : textH h = h.name := if_pos k1
    rw [e]
    have k1' : (h.kind == 1) = true := by simp [k1]
    go_enter Tryz.func49, Tryz.ntmps49
    go_wp2
    go_ret
    exact ⟨rfl, (by repeat (first | exact Below.refl _ _ | assumption | refine below_grown ?_ (by first | omega | (simp [go_sem]; done) | (simp [go_sem] <;> omega)) _ | refine Below.alloc ?_ (by first | omega | (simp [go_sem]; done) | (simp [go_sem] <;> omega)) _ | refine below_bytesW ?_ (by first | omega | (simp [go_sem]; done) | (simp [go_sem] <;> omega)) _ | refine Below.drew ?_ | refine below_drewN ?_ _))⟩
  · have k1' : (h.kind == 1) = false := by simp [k1]
    by_cases k2 : h.kind = 2
    · have e : textH h = text4L h.addr.b := by unfold textH; rw [if_neg k1, if_pos k2]
      rw [e]
      have k2' : (h.kind == 2) = true := by simp [k2]
      clear k1
      generalize text4L h.addr.b = T at *
      go_enter Tryz.func49, Tryz.ntmps49
      go_wp2_with (go_at_call 81; refine (H4.out _).mono ?_; rintro e w1 ⟨rfl, hb1⟩; obtain ⟨p1, rfl⟩ := grown_of hb1; clear hb1)
      go_ret
      exact ⟨rfl, (by repeat (first | exact Below.refl _ _ | assumption | refine below_grown ?_ (by first | omega | (simp [go_sem]; done) | (simp [go_sem] <;> omega)) _ | refine Below.alloc ?_ (by first | omega | (simp [go_sem]; done) | (simp [go_sem] <;> omega)) _ | refine below_bytesW ?_ (by first | omega | (simp [go_sem]; done) | (simp [go_sem] <;> omega)) _ | refine Below.drew ?_ | refine below_drewN ?_ _))⟩
    · have k2' : (h.kind == 2) = false := by simp [k2]
      by_cases k3 : h.kind = 3
      · have e : textH h = [91] ++ text6L h.addr.b ++ [93] := by unfold textH; rw [if_neg k1, if_neg k2, if_pos k3]
        rw [e]
        have k3' : (h.kind == 3) = true := by simp [k3]
        clear k1 k2
        generalize text6L h.addr.b = T at *
        have hn1 : ¬ 9223372036854775807 < 1 + T.length := by omega
        have hn2 : ¬ 9223372036854775807 < T.length + 1 := by omega
        have hn3 : ¬ 9223372036854775807 < T.length + 1 + 1 := by omega
        have hn4 : ¬ 9223372036854775807 < 1 + T.length + 1 := by omega
        go_enter Tryz.func49, Tryz.ntmps49
        go_wp2_with (go_at_call 82; refine (H6.out _).mono ?_; rintro e w1 ⟨rfl, hb1⟩; obtain ⟨p1, rfl⟩ := grown_of hb1; clear hb1)
        go_ret
        exact ⟨by first | rfl | exact ret_str (by simp), (by repeat (first | exact Below.refl _ _ | assumption | refine below_grown ?_ (by first | omega | (simp [go_sem]; done) | (simp [go_sem] <;> omega)) _ | refine Below.alloc ?_ (by first | omega | (simp [go_sem]; done) | (simp [go_sem] <;> omega)) _ | refine below_bytesW ?_ (by first | omega | (simp [go_sem]; done) | (simp [go_sem] <;> omega)) _ | refine Below.drew ?_ | refine below_drewN ?_ _))⟩
      · have e : textH h = [] := by unfold textH; rw [if_neg k1, if_neg k2, if_neg k3]
        rw [e]
        have k3' : (h.kind == 3) = false := by simp [k3]
        clear k1 k2 k3
        go_enter Tryz.func49, Tryz.ntmps49
        go_wp2
        go_ret
        exact ⟨rfl, (by repeat (first | exact Below.refl _ _ | assumption | refine below_grown ?_ (by first | omega | (simp [go_sem]; done) | (simp [go_sem] <;> omega)) _ | refine Below.alloc ?_ (by first | omega | (simp [go_sem]; done) | (simp [go_sem] <;> omega)) _ | refine below_bytesW ?_ (by first | omega | (simp [go_sem]; done) | (simp [go_sem] <;> omega)) _ | refine Below.drew ?_ | refine below_drewN ?_ _))⟩
set_option maxHeartbeats 1000000 in
theorem refRight_any (h : GHost) (hn : h.name.length ≤ 1999990000) (w : World) :
    Calls Tryz.prog 44 #[.agg (hostC h)] w fun e w' => e = .returned (.bool (rightB h)) ∧ Below w.heap.size w w' := by
  have HT : Hid (∀ w, Calls Tryz.prog 49 #[.agg (hostC h)] w fun e w' => e = .returned (.string ⟨(textH h).toArray⟩) ∧ Below w.heap.size w w') := fun w => refText_any h w
  have HP : Hid (∀ w, Calls Tryz.prog 77 #[.string ⟨(textH h).toArray⟩] w fun e w' => e = .returned (.tuple #[.agg (hostC (parseH (textH h))), .int .i64 (parseE (textH h))]) ∧ Below w.heap.size w w') := fun w => refParse_any _ (by have := textH_len h; omega) w
  unfold rightB
  rcases parseE_cases (textH h) with ⟨h1, h2⟩ | ⟨h1, h2⟩
  all_goals
    rw [h1]
    rw [h2] at HP
    clear h1 h2
    generalize parseH (textH h) = g at *
    generalize textH h = T at *
    go_enter Tryz.func44, Tryz.ntmps44
    go_wp2_with (first
      | (go_at_call 49; refine (HT.out _).mono ?_; rintro e w1 ⟨rfl, hb1⟩; obtain ⟨p1, rfl⟩ := grown_of hb1; clear hb1)
      | (go_at_call 77; refine (HP.out _).mono ?_; rintro e w1 ⟨rfl, hb1⟩; obtain ⟨p1, rfl⟩ := grown_of hb1; clear hb1))
    go_ret
    exact ⟨by first | rfl | exact ret_bool (by simp), (by repeat (first | exact Below.refl _ _ | assumption | refine below_grown ?_ (by first | omega | (simp [go_sem]; done) | (simp [go_sem] <;> omega)) _ | refine Below.alloc ?_ (by first | omega | (simp [go_sem]; done) | (simp [go_sem] <;> omega)) _ | refine below_bytesW ?_ (by first | omega | (simp [go_sem]; done) | (simp [go_sem] <;> omega)) _ | refine Below.drew ?_ | refine below_drewN ?_ _))⟩
theorem refUnder_eq (h d : GHost) : refUnderB h d = (!(((labelsL h).length : Int) == 0) && (!(((labelsL d).length : Int) == 0) && (decide (((d.name.length : Int) + 1) < h.name.length) && (h.name.drop (h.name.length - (d.name.length + 1)) == 46 :: d.name)))) := by
  have e : ∀ L : List (List UInt8), L.isEmpty = ((L.length : Int) == 0) := fun L => by
    cases L with
    | nil => rfl
    | cons x L => rw [List.isEmpty_cons, eq_comm, beq_eq_false_iff_ne]; simp; omega
  unfold refUnderB
  rw [e, e]
  congr 3
  rw [decide_eq_decide]; omega
end

section
open Go Go.RowKit
set_option maxRecDepth 20000
set_option linter.unusedSimpArgs false
set_option linter.unusedVariables false

def domainB (h d : GHost) : Bool := (hostEq h d && rightB h) || underB h d
theorem nameOk_right {h : GHost} (hk : nameOk h = true) : rightB h = true := by
  unfold nameOk at hk
  simp only [Bool.and_eq_true] at hk
  exact hk.2
theorem under_right {h d : GHost} (hu : underB h d = true) : rightB h = true ∧ rightB d = true := by
  unfold underB at hu
  split at hu
  · cases hu
  · rename_i hc
    refine ⟨nameOk_right (labels_ne fun e => hc (.inr (by rw [e]; exact Nat.zero_le _))), nameOk_right (labels_ne fun e => hc (.inl (by rw [e]; rfl)))⟩
theorem domain_ref (h d : GHost) : domainB h d = (rightB h && (rightB d && (hostEq h d || underB h d))) := by
  unfold domainB
  cases hu : underB h d
  · rw [Bool.or_false, Bool.or_false]
    cases he : hostEq h d
    · simp
    · rw [(hostEq_iff _ _).1 he]; simp
  · obtain ⟨h1, h2⟩ := under_right hu
    rw [h1, h2]; simp
theorem domain_self (h : GHost) : domainB h h = rightB h := by
  unfold domainB
  rw [under_self, (hostEq_iff _ _).2 rfl]; simp
end
end Go.Proofs.YthklfbakffaioaaGreatDoor
