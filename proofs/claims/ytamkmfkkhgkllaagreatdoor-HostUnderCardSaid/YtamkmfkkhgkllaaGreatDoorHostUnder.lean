/- The walks of Text, Right, Labels, Tail and Under. -/
import Derived.Test.YtamkmfkkhgkllaaGreatDoorHostParse
import Derived.Test.YtamkmfkkhgkllaaGreatDoorAddrText6
namespace Go.Proofs.YtamkmfkkhgkllaaGreatDoor
open Go Go.RowKit
set_option maxRecDepth 20000
set_option linter.unusedSimpArgs false
set_option linter.unusedVariables false

theorem text4_le (a : GAddr) : (text4L a.b).length ≤ 1000 := by
  have := joinL_le 46 ((a.b.drop 12).map fun c => decT c.toNat) 3 (fun p hp => by
    simp only [List.mem_map] at hp
    obtain ⟨y, _, rfl⟩ := hp
    exact (decT_ok y).2.2.2)
  rw [List.length_map, List.length_drop, a.len] at this
  show (joinL 46 _).length ≤ _
  omega
theorem text6_le (a : GAddr) : (text6L a.b).length ≤ 39 := (text6_len _ (grpG a).len).2
theorem textH_len (h : GHost) : (textH h).length ≤ h.name.length + 1000 := by
  have h4 := text4_le h.addr
  have h6 := text6_le h.addr
  unfold textH
  split
  · omega
  · split
    · omega
    · split
      · simp; omega
      · simp
set_option maxHeartbeats 1000000 in
theorem text_any (h : GHost) (w : World) (htz : HasTz w) (hd : HasDec w) :
    Calls Tryz.prog 66 #[.agg (hostC h)] w fun e w' => e = .returned (.string ⟨(textH h).toArray⟩) ∧ Below w.heap.size w w' := by
  have H4 : Hid (∀ w, HasDec w → Calls Tryz.prog 79 #[.agg (addrC h.addr)] w fun e w' => e = .returned (.string ⟨(text4L h.addr.b).toArray⟩) ∧ Below w.heap.size w w') := fun w hd => text4_any h.addr w hd
  have H6 : Hid (∀ w, HasTz w → Calls Tryz.prog 80 #[.agg (addrC h.addr)] w fun e w' => e = .returned (.string ⟨(text6L h.addr.b).toArray⟩) ∧ Below w.heap.size w w') := fun w htz => text6_any h.addr w htz
  have h6 := text6_le h.addr
  by_cases k1 : h.kind = 1
  · have e : textH h = h.name := if_pos k1
    rw [e]
    have k1' : (h.kind == 1) = true := by simp [k1]
    go_enter Tryz.func66, Tryz.ntmps66
    go_wp2
    go_ret
    exact ⟨rfl, (by repeat (first | exact Below.refl _ _ | assumption | refine below_grown ?_ (by first | omega | (simp [go_sem]; done) | (simp [go_sem] <;> omega)) _ | refine Below.alloc ?_ (by first | omega | (simp [go_sem]; done) | (simp [go_sem] <;> omega)) _ | refine below_bytesW ?_ (by first | omega | (simp [go_sem]; done) | (simp [go_sem] <;> omega)) _ | refine Below.drew ?_ | refine below_drewN ?_ _))⟩
  · have k1' : (h.kind == 1) = false := by simp [k1]
    by_cases k2 : h.kind = 2
    · have e : textH h = text4L h.addr.b := by unfold textH; rw [if_neg k1, if_pos k2]
      rw [e]
      have k2' : (h.kind == 2) = true := by simp [k2]
      clear k1
      generalize text4L h.addr.b = T at *
      go_enter Tryz.func66, Tryz.ntmps66
      go_wp2_with (go_at_call 79; refine (H4.out _ (by repeat (first | exact hd | apply HasDec.grown | apply HasDec.alloc | apply HasDec.drew))).mono ?_; rintro e w1 ⟨rfl, hb1⟩; obtain ⟨p1, rfl⟩ := grown_of hb1; clear hb1)
      go_ret
      exact ⟨rfl, (by repeat (first | exact Below.refl _ _ | assumption | refine below_grown ?_ (by first | omega | (simp [go_sem]; done) | (simp [go_sem] <;> omega)) _ | refine Below.alloc ?_ (by first | omega | (simp [go_sem]; done) | (simp [go_sem] <;> omega)) _ | refine below_bytesW ?_ (by first | omega | (simp [go_sem]; done) | (simp [go_sem] <;> omega)) _ | refine Below.drew ?_ | refine below_drewN ?_ _))⟩
    · have k2' : (h.kind == 2) = false := by simp [k2]
      by_cases k3 : h.kind = 3
      · have e : textH h = [91] ++ text6L h.addr.b ++ [93] := by unfold textH; rw [if_neg k1, if_neg k2, if_pos k3]
        rw [e]
        have k3' : (h.kind == 3) = true := by simp [k3]
        clear k1 k2
        generalize text6L h.addr.b = T at *
        have hn1 : ¬ 9223372036854775807 < 1 + T.length := by omega
        have hn2 : ¬ 9223372036854775807 < T.length + 1 := by omega
        have hn3 : ¬ 9223372036854775807 < T.length + 1 + 1 := by omega
        have hn4 : ¬ 9223372036854775807 < 1 + T.length + 1 := by omega
        go_enter Tryz.func66, Tryz.ntmps66
        go_wp2_with (go_at_call 80; refine (H6.out _ (by repeat (first | exact htz | apply HasTz.grown | apply HasTz.alloc | apply HasTz.drew))).mono ?_; rintro e w1 ⟨rfl, hb1⟩; obtain ⟨p1, rfl⟩ := grown_of hb1; clear hb1)
        go_ret
        exact ⟨by first | rfl | exact ret_str (by simp), (by repeat (first | exact Below.refl _ _ | assumption | refine below_grown ?_ (by first | omega | (simp [go_sem]; done) | (simp [go_sem] <;> omega)) _ | refine Below.alloc ?_ (by first | omega | (simp [go_sem]; done) | (simp [go_sem] <;> omega)) _ | refine below_bytesW ?_ (by first | omega | (simp [go_sem]; done) | (simp [go_sem] <;> omega)) _ | refine Below.drew ?_ | refine below_drewN ?_ _))⟩
      · have e : textH h = [] := by unfold textH; rw [if_neg k1, if_neg k2, if_neg k3]
        rw [e]
        have k3' : (h.kind == 3) = false := by simp [k3]
        clear k1 k2 k3
        go_enter Tryz.func66, Tryz.ntmps66
        go_wp2
        go_ret
        exact ⟨rfl, (by repeat (first | exact Below.refl _ _ | assumption | refine below_grown ?_ (by first | omega | (simp [go_sem]; done) | (simp [go_sem] <;> omega)) _ | refine Below.alloc ?_ (by first | omega | (simp [go_sem]; done) | (simp [go_sem] <;> omega)) _ | refine below_bytesW ?_ (by first | omega | (simp [go_sem]; done) | (simp [go_sem] <;> omega)) _ | refine Below.drew ?_ | refine below_drewN ?_ _))⟩
theorem parseE_cases (s : List UInt8) : (parseOk s = true ∧ parseE s = 0) ∨ (parseOk s = false ∧ parseE s = 31) := by
  unfold parseE
  cases parseOk s
  · exact .inr ⟨rfl, rfl⟩
  · exact .inl ⟨rfl, rfl⟩
set_option maxHeartbeats 1000000 in
theorem right_any (h : GHost) (hn : h.name.length ≤ 4294960000) (m : Int) (w : World) (hm : HasMax m w) (htz : HasTz w) (hd : HasDec w) :
    Calls Tryz.prog 48 #[.agg (hostC h)] w fun e w' => e = .returned (.bool (rightB h)) ∧ Below w.heap.size w w' := by
  have HT : Hid (∀ w, HasTz w → HasDec w → Calls Tryz.prog 66 #[.agg (hostC h)] w fun e w' => e = .returned (.string ⟨(textH h).toArray⟩) ∧ Below w.heap.size w w') := fun w h1 h2 => text_any h w h1 h2
  have HP : Hid (∀ w, HasMax m w → Calls Tryz.prog 6 #[.string ⟨(textH h).toArray⟩] w fun e w' => e = .returned (.tuple #[.agg (hostC (parseH (textH h))), .int .i64 (parseE (textH h))]) ∧ Below w.heap.size w w') := fun w hm => parse_any _ (by have := textH_len h; omega) m w hm
  unfold rightB
  rcases parseE_cases (textH h) with ⟨h1, h2⟩ | ⟨h1, h2⟩
  all_goals
    rw [h1]
    rw [h2] at HP
    clear h1 h2
    generalize parseH (textH h) = g at *
    generalize textH h = T at *
    go_enter Tryz.func48, Tryz.ntmps48
    go_wp2_with (first
      | (go_at_call 66; refine (HT.out _ (by repeat (first | exact htz | apply HasTz.grown | apply HasTz.alloc | apply HasTz.drew)) (by repeat (first | exact hd | apply HasDec.grown | apply HasDec.alloc | apply HasDec.drew))).mono ?_; rintro e w1 ⟨rfl, hb1⟩; obtain ⟨p1, rfl⟩ := grown_of hb1; clear hb1)
      | (go_at_call 6; refine (HP.out _ (by repeat (first | exact hm | apply HasMax.grown | apply HasMax.alloc | apply HasMax.drew))).mono ?_; rintro e w1 ⟨rfl, hb1⟩; obtain ⟨p1, rfl⟩ := grown_of hb1; clear hb1))
    go_ret
    exact ⟨by first | rfl | exact ret_bool (by simp), (by repeat (first | exact Below.refl _ _ | assumption | refine below_grown ?_ (by first | omega | (simp [go_sem]; done) | (simp [go_sem] <;> omega)) _ | refine Below.alloc ?_ (by first | omega | (simp [go_sem]; done) | (simp [go_sem] <;> omega)) _ | refine below_bytesW ?_ (by first | omega | (simp [go_sem]; done) | (simp [go_sem] <;> omega)) _ | refine Below.drew ?_ | refine below_drewN ?_ _))⟩
theorem Gives.nil {α : Type} {c : Cod α} {w w' : World} (hb : Below w.heap.size w w') : Gives c [] w (.returned (.slice none 0 0)) w' := ⟨none, 0, rfl, Nat.le_refl _, hb, .inl rfl⟩
theorem labels_yes {h : GHost} (h1 : h.kind = 1) (h2 : rightB h = true) : labelsL h = splitL 46 h.name := if_pos (by unfold nameOk; rw [h2, h1]; rfl)
theorem labels_no1 {h : GHost} (h1 : h.kind ≠ 1) : labelsL h = [] := if_neg (by unfold nameOk; simp [h1])
theorem labels_no2 {h : GHost} (h2 : rightB h = false) : labelsL h = [] := if_neg (by unfold nameOk; simp [h2])
set_option maxHeartbeats 1000000 in
theorem labels_any (h : GHost) (hn : h.name.length ≤ 4294960000) (m : Int) (w : World) (hm : HasMax m w) (htz : HasTz w) (hd : HasDec w) :
    Calls Tryz.prog 28 #[.agg (hostC h)] w (Gives strCod (labelsL h) w) := by
  have HR : Hid (∀ w, HasMax m w → HasTz w → HasDec w → Calls Tryz.prog 48 #[.agg (hostC h)] w fun e w' => e = .returned (.bool (rightB h)) ∧ Below w.heap.size w w') := fun w h1 h2 h3 => right_any h hn m w h1 h2 h3
  by_cases k1 : h.kind = 1
  · have k1' : (h.kind != 1) = false := by simp [k1]
    cases h2 : rightB h
    · rw [labels_no2 h2]
      rw [h2] at HR
      clear h2 k1
      go_enter Tryz.func28, Tryz.ntmps28
      go_wp2_with (go_at_call 48; refine (HR.out _ (by repeat (first | exact hm | apply HasMax.grown | apply HasMax.alloc | apply HasMax.drew)) (by repeat (first | exact htz | apply HasTz.grown | apply HasTz.alloc | apply HasTz.drew)) (by repeat (first | exact hd | apply HasDec.grown | apply HasDec.alloc | apply HasDec.drew))).mono ?_; rintro e w1 ⟨rfl, hb1⟩; obtain ⟨p1, rfl⟩ := grown_of hb1; clear hb1)
      go_ret
      exact Gives.nil (by repeat (first | exact Below.refl _ _ | assumption | refine below_grown ?_ (by first | omega | (simp [go_sem]; done) | (simp [go_sem] <;> omega)) _ | refine Below.alloc ?_ (by first | omega | (simp [go_sem]; done) | (simp [go_sem] <;> omega)) _ | refine below_bytesW ?_ (by first | omega | (simp [go_sem]; done) | (simp [go_sem] <;> omega)) _ | refine Below.drew ?_ | refine below_drewN ?_ _))
    · rw [labels_yes k1 h2]
      rw [h2] at HR
      have HS : Hid (∀ w, HasMax m w → Calls Tryz.prog 14 #[.string ⟨h.name.toArray⟩, .int .u8 46] w (Gives strCod (splitL 46 h.name) w)) := fun w hm => split_gives h.name 46 (by omega) m w hm
      clear h2 k1
      generalize splitL 46 h.name = L at *
      go_enter Tryz.func28, Tryz.ntmps28
      go_wp2_with (first
        | (go_at_call 48; refine (HR.out _ (by repeat (first | exact hm | apply HasMax.grown | apply HasMax.alloc | apply HasMax.drew)) (by repeat (first | exact htz | apply HasTz.grown | apply HasTz.alloc | apply HasTz.drew)) (by repeat (first | exact hd | apply HasDec.grown | apply HasDec.alloc | apply HasDec.drew))).mono ?_; rintro e w1 ⟨rfl, hb1⟩; obtain ⟨p1, rfl⟩ := grown_of hb1; clear hb1)
        | (go_at_call 14; refine (HS.out _ (by repeat (first | exact hm | apply HasMax.grown | apply HasMax.alloc | apply HasMax.drew))).mono ?_; intro e w1 hg; have HG := Lib.hid (Gives.of_below (w := w) (by repeat (first | exact Below.refl _ _ | assumption | refine below_grown ?_ (by first | omega | (simp [go_sem]; done) | (simp [go_sem] <;> omega)) _ | refine Below.alloc ?_ (by first | omega | (simp [go_sem]; done) | (simp [go_sem] <;> omega)) _ | refine below_bytesW ?_ (by first | omega | (simp [go_sem]; done) | (simp [go_sem] <;> omega)) _ | refine Below.drew ?_ | refine below_drewN ?_ _)) hg); obtain ⟨a1, c1, rfl, hc1, hb1, hl1⟩ := hg; clear hc1 hb1 hl1))
      go_ret
      exact HG.out
  · rw [labels_no1 k1]
    have k1' : (h.kind != 1) = true := by simp [k1]
    clear k1
    go_enter Tryz.func28, Tryz.ntmps28
    go_wp2
    go_ret
    exact Gives.nil (by repeat (first | exact Below.refl _ _ | assumption | refine below_grown ?_ (by first | omega | (simp [go_sem]; done) | (simp [go_sem] <;> omega)) _ | refine Below.alloc ?_ (by first | omega | (simp [go_sem]; done) | (simp [go_sem] <;> omega)) _ | refine below_bytesW ?_ (by first | omega | (simp [go_sem]; done) | (simp [go_sem] <;> omega)) _ | refine Below.drew ?_ | refine below_drewN ?_ _))
end Go.Proofs.YtamkmfkkhgkllaaGreatDoor
