/- The walks of Tail and Under. -/
import Derived.Test.YtamkmfkkhgkllaaGreatDoorHostUnder
import Derived.Test.YtamkmfkkhgkllaaGreatDoorHostQ
namespace Go.Proofs.YtamkmfkkhgkllaaGreatDoor
open Go Go.RowKit
set_option maxRecDepth 20000
set_option linter.unusedSimpArgs false
set_option linter.unusedVariables false

theorem tailOk_cases (h : GHost) (n : Int) : (n < 1 ∧ tailOk h n = false) ∨ (1 ≤ n ∧ ((labelsL h).length : Int) < n ∧ tailOk h n = false) ∨ (1 ≤ n ∧ n ≤ (labelsL h).length ∧ tailOk h n = true) := by
  unfold tailOk
  by_cases h1 : 1 ≤ n
  · by_cases h2 : n ≤ (labelsL h).length
    · exact .inr (.inr ⟨h1, h2, by simp [h1, h2]⟩)
    · exact .inr (.inl ⟨h1, by omega, by simp [h2]⟩)
  · exact .inl ⟨by omega, by simp [h1]⟩
theorem labels_len {h : GHost} (hn : h.name.length ≤ 4294960000) : (labelsL h).length ≤ 254 := by
  by_cases hl : labelsL h = []
  · rw [hl]; simp
  · have hk := labels_ne hl
    rw [labels_ok hk]
    have := splitL_length_le 46 h.name
    have := (nameOk_facts hk).2.1
    omega
set_option maxHeartbeats 1000000 in
theorem tail_any (h : GHost) (n : Int) (hn : h.name.length ≤ 4294960000) (m : Int) (w : World) (hm : HasMax m w) (htz : HasTz w) (hd : HasDec w) :
    Calls Tryz.prog 29 #[.agg (hostC h), .int .i64 n] w fun e w' => e = .returned (.tuple #[.agg (hostC (tailH h n)), .bool (tailOk h n)]) ∧ Below w.heap.size w w' := by
  have HL : Hid (∀ w, HasMax m w → HasTz w → HasDec w → Calls Tryz.prog 28 #[.agg (hostC h)] w (Gives strCod (labelsL h) w)) := fun w h1 h2 h3 => labels_any h hn m w h1 h2 h3
  have hl254 := labels_len hn
  rcases tailOk_cases h n with ⟨h1, h2⟩ | ⟨h1, h3, h2⟩ | ⟨h1, h3, h2⟩
  · rw [tail_no h2, h2]
    generalize labelsL h = L at *
    go_enter Tryz.func29, Tryz.ntmps29
    go_wp2_with (go_at_call 28; refine (HL.out _ (by repeat (first | exact hm | apply HasMax.grown | apply HasMax.alloc | apply HasMax.drew)) (by repeat (first | exact htz | apply HasTz.grown | apply HasTz.alloc | apply HasTz.drew)) (by repeat (first | exact hd | apply HasDec.grown | apply HasDec.alloc | apply HasDec.drew))).mono ?_; intro e w1 hg; obtain ⟨a1, c1, rfl, hc1, hb1, hl1⟩ := hg; obtain ⟨p1, rfl⟩ := grown_of hb1; clear hb1)
    exact ret_cell_tmp (w.heap.size + 1) (hostC zeroH) (.bool false) rfl rfl rfl agg_host (by simp [go_sem]) (by simp [go_sem]) rfl ⟨rfl, below_setRow (by repeat (first | exact Below.refl _ _ | assumption | refine below_grown ?_ (by first | omega | (simp [go_sem]; done) | (simp [go_sem] <;> omega)) _ | refine Below.alloc ?_ (by first | omega | (simp [go_sem]; done) | (simp [go_sem] <;> omega)) _ | refine below_bytesW ?_ (by first | omega | (simp [go_sem]; done) | (simp [go_sem] <;> omega)) _ | refine Below.drew ?_ | refine below_drewN ?_ _)) (by omega) _⟩
  · rw [tail_no h2, h2]
    have h1' : ¬ n < 1 := by omega
    generalize labelsL h = L at *
    go_enter Tryz.func29, Tryz.ntmps29
    go_wp2_with (go_at_call 28; refine (HL.out _ (by repeat (first | exact hm | apply HasMax.grown | apply HasMax.alloc | apply HasMax.drew)) (by repeat (first | exact htz | apply HasTz.grown | apply HasTz.alloc | apply HasTz.drew)) (by repeat (first | exact hd | apply HasDec.grown | apply HasDec.alloc | apply HasDec.drew))).mono ?_; intro e w1 hg; obtain ⟨a1, c1, rfl, hc1, hb1, hl1⟩ := hg; obtain ⟨p1, rfl⟩ := grown_of hb1; clear hb1)
    exact ret_cell_tmp (w.heap.size + 1) (hostC zeroH) (.bool false) rfl rfl rfl agg_host (by simp [go_sem]) (by simp [go_sem]) rfl ⟨rfl, below_setRow (by repeat (first | exact Below.refl _ _ | assumption | refine below_grown ?_ (by first | omega | (simp [go_sem]; done) | (simp [go_sem] <;> omega)) _ | refine Below.alloc ?_ (by first | omega | (simp [go_sem]; done) | (simp [go_sem] <;> omega)) _ | refine below_bytesW ?_ (by first | omega | (simp [go_sem]; done) | (simp [go_sem] <;> omega)) _ | refine Below.drew ?_ | refine below_drewN ?_ _)) (by omega) _⟩
  · obtain ⟨_, _, e3, e4, _, _⟩ := tail_facts h2
    rw [e3, h2, ← nameV_eq e4]
    have h1' : ¬ n < 1 := by omega
    have h3' : ¬ ((labelsL h).length : Int) < n := by omega
    obtain ⟨k, rfl⟩ : ∃ k : Nat, n = k := ⟨n.toNat, by omega⟩
    have hTN : Hid (joinL 46 ((labelsL h).drop ((labelsL h).length - k)) = tailN h k) := show _ = _ by unfold tailN; simp
    have hne : labelsL h ≠ [] := by intro e; rw [e] at h3; simp at h3; omega
    clear e3 h2
    generalize tailN h k = T at *
    generalize labelsL h = L at *
    have hwr : IntKind.i64.wrap ((L.length : Int) - k) = (L.length : Int) - k := IntWalk.i64_in _ (by omega)
    have HJ : Hid (∀ w a cap, k ≤ cap → ListIn strCod w a (L.drop (L.length - k)) 0 → Calls Tryz.prog 21 #[.slice a (L.length - (L.length - k)) cap, .string ⟨[46].toArray⟩] w fun e w' => e = .returned (.string ⟨T.toArray⟩) ∧ Below w.heap.size w w') := fun w a cap hc hin => by
      have hlen : (L.drop (L.length - k)).length = L.length - (L.length - k) := List.length_drop
      have := join_any (L.drop (L.length - k)) 46 a cap 0 (by omega) (by omega) (by rw [hTN.out]; omega) w hin
      rwa [hTN.out, hlen] at this
    go_enter Tryz.func29, Tryz.ntmps29
    go_wp2_with (first
      | (go_at_call 28; refine (HL.out _ (by repeat (first | exact hm | apply HasMax.grown | apply HasMax.alloc | apply HasMax.drew)) (by repeat (first | exact htz | apply HasTz.grown | apply HasTz.alloc | apply HasTz.drew)) (by repeat (first | exact hd | apply HasDec.grown | apply HasDec.alloc | apply HasDec.drew))).mono ?_; intro e w1 hg; obtain ⟨b, o, cap, rfl, hcap, hb1, hlo, hhi, hat⟩ := hg.some hne; have HBC := Lib.hid (bel_up (w := w) (by repeat (first | exact Below.refl _ _ | assumption | refine below_grown ?_ (by first | omega | (simp [go_sem]; done) | (simp [go_sem] <;> omega)) _ | refine Below.alloc ?_ (by first | omega | (simp [go_sem]; done) | (simp [go_sem] <;> omega)) _ | refine below_bytesW ?_ (by first | omega | (simp [go_sem]; done) | (simp [go_sem] <;> omega)) _ | refine Below.drew ?_ | refine below_drewN ?_ _)) hb1); have HVR := Lib.hid (Var.below (Var.new (w.alloc _) _ _ rfl (by simp [go_sem]) : Var ((w.alloc _).alloc _) (w.heap.size + 1) (hostL zeroH)) hb1); have hv := HVR.out.has (n := 18) rfl; have hv2 := (fun p => (HVR.out.grown p).has (n := 18) rfl); have hdr := Lib.hid (hat.drop (L.length - k) (by omega)); rw [show o + (L.length - k) * strCod.sz = o + (L.length - k) by show o + (L.length - k) * 1 = _; omega] at hdr; clear hg hb1 hat)
      | (go_at_call 21; refine (HJ.out _ _ _ (by omega) (.inr ⟨b, o + (L.length - k), rfl, Nat.zero_le _, hhi, hdr.out⟩)).mono ?_; rintro e w1 ⟨rfl, hb1⟩; obtain ⟨p1, rfl⟩ := grown_of hb1; clear hb1))
    exact ret_cell_tmp (w.heap.size + 1) (nameV T) (.bool true) rfl rfl rfl agg_host (by simp [go_sem, hv2]) (by simp [go_sem, hv2]) rfl ⟨rfl, below_setRow (below_grown HBC.out HBC.out.size _) (by omega) _⟩
theorem gives_len {α : Type} {c : Cod α} {xs : List α} {w w' : World} {e : Ending} (h : Gives c xs w e w') : ∃ (a : Option Addr) (cap : Nat), e = .returned (.slice a xs.length cap) ∧ Below w.heap.size w w' := by
  obtain ⟨a, cap, he, _, hb, _⟩ := h
  exact ⟨a, cap, he, hb⟩
set_option maxHeartbeats 1000000 in
theorem under_any (h d : GHost) (hn : h.name.length ≤ 4294960000) (dn : d.name.length ≤ 4294960000) (m : Int) (w : World) (hm : HasMax m w) (htz : HasTz w) (hd : HasDec w) :
    Calls Tryz.prog 8 #[.agg (hostC h), .agg (hostC d)] w fun e w' => e = .returned (.bool (underB h d)) ∧ Below w.heap.size w w' := by
  have HL : Hid (∀ w, HasMax m w → HasTz w → HasDec w → Calls Tryz.prog 28 #[.agg (hostC h)] w (Gives strCod (labelsL h) w)) := fun w h1 h2 h3 => labels_any h hn m w h1 h2 h3
  have HM : Hid (∀ w, HasMax m w → HasTz w → HasDec w → Calls Tryz.prog 28 #[.agg (hostC d)] w (Gives strCod (labelsL d) w)) := fun w h1 h2 h3 => labels_any d dn m w h1 h2 h3
  have HT : Hid (∀ w, HasMax m w → HasTz w → HasDec w → Calls Tryz.prog 29 #[.agg (hostC h), .int .i64 ((labelsL d).length : Int)] w fun e w' => e = .returned (.tuple #[.agg (hostC (tailH h (labelsL d).length)), .bool (tailOk h (labelsL d).length)]) ∧ Below w.heap.size w w') := fun w h1 h2 h3 => tail_any h _ hn m w h1 h2 h3
  unfold underB
  have hu : ∀ b, (if (labelsL d).length = 0 ∨ (labelsL h).length ≤ (labelsL d).length then false else b) = (!(((labelsL d).length : Int) == 0) && (!decide (((labelsL h).length : Int) ≤ (labelsL d).length) && b)) := fun b => by
    by_cases h1 : (labelsL d).length = 0
    · simp [h1]
    · by_cases h2 : (labelsL h).length ≤ (labelsL d).length
      · simp [h1, h2]
      · have h1' : (((labelsL d).length : Int) == 0) = false := by rw [beq_eq_false_iff_ne]; omega
        rw [if_neg (by omega), h1']
        simp [h2]
  rw [hu]
  clear hu
  generalize tailH h (labelsL d).length = t at *
  generalize tailOk h (labelsL d).length = ok at *
  generalize labelsL h = L at *
  generalize labelsL d = M at *
  cases h1 : ((M.length : Int) == 0)
  · by_cases h2 : (L.length : Int) ≤ M.length
    · rw [decide_eq_true h2]
      go_enter Tryz.func8, Tryz.ntmps8
      go_wp2
      go_region_law (first | (go_simp; (first | with_reducible refine (HL.out _ (by repeat (first | exact hm | apply HasMax.grown | apply HasMax.alloc | apply HasMax.drew)) (by repeat (first | exact htz | apply HasTz.grown | apply HasTz.alloc | apply HasTz.drew)) (by repeat (first | exact hd | apply HasDec.grown | apply HasDec.alloc | apply HasDec.drew))).mono ?_ | with_reducible refine (HM.out _ (by repeat (first | exact hm | apply HasMax.grown | apply HasMax.alloc | apply HasMax.drew)) (by repeat (first | exact htz | apply HasTz.grown | apply HasTz.alloc | apply HasTz.drew)) (by repeat (first | exact hd | apply HasDec.grown | apply HasDec.alloc | apply HasDec.drew))).mono ?_); intro e w1 hg; obtain ⟨a1, c1, rfl, hc1, hb1, hl1⟩ := hg; obtain ⟨p1, rfl⟩ := grown_of hb1; clear hb1; dsimp only))
      all_goals
        go_wp2
        go_ret
        exact ⟨rfl, (by repeat (first | exact Below.refl _ _ | assumption | refine below_grown ?_ (by first | omega | (simp [go_sem]; done) | (simp [go_sem] <;> omega)) _ | refine Below.alloc ?_ (by first | omega | (simp [go_sem]; done) | (simp [go_sem] <;> omega)) _ | refine below_bytesW ?_ (by first | omega | (simp [go_sem]; done) | (simp [go_sem] <;> omega)) _ | refine Below.drew ?_ | refine below_drewN ?_ _))⟩
    · rw [decide_eq_false h2]
      go_enter Tryz.func8, Tryz.ntmps8
      go_wp2
      go_region_law (first | (go_simp; (first | with_reducible refine (HL.out _ (by repeat (first | exact hm | apply HasMax.grown | apply HasMax.alloc | apply HasMax.drew)) (by repeat (first | exact htz | apply HasTz.grown | apply HasTz.alloc | apply HasTz.drew)) (by repeat (first | exact hd | apply HasDec.grown | apply HasDec.alloc | apply HasDec.drew))).mono ?_ | with_reducible refine (HM.out _ (by repeat (first | exact hm | apply HasMax.grown | apply HasMax.alloc | apply HasMax.drew)) (by repeat (first | exact htz | apply HasTz.grown | apply HasTz.alloc | apply HasTz.drew)) (by repeat (first | exact hd | apply HasDec.grown | apply HasDec.alloc | apply HasDec.drew))).mono ?_); intro e w1 hg; obtain ⟨a1, c1, rfl, hc1, hb1, hl1⟩ := hg; obtain ⟨p1, rfl⟩ := grown_of hb1; clear hb1; dsimp only))
      all_goals
        go_wp2_with (go_at_call 29; refine (HT.out _ (by repeat (first | exact hm | apply HasMax.grown | apply HasMax.alloc | apply HasMax.drew)) (by repeat (first | exact htz | apply HasTz.grown | apply HasTz.alloc | apply HasTz.drew)) (by repeat (first | exact hd | apply HasDec.grown | apply HasDec.alloc | apply HasDec.drew))).mono ?_; rintro e w1 ⟨rfl, hb1⟩; obtain ⟨p1, rfl⟩ := grown_of hb1; clear hb1)
        go_ret
        exact ⟨by first | rfl | exact ret_bool (by simp), (by repeat (first | exact Below.refl _ _ | assumption | refine below_grown ?_ (by first | omega | (simp [go_sem]; done) | (simp [go_sem] <;> omega)) _ | refine Below.alloc ?_ (by first | omega | (simp [go_sem]; done) | (simp [go_sem] <;> omega)) _ | refine below_bytesW ?_ (by first | omega | (simp [go_sem]; done) | (simp [go_sem] <;> omega)) _ | refine Below.drew ?_ | refine below_drewN ?_ _))⟩
  · go_enter Tryz.func8, Tryz.ntmps8
    go_wp2
    go_region_law (first | (go_simp; (first | with_reducible refine (HL.out _ (by repeat (first | exact hm | apply HasMax.grown | apply HasMax.alloc | apply HasMax.drew)) (by repeat (first | exact htz | apply HasTz.grown | apply HasTz.alloc | apply HasTz.drew)) (by repeat (first | exact hd | apply HasDec.grown | apply HasDec.alloc | apply HasDec.drew))).mono ?_ | with_reducible refine (HM.out _ (by repeat (first | exact hm | apply HasMax.grown | apply HasMax.alloc | apply HasMax.drew)) (by repeat (first | exact htz | apply HasTz.grown | apply HasTz.alloc | apply HasTz.drew)) (by repeat (first | exact hd | apply HasDec.grown | apply HasDec.alloc | apply HasDec.drew))).mono ?_); intro e w1 hg; obtain ⟨a1, c1, rfl, hc1, hb1, hl1⟩ := hg; obtain ⟨p1, rfl⟩ := grown_of hb1; clear hb1; dsimp only))
    all_goals
      go_wp2
      go_ret
      exact ⟨by first | rfl | exact ret_bool (by simp), (by repeat (first | exact Below.refl _ _ | assumption | refine below_grown ?_ (by first | omega | (simp [go_sem]; done) | (simp [go_sem] <;> omega)) _ | refine Below.alloc ?_ (by first | omega | (simp [go_sem]; done) | (simp [go_sem] <;> omega)) _ | refine below_bytesW ?_ (by first | omega | (simp [go_sem]; done) | (simp [go_sem] <;> omega)) _ | refine Below.drew ?_ | refine below_drewN ?_ _))⟩
end Go.Proofs.YtamkmfkkhgkllaaGreatDoor
