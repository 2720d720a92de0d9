/- The document's Drop walked. -/
import Derived.Test.YtaondmaebgicgaaShRefU
namespace Go.Proofs.Ytaondmaebgicgaa
open Go Go.RowKit
set_option maxRecDepth 20000
set_option linter.unusedSimpArgs false
set_option linter.unusedVariables false

@[go_sem] theorem allOne_sh (a : Option Addr) (n cap : Nat) (l : Int) : allOne #[.slice a n cap, .int .i64 l] = true := by simp [allOne, Value.oneCell']
/-- A world that differs from another by draws and one empty block. -/
noncomputable def isEmptyNew (w w' : World) : Bool := @decide (w'.heap[w.heap.size]? = some (.cells #[] 73 (0, 0))) (Classical.propDecidable _)
theorem isEmptyNew_iff {w w' : World} : isEmptyNew w w' = true ↔ w'.heap[w.heap.size]? = some (.cells #[] 73 (0, 0)) := by
  unfold isEmptyNew
  exact @decide_eq_true_iff _ (Classical.propDecidable _)
theorem isEmptyNew_a (w : World) : isEmptyNew w (w.drew.alloc (.cells #[] 73)) = true := isEmptyNew_iff.2 (heap_alloc_new w.drew _)
theorem isEmptyNew_b (w : World) : isEmptyNew w (w.alloc (.cells #[] 73)).drew = true := isEmptyNew_iff.2 (heap_alloc_new w _)
theorem own_emptyNew {w w' : World} (h : isEmptyNew w w' = true) : Own dkCod (From w.heap.size) w' (.slice (some ⟨w.heap.size, 0, none⟩) 0 0) [] :=
  ⟨⟨rfl, .inr ⟨w.heap.size, 0, #[], rfl, Nat.zero_le _, isEmptyNew_iff.1 h, Nat.le_refl _, Nat.zero_le _, rfl, rfl⟩⟩, fun g hg => by cases hg; exact Nat.le_refl _⟩
set_option maxHeartbeats 4000000 in
theorem refDrop_no (W : List GKept) (a : Option Addr) (cap last : Nat) (hcap : W.length ≤ cap) (c : GCookie) (hW : W.length ≤ 1000) (w : World) (hin : ListIn dkCod w a W 0) (hf : findW W c = none) :
    Calls Try.prog 28 #[.agg (shC a W.length cap last), .agg (cookieC c)] w (DocGives W last (.bool false) w) := by
  obtain ⟨POST, hpost⟩ : ∃ POST : Ending → World → Prop, DocGives W last (.bool false) w = POST := ⟨_, rfl⟩
  rw [hpost]
  have HPOST := Lib.hid hpost
  have HIN := Lib.hid hin
  have HAT : Hid (∀ w', ListIn dkCod w' a W 0 → Calls Try.prog 26 #[.agg (shC a W.length cap last), .agg (cookieC c)] w' fun e w'' => e = .returned (.int .i64 (-1)) ∧ Below w'.heap.size w' w'') := fun w' h => by
    have := refAt_any W a cap last c hW w' h
    unfold atW at this
    rw [hf] at this
    exact this
  clear hin hpost hf
  go_enter Try.func28, Try.ntmps28
  go_wp2_with (go_at_call 26; (with_reducible refine (HAT.out _ (ListIn.below HIN.out (by repeat (first | exact Below.refl _ _ | assumption | refine below_grown ?_ (by first | omega | (simp [go_sem]; done) | (simp [go_sem] <;> omega)) _ | refine Below.alloc ?_ (by first | omega | (simp [go_sem]; done) | (simp [go_sem] <;> omega)) _ | refine below_bytesW ?_ (by first | omega | (simp [go_sem]; done) | (simp [go_sem] <;> omega)) _ | refine Below.drew ?_ | refine below_drewN ?_ _)))).mono ?_); rintro e w1 ⟨rfl, hb1⟩; obtain ⟨p1, rfl⟩ := grown_of hb1; clear hb1)
  have hb : Below w.heap.size w (grown (((w.alloc (.cells (shC a W.length cap last) 50)).alloc (.cells (cookieC c) 31)).alloc (.cells (shC none 0 0 0) 50)) p1) := (by repeat (first | exact Below.refl _ _ | assumption | refine below_grown ?_ (by first | omega | (simp [go_sem]; done) | (simp [go_sem] <;> omega)) _ | refine Below.alloc ?_ (by first | omega | (simp [go_sem]; done) | (simp [go_sem] <;> omega)) _ | refine below_bytesW ?_ (by first | omega | (simp [go_sem]; done) | (simp [go_sem] <;> omega)) _ | refine Below.drew ?_ | refine below_drewN ?_ _))
  refine ret_sh (w.heap.size + 1 + 1) a W.length cap last (.bool false) rfl rfl rfl (by simp [go_sem]) (by simp [go_sem]) rfl ?_
  rw [← HPOST.out]
  have hb2 := below_setRow hb (b := w.heap.size + 1 + 1) (by omega) (shC a W.length cap last)
  exact ⟨a, cap, rfl, hcap, HIN.out.below hb2, hb2⟩
set_option maxRecDepth 100000 in
set_option maxHeartbeats 8000000 in
theorem refDrop_yes (W : List GKept) (hA : Apart W) (a : Option Addr) (cap last : Nat) (hcap : W.length ≤ cap) (c : GCookie) (hW : W.length ≤ 1000) (w : World) (hin : ListIn dkCod w a W 0) (k : GKept) (hf : findW W c = some k) :
    Calls Try.prog 28 #[.agg (shC a W.length cap last), .agg (cookieC c)] w (DocGives (dropW W c) last (.bool true) w) := by
  obtain ⟨POST, hpost⟩ : ∃ POST : Ending → World → Prop, DocGives (dropW W c) last (.bool true) w = POST := ⟨_, rfl⟩
  rw [hpost]
  have HPOST := Lib.hid hpost
  have HIN := Lib.hid hin
  obtain ⟨hi, hat, hik⟩ := atW_some hf
  have HRS := Lib.hid (drop_take hA hf)
  have HAT : Hid (∀ w', ListIn dkCod w' a W 0 → Calls Try.prog 26 #[.agg (shC a W.length cap last), .agg (cookieC c)] w' fun e w'' => e = .returned (.int .i64 (idxW W c : Nat)) ∧ Below w'.heap.size w' w'') := fun w' h => by
    have := refAt_any W a cap last c hW w' h
    rw [hat] at this
    exact this
  generalize idxW W c = i at *
  clear hin hpost hf hat hA hik
  obtain ⟨g, o, rfl, hlo, hhi, hls⟩ := HIN.out.resolve_left (fun h => by subst h; exact absurd hi (Nat.not_lt_zero _))
  have HLS := Lib.hid hls
  clear hls
  go_enter Try.func28, Try.ntmps28
  go_upto_region 4 with (go_at_call 26; (with_reducible refine (HAT.out _ (ListIn.below HIN.out (by repeat (first | exact Below.refl _ _ | assumption | refine below_grown ?_ (by first | omega | (simp [go_sem]; done) | (simp [go_sem] <;> omega)) _ | refine Below.alloc ?_ (by first | omega | (simp [go_sem]; done) | (simp [go_sem] <;> omega)) _ | refine below_bytesW ?_ (by first | omega | (simp [go_sem]; done) | (simp [go_sem] <;> omega)) _ | refine Below.drew ?_ | refine below_drewN ?_ _)))).mono ?_); rintro e w1 ⟨rfl, hb1⟩; obtain ⟨p1, rfl⟩ := grown_of hb1; clear hb1)
  have hb : Below w.heap.size w (grown (((w.alloc (.cells (shC (some ⟨g, o, none⟩) W.length cap last) 50)).alloc (.cells (cookieC c) 31)).alloc (.cells (shC none 0 0 0) 50)) p1) := (by repeat (first | exact Below.refl _ _ | assumption | refine below_grown ?_ (by first | omega | (simp [go_sem]; done) | (simp [go_sem] <;> omega)) _ | refine Below.alloc ?_ (by first | omega | (simp [go_sem]; done) | (simp [go_sem] <;> omega)) _ | refine below_bytesW ?_ (by first | omega | (simp [go_sem]; done) | (simp [go_sem] <;> omega)) _ | refine Below.drew ?_ | refine below_drewN ?_ _))
  have hv2 : Var (grown (((w.alloc (.cells (shC (some ⟨g, o, none⟩) W.length cap last) 50)).alloc (.cells (cookieC c) 31)).alloc (.cells (shC none 0 0 0) 50)) p1) w.heap.size (shL (some ⟨g, o, none⟩) W.length cap last) := (((Var.new w _ _ rfl rfl).alloc _).alloc _).grown _
  have hv4 : Var (grown (((w.alloc (.cells (shC (some ⟨g, o, none⟩) W.length cap last) 50)).alloc (.cells (cookieC c) 31)).alloc (.cells (shC none 0 0 0) 50)) p1) (w.heap.size + 1 + 1) (shL none 0 0 0) := (Var.new _ _ _ rfl (by simp)).grown _
  change Code.wp _ _ _ _ (grown (((w.alloc (.cells (shC (some ⟨g, o, none⟩) W.length cap last) 50)).alloc (.cells (cookieC c) 31)).alloc (.cells (shC none 0 0 0) 50)) p1)
  generalize (grown (((w.alloc (.cells (shC (some ⟨g, o, none⟩) W.length cap last) 50)).alloc (.cells (cookieC c) 31)).alloc (.cells (shC none 0 0 0) 50)) p1) = w5 at *
  have hz5 := hb.size
  have c30 : w5.cell? ⟨w.heap.size, 0, none⟩ = some (.slice (some ⟨g, o, none⟩) W.length cap) := hv2.cellAt rfl
  have c31 : w5.cell? ⟨w.heap.size, 1, none⟩ = some (.int .i64 (last : Int)) := hv2.cellAt rfl
  have h4 : hasVar w5 (w.heap.size + 1 + 1) 2 = true := hv4.has rfl
  have o3 : isOld w.heap.size w5 = true := isOld_iff.2 hv2.lt
  have o4 : isOld (w.heap.size + 1 + 1) w5 = true := isOld_iff.2 hv4.lt
  have hl4 := hv4.lt
  have hl2 := hv2.lt
  have HB := Lib.hid hb
  have HLS5 := Lib.hid (HLS.out.below hb)
  have HT1 := Lib.hid (HLS5.out.take i)
  obtain ⟨O, hO, hT2⟩ : ∃ O, (if cap = i + 1 then some (⟨g, o, none⟩ : Addr) else some ⟨g, o + (i + 1) * 30, none⟩) = some ⟨g, O, none⟩ ∧ ListAt dkCod w5 g O (W.drop (i + 1)) := by
    by_cases hce : cap = i + 1
    · refine ⟨o, by rw [if_pos hce], ?_⟩
      rw [List.drop_of_length_le (by omega)]
      intro j u hj
      simp [Cod.encs] at hj
    · exact ⟨o + (i + 1) * 30, by rw [if_neg hce], HLS5.out.drop (i + 1) (by omega)⟩
  have HT2 := Lib.hid hT2
  have hp1 : 0 ≤ (i : Int) + 1 := by omega
  have hic : (i : Int) ≤ (cap : Int) := by omega
  have hil : (i : Int) + 1 ≤ (W.length : Int) := by omega
  have hwk : IntKind.i64.wrap ((i : Int) + 1) = (i : Int) + 1 := IntWalk.i64_in _ (by omega)
  have hvv2 := hv2
  have hvv4 := hv4
  clear hb hv2 hv4 hT2
  have HO5 : ∀ W', isEmptyNew w5 W' = true → Own dkCod (From w5.heap.size) W' (.slice (some ⟨w5.heap.size, 0, none⟩) 0 0) [] := fun W' h => own_emptyNew h
  have HO5' := Lib.hid HO5
  have HV2 := Lib.hid hvv2
  have HV4 := Lib.hid hvv4
  clear HO5 hvv2 hvv4
  have hd1 : (W.take i).length = i := by rw [List.length_take]; omega
  have hd2 : (W.drop (i + 1)).length = W.length - (i + 1) := by rw [List.length_drop]
  have HD1 := Lib.hid hd1
  have HD2 := Lib.hid hd2
  clear hd1 hd2
  go_cut [5] (fun s5 wx => s5 = .bool true ∧ ∃ a9 c9, Var wx (w.heap.size + 1 + 1) (shL a9 (W.take i ++ W.drop (i + 1)).length c9 last) ∧ (W.take i ++ W.drop (i + 1)).length ≤ c9 ∧ ListIn dkCod wx a9 (W.take i ++ W.drop (i + 1)) 0 ∧ Below w.heap.size w wx)
  case first =>
    go_region_law (first
      | (refine step_append_list rfl dkCod (.tmp 13) (.tmp 17) 48 rfl rfl (From w5.heap.size) _ _ [] rfl (HO5'.out _ (by first | exact isEmptyNew_a _ | exact isEmptyNew_b _)) _ _ _ _ (W.take i) rfl (by rw [HD1.out]) (ListAt.below HT1.out (by repeat (first | exact Below.refl _ _ | assumption | refine below_grown ?_ (by first | omega | (simp [go_sem]; done) | (simp [go_sem] <;> omega)) _ | refine Below.alloc ?_ (by first | omega | (simp [go_sem]; done) | (simp [go_sem] <;> omega)) _ | refine below_bytesW ?_ (by first | omega | (simp [go_sem]; done) | (simp [go_sem] <;> omega)) _ | refine Below.drew ?_ | refine below_drewN ?_ _))) (by rw [HD1.out]; simp [dkCod]; omega) (by rw [HD1.out]; first | omega | (simp; omega)) (by show _ ≤ _; simp) ?_; intro v8 w8 ho8 hb8; rw [List.nil_append] at ho8; have hwB : Below w5.heap.size w5 w8 := Below.trans (by repeat (first | exact Below.refl _ _ | assumption | refine below_grown ?_ (by first | omega | (simp [go_sem]; done) | (simp [go_sem] <;> omega)) _ | refine Below.alloc ?_ (by first | omega | (simp [go_sem]; done) | (simp [go_sem] <;> omega)) _ | refine below_bytesW ?_ (by first | omega | (simp [go_sem]; done) | (simp [go_sem] <;> omega)) _ | refine Below.drew ?_ | refine below_drewN ?_ _)) (hb8.below_from (by first | omega | (simp; done) | (simp; omega))); have HO8 := Lib.hid ho8; have HB8 := Lib.hid hwB; have c30' := (HV2.out.below hwB).cellAt (i := 0) rfl; have c31' := (HV2.out.below hwB).cellAt (i := 1) rfl; have h4' : hasVar w8 (w.heap.size + 1 + 1) 2 = true := (HV4.out.below hwB).has rfl; have o3' : isOld w.heap.size w8 = true := isOld_iff.2 (HV2.out.below hwB).lt; have o4' : isOld (w.heap.size + 1 + 1) w8 = true := isOld_iff.2 (HV4.out.below hwB).lt; clear ho8 hb8 hwB)
      | (refine step_append_list rfl dkCod (.tmp 18) (.tmp 23) 48 rfl rfl (From w5.heap.size) _ _ (W.take i) rfl HO8.out _ _ _ _ (W.drop (i + 1)) rfl (HD2.out.symm) (ListAt.below HT2.out HB8.out) (by rw [HD1.out, HD2.out]; simp [dkCod]; omega) (by rw [HD1.out, HD2.out]; omega) (show w5.heap.size ≤ _ from HB8.out.size) ?_; intro v9 w9 ho9 hb9; obtain ⟨a9, c9, rfl, hc9, hl9⟩ := ho9.slice (B := w5.heap.size) (fun _ h => h); have HL9 := Lib.hid hl9; have HC9 := Lib.hid hc9; have HB9 := Lib.hid (HB8.out.trans (hb9.below_from HB8.out.size)); have c30'' := (HV2.out.below HB9.out).cellAt (i := 0) rfl; have c31'' := (HV2.out.below HB9.out).cellAt (i := 1) rfl; have h4'' : hasVar w9 (w.heap.size + 1 + 1) 2 = true := (HV4.out.below HB9.out).has rfl; have o3'' : isOld w.heap.size w9 = true := isOld_iff.2 (HV2.out.below HB9.out).lt; have o4'' : isOld (w.heap.size + 1 + 1) w9 = true := isOld_iff.2 (HV4.out.below HB9.out).lt; clear ho9 hb9 hl9 hc9))
    all_goals
      go_wp2_with fail
      go_meet
      have hbe := HB.out.trans (HB9.out.mono hz5)
      refine ⟨rfl, a9, c9, (HV4.out.below HB9.out).setRow_same _ (by simp [shL]), HC9.out, ?_, below_setRow hbe (by omega) _⟩
      exact (HL9.out.keeps (Q := fun j => j = w.heap.size + 1 + 1) (keeps_setRow (Q := fun j => j = w.heap.size + 1 + 1) (Keeps.refl _ _) (.inr rfl) _) (fun j hj _ => by omega)).mono (Nat.zero_le _)
  case rest =>
  obtain ⟨rfl, a9, c9, hv, hc, hl, hbe⟩ := hcut
  have k1 : hasRow wc ⟨w.heap.size + 1 + 1, 0, none⟩ 2 = true := hv.hasRow rfl
  have k2 : rowAt wc ⟨w.heap.size + 1 + 1, 0, none⟩ 2 = shC a9 (W.take i ++ W.drop (i + 1)).length c9 last := hv.rowAt rfl
  have HC := Lib.hid hc
  have HL := Lib.hid hl
  have HBE := Lib.hid hbe
  clear hv hc hl hbe
  go_wp2
  refine ret_sh (w.heap.size + 1 + 1) a9 (W.take i ++ W.drop (i + 1)).length c9 last (.bool true) rfl rfl rfl k1 k2 rfl ?_
  rw [← HPOST.out, HRS.out]
  exact ⟨a9, c9, rfl, HC.out, HL.out, HBE.out⟩
end Go.Proofs.Ytaondmaebgicgaa
