/- The walk of the statement UrlNames. -/
import Derived.Test.YtfnhkpfkaiamjaaDoorUrlAliven
namespace Go.Proofs.YtfnhkpfkaiamjaaDoor
open Go Go.RowKit
set_option maxRecDepth 20000
set_option linter.unusedSimpArgs false
set_option linter.unusedVariables false

@[go_sem] theorem uV_size (x : Bool × GHost × Int × List UInt8) : (uV x).size = 21 := urlV_size _ _ _ _
@[go_sem] theorem uV_one (x : Bool × GHost × Int × List UInt8) : allOne (uV x) = true := urlV_one _ _ _ _
def nmA : List UInt8 := [102, 116, 112, 58, 47, 47, 97]
def nmB : List UInt8 := [104, 116, 116, 112, 58, 47, 47, 97, 46, 49]
def nmC : List UInt8 := [104, 116, 116, 112, 58, 47, 47, 97, 58, 48]
def nmD : List UInt8 := [104, 116, 116, 112, 58, 47, 47, 97, 47, 32]
theorem nm_plain : nmA.all asc = true ∧ nmB.all asc = true ∧ nmC.all asc = true ∧ nmD.all asc = true ∧ (urlOut nmA).1 = 41 ∧ (urlOut nmB).1 = 31 ∧ (urlOut nmC).1 = 42 ∧ (urlOut nmD).1 = 43 := by decide +kernel
set_option maxHeartbeats 1000000 in
theorem urlNames_law (m : Int) (w : World) (hm : HasMax m w) :
    Calls Tryd.prog 3 #[] w fun e w' => e = .returned (.bool true) ∧ Below w.heap.size w w' := by
  obtain ⟨a1, a2, a3, a4, e1, e2, e3, e4⟩ := nm_plain
  have HA : Hid (∀ w, HasMax m w → Calls Tryd.prog 7 #[.string ⟨nmA.toArray⟩] w fun e w' => e = .returned (.tuple #[.agg (uV (urlOut nmA).2), .int .i64 41]) ∧ Below w.heap.size w w') := fun w hm => by
    have := parseU_any nmA (by decide) a1 m w hm
    rwa [e1] at this
  have HB : Hid (∀ w, HasMax m w → Calls Tryd.prog 7 #[.string ⟨nmB.toArray⟩] w fun e w' => e = .returned (.tuple #[.agg (uV (urlOut nmB).2), .int .i64 31]) ∧ Below w.heap.size w w') := fun w hm => by
    have := parseU_any nmB (by decide) a2 m w hm
    rwa [e2] at this
  have HC : Hid (∀ w, HasMax m w → Calls Tryd.prog 7 #[.string ⟨nmC.toArray⟩] w fun e w' => e = .returned (.tuple #[.agg (uV (urlOut nmC).2), .int .i64 42]) ∧ Below w.heap.size w w') := fun w hm => by
    have := parseU_any nmC (by decide) a3 m w hm
    rwa [e3] at this
  have HD : Hid (∀ w, HasMax m w → Calls Tryd.prog 7 #[.string ⟨nmD.toArray⟩] w fun e w' => e = .returned (.tuple #[.agg (uV (urlOut nmD).2), .int .i64 43]) ∧ Below w.heap.size w w') := fun w hm => by
    have := parseU_any nmD (by decide) a4 m w hm
    rwa [e4] at this
  clear e1 e2 e3 e4 a1 a2 a3 a4
  generalize (urlOut nmA).2 = vA at *
  generalize (urlOut nmB).2 = vB at *
  generalize (urlOut nmC).2 = vC at *
  generalize (urlOut nmD).2 = vD at *
  unfold nmA at HA
  unfold nmB at HB
  unfold nmC at HC
  unfold nmD at HD
  go_enter Tryd.func3, Tryd.ntmps3
  go_wp2_with (first
    | (go_at_call 7; (with_reducible refine (HA.out _ (by repeat (first | exact hm | apply HasMax.grown | apply HasMax.alloc | apply HasMax.drew))).mono ?_); rintro e w1 ⟨rfl, hb1⟩; obtain ⟨p1, rfl⟩ := grown_of hb1; clear hb1)
    | (go_at_call 7; (with_reducible refine (HB.out _ (by repeat (first | exact hm | apply HasMax.grown | apply HasMax.alloc | apply HasMax.drew))).mono ?_); rintro e w1 ⟨rfl, hb1⟩; obtain ⟨p1, rfl⟩ := grown_of hb1; clear hb1)
    | (go_at_call 7; (with_reducible refine (HC.out _ (by repeat (first | exact hm | apply HasMax.grown | apply HasMax.alloc | apply HasMax.drew))).mono ?_); rintro e w1 ⟨rfl, hb1⟩; obtain ⟨p1, rfl⟩ := grown_of hb1; clear hb1)
    | (go_at_call 7; (with_reducible refine (HD.out _ (by repeat (first | exact hm | apply HasMax.grown | apply HasMax.alloc | apply HasMax.drew))).mono ?_); rintro e w1 ⟨rfl, hb1⟩; obtain ⟨p1, rfl⟩ := grown_of hb1; clear hb1)
    | (go_at_call 8; refine (urlAlive_any m _ (by repeat (first | exact hm | apply HasMax.grown | apply HasMax.alloc | apply HasMax.drew))).mono ?_; rintro e w1 ⟨rfl, hb1⟩; obtain ⟨p1, rfl⟩ := grown_of hb1; clear hb1))
  go_ret
  exact ⟨by first | rfl | exact ret_bool (by simp), (by repeat (first | exact Below.refl _ _ | assumption | refine below_grown ?_ (by first | omega | (simp [go_sem]; done) | (simp [go_sem] <;> omega)) _ | refine Below.alloc ?_ (by first | omega | (simp [go_sem]; done) | (simp [go_sem] <;> omega)) _ | refine below_bytesW ?_ (by first | omega | (simp [go_sem]; done) | (simp [go_sem] <;> omega)) _ | refine Below.drew ?_ | refine below_drewN ?_ _))⟩
end Go.Proofs.YtfnhkpfkaiamjaaDoor
