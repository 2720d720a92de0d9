/- The walk of what each statement on hosts asks first. -/
import Derived.Test.YtamkmfkkhgkllaaGreatDoorHostTail
namespace Go.Proofs.YtamkmfkkhgkllaaGreatDoor
open Go Go.RowKit
set_option maxRecDepth 20000
set_option linter.unusedSimpArgs false
set_option linter.unusedVariables false

def exA : List UInt8 := [65, 46, 69, 120, 97, 109, 112, 108, 101, 46, 99, 111, 109]
def exL : List UInt8 := [97, 46, 101, 120, 97, 109, 112, 108, 101, 46, 99, 111, 109]
def exD : List UInt8 := [101, 120, 97, 109, 112, 108, 101, 46, 99, 111, 109]
def exN : List UInt8 := [49, 46, 50, 46, 51]
theorem ex_six : six exA = false ∧ six exD = false ∧ six exN = false ∧ lastD exA = false ∧ lastD exD = false ∧ lastD exN = true ∧ v4Ok exN = false ∧ lowerL exA = exL ∧ nameB exA = true ∧ nameB exD = true ∧ lowerL exD = exD := by decide +kernel
theorem ex_labs : (splitL 46 exL).all labOk = true ∧ (splitL 46 exD).all labOk = true ∧ digitsB ((splitL 46 exL).getLastD []) = false ∧ digitsB ((splitL 46 exD).getLastD []) = false ∧ (splitL 46 exL).length = 3 ∧ (splitL 46 exD).length = 2 ∧ joinL 46 ((splitL 46 exL).drop 1) = exD := by decide +kernel
theorem exH : parseH exA = nameH exL ∧ parseE exA = 0 ∧ parseH exD = nameH exD ∧ parseE exD = 0 ∧ parseE exN = 31 ∧ parseH exN = zeroH ∧ underB (nameH exL) (nameH exD) = true := by
  obtain ⟨a1, a2, a3, a4, a5, a6, a7, a8, a9, a10, a11⟩ := ex_six
  obtain ⟨b1, b2, b3, b4, b5, b6, b7⟩ := ex_labs
  obtain ⟨c1, c2⟩ := parse_name a1 a4 a9
  obtain ⟨d1, d2⟩ := parse_name a2 a5 a10
  obtain ⟨e1, e2⟩ := parse_four a3 a6
  rw [a8] at c1
  rw [a11] at d1
  rw [a7] at e1 e2
  refine ⟨c1, c2, d1, d2, e2, e1, ?_⟩
  obtain ⟨_, hL⟩ := name_right (n := exL) (by decide) b1 b3
  obtain ⟨_, hD⟩ := name_right (n := exD) (by decide) b2 b4
  unfold underB tailH tailOk tailN
  rw [hL, hD, b5, b6]
  rw [if_neg (by omega), if_pos (by decide)]
  show hostEq (nameH (joinL 46 ((splitL 46 exL).drop 1))) _ = true
  rw [b7]
  exact (hostEq_iff _ _).2 rfl
set_option maxHeartbeats 1000000 in
theorem hostAlive_any (m : Int) (w : World) (hm : HasMax m w) (htz : HasTz w) (hd : HasDec w) :
    Calls Tryz.prog 5 #[] w fun e w' => e = .returned (.bool true) ∧ Below w.heap.size w w' := by
  obtain ⟨h1, h2, h3, h4, h5, h6, h7⟩ := exH
  have hA : Hid (∀ w, HasMax m w → Calls Tryz.prog 6 #[.string ⟨exA.toArray⟩] w fun e w' => e = .returned (.tuple #[.agg (hostC (nameH exL)), .int .i64 0]) ∧ Below w.heap.size w w') := fun w hm => by
    have := parse_any exA (by decide) m w hm
    rwa [h1, h2] at this
  have hD : Hid (∀ w, HasMax m w → Calls Tryz.prog 6 #[.string ⟨exD.toArray⟩] w fun e w' => e = .returned (.tuple #[.agg (hostC (nameH exD)), .int .i64 0]) ∧ Below w.heap.size w w') := fun w hm => by
    have := parse_any exD (by decide) m w hm
    rwa [h3, h4] at this
  have hN : Hid (∀ w, HasMax m w → Calls Tryz.prog 6 #[.string ⟨exN.toArray⟩] w fun e w' => e = .returned (.tuple #[.agg (hostC zeroH), .int .i64 31]) ∧ Below w.heap.size w w') := fun w hm => by
    have := parse_any exN (by decide) m w hm
    rwa [h5, h6] at this
  have hU : Hid (∀ w, HasMax m w → HasTz w → HasDec w → Calls Tryz.prog 8 #[.agg (hostC (nameH exL)), .agg (hostC (nameH exD))] w fun e w' => e = .returned (.bool true) ∧ Below w.heap.size w w') := fun w a b c => by
    have := under_any (nameH exL) (nameH exD) (by rw [(nameH_name (n := exL) (by decide)).2.1]; decide) (by rw [(nameH_name (n := exD) (by decide)).2.1]; decide) m w a b c
    rwa [h7] at this
  have hV : nameV exL = hostC (nameH exL) := nameV_eq (by decide)
  have he : hostEq (nameH exL) (nameH exL) = true := (hostEq_iff _ _).2 rfl
  clear h1 h2 h3 h4 h5 h6 h7
  generalize nameH exL = H at *
  generalize nameH exD = E at *
  unfold exL at hV
  unfold exA at hA
  unfold exD at hD
  unfold exN at hN
  go_enter Tryz.func5, Tryz.ntmps5
  go_wp2_with (first
    | (go_at_call 6; (with_reducible refine (hA.out _ (by repeat (first | exact hm | apply HasMax.grown | apply HasMax.alloc | apply HasMax.drew))).mono ?_); rintro e w1 ⟨rfl, hb1⟩; obtain ⟨p1, rfl⟩ := grown_of hb1; clear hb1)
    | (go_at_call 6; (with_reducible refine (hD.out _ (by repeat (first | exact hm | apply HasMax.grown | apply HasMax.alloc | apply HasMax.drew))).mono ?_); rintro e w1 ⟨rfl, hb1⟩; obtain ⟨p1, rfl⟩ := grown_of hb1; clear hb1)
    | (go_at_call 6; (with_reducible refine (hN.out _ (by repeat (first | exact hm | apply HasMax.grown | apply HasMax.alloc | apply HasMax.drew))).mono ?_); rintro e w1 ⟨rfl, hb1⟩; obtain ⟨p1, rfl⟩ := grown_of hb1; clear hb1)
    | (go_at_call 8; refine (hU.out _ (by repeat (first | exact hm | apply HasMax.grown | apply HasMax.alloc | apply HasMax.drew)) (by repeat (first | exact htz | apply HasTz.grown | apply HasTz.alloc | apply HasTz.drew)) (by repeat (first | exact hd | apply HasDec.grown | apply HasDec.alloc | apply HasDec.drew))).mono ?_; rintro e w1 ⟨rfl, hb1⟩; obtain ⟨p1, rfl⟩ := grown_of hb1; clear hb1))
  go_ret
  exact ⟨by first | rfl | exact ret_bool (by simp), (by repeat (first | exact Below.refl _ _ | assumption | refine below_grown ?_ (by first | omega | (simp [go_sem]; done) | (simp [go_sem] <;> omega)) _ | refine Below.alloc ?_ (by first | omega | (simp [go_sem]; done) | (simp [go_sem] <;> omega)) _ | refine below_bytesW ?_ (by first | omega | (simp [go_sem]; done) | (simp [go_sem] <;> omega)) _ | refine Below.drew ?_ | refine below_drewN ?_ _))⟩
end Go.Proofs.YtamkmfkkhgkllaaGreatDoor
