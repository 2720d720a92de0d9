/- The walk of what each statement on URLs asks first. -/
import Derived.Test.YtfnhkpfkaiamjaaGreatDoorUrlParse
namespace Go.Proofs.YtfnhkpfkaiamjaaGreatDoor
open Go Go.RowKit
set_option maxRecDepth 20000
set_option linter.unusedSimpArgs false
set_option linter.unusedVariables false

theorem place_port {q n b : List UInt8} {port : Int} (h : cutHP q = (n, 58 :: b)) (h1 : parseOk n = true) (h2 : numOk b = true) (h3 : 1 ≤ numV b) (h4 : numV b ≤ 65535) : placeL q port = (0, parseH n, numV b) := by
  rw [place_eq, h]
  dsimp only
  rw [if_neg (by rw [h1]; simp), if_neg (by simp), if_neg (by rw [show ((58 : UInt8) :: b).tail = b from rfl, h2]; simp; omega)]
  rfl
theorem place_plain {q n : List UInt8} {port : Int} (h : cutHP q = (n, [])) (h1 : parseOk n = true) : placeL q port = (0, parseH n, port) := by
  rw [place_eq, h]
  dsimp only
  rw [if_neg (by rw [h1]; simp), if_pos rfl]
theorem out_good {safe : Bool} {r : List UInt8} {H : GHost} {P : Int} {pa : List UInt8} (hp : placeL (r.take (cutAny r [47, 63, 35])) (usualP safe) = (0, H, P)) (hpa : pathOf (r.drop (cutAny r [47, 63, 35])) = pa) (hok : pathOk pa = true) : outOf safe (restL safe r) = (0, safe, H, P, pa) := by
  rcases rest_cases safe r with ⟨h, _⟩ | ⟨_, h, _⟩ | ⟨_, _, h⟩
  · rw [hp] at h; exact absurd rfl h
  · rw [hpa, hok] at h; cases h
  · rw [h, hp, hpa]
def exU : List UInt8 := [72, 84, 84, 80, 83, 58, 47, 47, 65, 46, 99, 111, 109, 58, 56, 52, 52, 51, 63, 120]
def exN1 : List UInt8 := [65, 46, 99, 111, 109]
def exN2 : List UInt8 := [97, 46, 99, 111, 109]
theorem exU_plain : afterB exU httpsT = true ∧ exU.all asc = true ∧ cutHP ((exU.drop 8).take (cutAny (exU.drop 8) [47, 63, 35])) = (exN1, 58 :: [56, 52, 52, 51]) ∧ numOk [56, 52, 52, 51] = true ∧ numV [56, 52, 52, 51] = 8443 ∧ pathOf ((exU.drop 8).drop (cutAny (exU.drop 8) [47, 63, 35])) = [47] ∧ pathOk [47] = true ∧ six exN1 = false ∧ lastD exN1 = false ∧ nameB exN1 = true ∧ lowerL exN1 = exN2 := by decide +kernel
theorem exU_out : urlOut exU = (0, true, nameH exN2, 8443, [47]) := by
  obtain ⟨h1, h2, h3, h4, h5, h6, h7, h8, h9, h10, h11⟩ := exU_plain
  obtain ⟨q1, q2⟩ := parse_name h8 h9 h10
  rw [h11] at q1
  have hp := place_port (port := usualP true) h3 (by rw [parseOk_name h8 h9]; exact h10) h4 (by rw [h5]; decide) (by rw [h5]; decide)
  rw [q1, h5] at hp
  unfold urlOut
  rw [if_pos h1]
  exact out_good hp h6 h7
set_option maxHeartbeats 1000000 in
theorem urlAlive_any (m : Int) (w : World) (hm : HasMax m w) :
    Calls Tryz.prog 15 #[] w fun e w' => e = .returned (.bool true) ∧ Below w.heap.size w w' := by
  have HP : Hid (∀ w, HasMax m w → Calls Tryz.prog 20 #[.string ⟨exU.toArray⟩] w fun e w' => e = .returned (.tuple #[.agg (urlV true (nameH exN2) 8443 [47]), .int .i64 0]) ∧ Below w.heap.size w w') := fun w hm => by
    have := parseU_any exU (by decide) exU_plain.2.1 m w hm
    rw [exU_out] at this
    exact this
  have hV : nameV exN2 = hostC (nameH exN2) := nameV_eq (by decide)
  have he : hostEq (nameH exN2) (nameH exN2) = true := (hostEq_iff _ _).2 rfl
  have hwf : (Lit.int .i64 8443).wf = true := rfl
  have hl1 : ([47] : List UInt8).length ≤ maxLen := by decide
  have hl2 : 1 ≤ maxLen := by decide
  generalize nameH exN2 = H at *
  unfold exN2 at hV
  unfold exU at HP
  go_enter Tryz.func15, Tryz.ntmps15
  go_wp2_with (go_at_call 20; refine (HP.out _ (by repeat (first | exact hm | apply HasMax.grown | apply HasMax.alloc | apply HasMax.drew))).mono ?_; rintro e w1 ⟨rfl, hb1⟩; obtain ⟨p1, rfl⟩ := grown_of hb1; clear hb1)
  go_ret
  exact ⟨by first | rfl | exact ret_bool (by simp), (by repeat (first | exact Below.refl _ _ | assumption | refine below_grown ?_ (by first | omega | (simp [go_sem]; done) | (simp [go_sem] <;> omega)) _ | refine Below.alloc ?_ (by first | omega | (simp [go_sem]; done) | (simp [go_sem] <;> omega)) _ | refine below_bytesW ?_ (by first | omega | (simp [go_sem]; done) | (simp [go_sem] <;> omega)) _ | refine Below.drew ?_ | refine below_drewN ?_ _))⟩
end Go.Proofs.YtfnhkpfkaiamjaaGreatDoor
