/- The walk of the statement MatchNarrows. -/
import Derived.Test.YtfnhkpfkaiamjaaGreatDoorLawMatchSends
namespace Go.Proofs.YtfnhkpfkaiamjaaGreatDoor
open Go Go.RowKit
set_option maxRecDepth 20000
set_option linter.unusedSimpArgs false
set_option linter.unusedVariables false

def nearR (r : GRequest) : GRequest := ⟨true, r.host, r.path, 0, r.hpath, rfl⟩
def wideC (c : GCookie) : GCookie := ⟨c.name, c.value, c.host, false, c.path, false, c.httpOnly, 1, c.expires, c.born, c.used, c.seq, c.hname, c.hvalue, c.hpath, rfl, c.hexp, c.hborn, c.hused, c.hseq⟩
theorem near_row (r : GRequest) : ((requestL r).set 0 (.bool true)).set 20 (.int .i64 0) = requestL (nearR r) := by
  have h18 := hostL_length r.host
  have e : ∀ l : List Value, l.length = 18 → ((([Value.bool r.secure] ++ (l ++ [Value.string ⟨r.path.toArray⟩, Value.int .i64 r.cross])).set 0 (.bool true)).set 20 (.int .i64 0)) = [Value.bool true] ++ (l ++ [Value.string ⟨r.path.toArray⟩, Value.int .i64 0]) := by
    intro l hl
    obtain ⟨a, b, c, d, e, f, g, i, j, k, m, n, o, p, q, r, s, t, rfl⟩ : ∃ a b c d e f g i j k m n o p q r s t, l = [a, b, c, d, e, f, g, i, j, k, m, n, o, p, q, r, s, t] := by
      match l, hl with
      | [a, b, c, d, e, f, g, i, j, k, m, n, o, p, q, r, s, t], _ => exact ⟨a, b, c, d, e, f, g, i, j, k, m, n, o, p, q, r, s, t, rfl⟩
    rfl
  exact e (hostL r.host) h18
theorem wide_row (c : GCookie) : (((cookieL c).set 20 (.bool false)).set 22 (.bool false)).set 24 (.int .i64 1) = cookieL (wideC c) := by
  have h18 := hostL_length c.host
  have e : ∀ l t : List Value, l.length = 18 → (((([Value.string ⟨c.name.toArray⟩, .string ⟨c.value.toArray⟩] ++ (l ++ ([Value.bool c.only, .string ⟨c.path.toArray⟩, .bool c.secure, .bool c.httpOnly, .int .i64 c.same] ++ t))).set 20 (.bool false)).set 22 (.bool false)).set 24 (.int .i64 1)) = [Value.string ⟨c.name.toArray⟩, .string ⟨c.value.toArray⟩] ++ (l ++ ([Value.bool false, .string ⟨c.path.toArray⟩, .bool false, .bool c.httpOnly, .int .i64 1] ++ t)) := by
    intro l t hl
    obtain ⟨a, b, c, d, e, f, g, i, j, k, m, n, o, p, q, r, s, t, rfl⟩ : ∃ a b c d e f g i j k m n o p q r s t, l = [a, b, c, d, e, f, g, i, j, k, m, n, o, p, q, r, s, t] := by
      match l, hl with
      | [a, b, c, d, e, f, g, i, j, k, m, n, o, p, q, r, s, t], _ => exact ⟨a, b, c, d, e, f, g, i, j, k, m, n, o, p, q, r, s, t, rfl⟩
    rfl
  exact e (hostL c.host) [.int .i64 c.expires, .int .i64 c.born, .int .i64 c.used, .int .i64 c.seq] h18
theorem near_arr (r : GRequest) : ((requestC r).setIfInBounds 0 (.bool true)).setIfInBounds 20 (.int .i64 0) = requestC (nearR r) := by
  unfold requestC
  rw [List.setIfInBounds_toArray, List.setIfInBounds_toArray, near_row]
theorem wide_arr (c : GCookie) : (((cookieC c).setIfInBounds 20 (.bool false)).setIfInBounds 22 (.bool false)).setIfInBounds 24 (.int .i64 1) = cookieC (wideC c) := by
  unfold cookieC
  rw [List.setIfInBounds_toArray, List.setIfInBounds_toArray, List.setIfInBounds_toArray, wide_row]
def earlyI (now : Int) : Int := if 0 < now then now / 2 else now
theorem early_yes {now : Int} (h : (Lit.int .i64 now).wf = true) (h0 : 0 < now) : IntKind.i64.wrap (now.tdiv 2) = earlyI now := by
  simp [Lit.wf, IntKind.min, IntKind.max, IntKind.signed, IntKind.bits] at h
  unfold earlyI
  rw [if_pos h0, Int.tdiv_eq_ediv_of_nonneg (by omega)]
  exact IntWalk.i64_in _ (by omega)
theorem early_no {now : Int} (h0 : ¬ 0 < now) : earlyI now = now := if_neg h0
theorem narrows_plain {c : GCookie} {r : GRequest} {now : Int} (h : sendsB c r now = true) : sendsB c (nearR r) (earlyI now) = true ∧ sendsB (wideC c) r now = true ∧ (c.only = true → hostEq c.host r.host = true) ∧ rightB r.host = true := by
  unfold sendsB at h
  simp only [Bool.and_eq_true, decide_eq_true_eq] at h
  obtain ⟨h1, h2, h3, h4, h5⟩ := h
  have hat := h5
  rw [at_ref] at h5
  simp only [Bool.and_eq_true, Bool.not_eq_true', Bool.and_eq_false_iff] at h5
  obtain ⟨h5, h6⟩ := h5
  have hr : rightB r.host = true := by
    rw [domain_ref] at h6
    simp only [Bool.and_eq_true] at h6
    exact h6.1
  have he : earlyI now < c.expires := by
    unfold earlyI
    split
    · omega
    · exact h1
  refine ⟨?_, ?_, ?_, hr⟩
  · unfold sendsB nearR
    simp only [Bool.and_eq_true, decide_eq_true_eq]
    exact ⟨he, rfl, rfl, h4, hat⟩
  · unfold sendsB
    simp only [Bool.and_eq_true, decide_eq_true_eq]
    refine ⟨h1, by show (r.secure || !false) = true; simp, ?_, h4, ?_⟩
    · unfold crossB at h3 ⊢
      show (if r.cross = 0 then true else if r.cross = 1 then (1 : Int) != 3 else if r.cross = 2 then (1 : Int) == 1 else false) = true
      split at h3
      · rename_i k; rw [if_pos k]
      · rename_i k
        rw [if_neg k]
        split at h3
        · rename_i k; rw [if_pos k]; rfl
        · rename_i k
          rw [if_neg k]
          split at h3
          · rename_i k; rw [if_pos k]; rfl
          · cases h3
    · show atB (wideC c) r.host = true
      unfold atB wideC
      exact h6
  · intro ho
    rcases h5 with h5 | h5
    · rw [ho] at h5; cases h5
    · simpa using h5
set_option maxRecDepth 100000 in
set_option maxHeartbeats 4000000 in
theorem matchNarrows_law (c : GCookie) (r : GRequest) (now : Int) (hnow : (Lit.int .i64 now).wf = true) (m : Int) (w : World) (hm : HasMax m w) (htz : HasTz w) (hd : HasDec w) :
    Calls Tryz.prog 5 #[.agg (cookieC c), .agg (requestC r), .int .i64 now] w fun e w' => e = .returned (.bool true) ∧ Below w.heap.size w w' := by
  have HG := Lib.hid (fun w => great_any c r w)
  cases hg : greatB c r
  · rw [hg] at HG
    obtain ⟨l1, l2⟩ := great_no hg
    clear hg
    by_cases s1 : c.same < 0
    · go_enter Tryz.func5, Tryz.ntmps5
      go_wp2_with (first
        | (go_at_call 8; refine (matchAlive_any _).mono ?_; intro e w' h; obtain ⟨rfl, h2⟩ := h; subst w')
        | (go_at_call 11; refine (HG.out _).mono ?_; rintro e w1 ⟨rfl, hb1⟩; obtain ⟨p1, rfl⟩ := grown_of hb1; clear hb1))
      go_ret
      exact ⟨rfl, (by repeat (first | exact Below.refl _ _ | assumption | refine below_grown ?_ (by first | omega | (simp [go_sem]; done) | (simp [go_sem] <;> omega)) _ | refine Below.alloc ?_ (by first | omega | (simp [go_sem]; done) | (simp [go_sem] <;> omega)) _ | refine below_bytesW ?_ (by first | omega | (simp [go_sem]; done) | (simp [go_sem] <;> omega)) _ | refine Below.drew ?_ | refine below_drewN ?_ _))⟩
    · by_cases s2 : (3 : Int) < c.same
      · go_enter Tryz.func5, Tryz.ntmps5
        go_wp2_with (first
          | (go_at_call 8; refine (matchAlive_any _).mono ?_; intro e w' h; obtain ⟨rfl, h2⟩ := h; subst w')
          | (go_at_call 11; refine (HG.out _).mono ?_; rintro e w1 ⟨rfl, hb1⟩; obtain ⟨p1, rfl⟩ := grown_of hb1; clear hb1))
        go_ret
        exact ⟨rfl, (by repeat (first | exact Below.refl _ _ | assumption | refine below_grown ?_ (by first | omega | (simp [go_sem]; done) | (simp [go_sem] <;> omega)) _ | refine Below.alloc ?_ (by first | omega | (simp [go_sem]; done) | (simp [go_sem] <;> omega)) _ | refine below_bytesW ?_ (by first | omega | (simp [go_sem]; done) | (simp [go_sem] <;> omega)) _ | refine Below.drew ?_ | refine below_drewN ?_ _))⟩
      · have HU : Hid (∀ w, HasMax m w → HasTz w → HasDec w → Calls Tryz.prog 12 #[.agg (cookieC c), .agg (requestC r), .int .i64 now] w fun e w' => e = .returned (.bool (sendsB c r now)) ∧ Below w.heap.size w w') := fun w x y z => sends_any c r now (by omega) (by omega) m w x y z
        cases hs : sendsB c r now
        · rw [hs] at HU
          go_enter Tryz.func5, Tryz.ntmps5
          go_wp2_with (first
            | (go_at_call 8; refine (matchAlive_any _).mono ?_; intro e w' h; obtain ⟨rfl, h2⟩ := h; subst w')
            | (go_at_call 11; refine (HG.out _).mono ?_; rintro e w1 ⟨rfl, hb1⟩; obtain ⟨p1, rfl⟩ := grown_of hb1; clear hb1)
            | (go_at_call 12; refine (HU.out _ (by repeat (first | exact hm | apply HasMax.grown | apply HasMax.alloc | apply HasMax.drew)) (by repeat (first | exact htz | apply HasTz.grown | apply HasTz.alloc | apply HasTz.drew)) (by repeat (first | exact hd | apply HasDec.grown | apply HasDec.alloc | apply HasDec.drew))).mono ?_; rintro e w1 ⟨rfl, hb1⟩; obtain ⟨p1, rfl⟩ := grown_of hb1; clear hb1))
          go_ret
          exact ⟨rfl, (by repeat (first | exact Below.refl _ _ | assumption | refine below_grown ?_ (by first | omega | (simp [go_sem]; done) | (simp [go_sem] <;> omega)) _ | refine Below.alloc ?_ (by first | omega | (simp [go_sem]; done) | (simp [go_sem] <;> omega)) _ | refine below_bytesW ?_ (by first | omega | (simp [go_sem]; done) | (simp [go_sem] <;> omega)) _ | refine Below.drew ?_ | refine below_drewN ?_ _))⟩
        · rw [hs] at HU
          obtain ⟨p1, p2, p3, p4⟩ := narrows_plain hs
          have HN : Hid (∀ w, HasMax m w → HasTz w → HasDec w → Calls Tryz.prog 12 #[.agg (cookieC c), .agg (requestC (nearR r)), .int .i64 (earlyI now)] w fun e w' => e = .returned (.bool true) ∧ Below w.heap.size w w') := fun w x y z => by
            have := sends_any c (nearR r) (earlyI now) (by omega) (by show r.host.name.length ≤ _; omega) m w x y z
            rwa [p1] at this
          have HW : Hid (∀ w, HasMax m w → HasTz w → HasDec w → Calls Tryz.prog 12 #[.agg (cookieC (wideC c)), .agg (requestC r), .int .i64 now] w fun e w' => e = .returned (.bool true) ∧ Below w.heap.size w w') := fun w x y z => by
            have := sends_any (wideC c) r now (by show c.host.name.length ≤ _; omega) (by omega) m w x y z
            rwa [p2] at this
          have HR : Hid (∀ w, Calls Tryz.prog 14 #[.agg (hostC r.host)] w fun e w' => e = .returned (.bool true) ∧ Below w.heap.size w w') := fun w => by
            have := refRight_any r.host (by omega) w
            rwa [p4] at this
          have hnear := near_arr r
          have hwide := wide_arr c
          clear p1 p2 p4 hs
          by_cases hn : 0 < now
          · have hearly := early_yes hnow hn
            generalize earlyI now = ea at *
            generalize nearR r = nr at *
            generalize wideC c = wc at *
            cases ho : c.only
            · clear p3
              go_enter Tryz.func5, Tryz.ntmps5
              go_wp2_with (first
              | (go_at_call 8; refine (matchAlive_any _).mono ?_; intro e w' h; obtain ⟨rfl, h2⟩ := h; subst w')
              | (go_at_call 11; refine (HG.out _).mono ?_; rintro e w1 ⟨rfl, hb1⟩; obtain ⟨p1, rfl⟩ := grown_of hb1; clear hb1)
              | (go_at_call 12; (with_reducible refine (HU.out _ (by repeat (first | exact hm | apply HasMax.grown | apply HasMax.alloc | apply HasMax.drew)) (by repeat (first | exact htz | apply HasTz.grown | apply HasTz.alloc | apply HasTz.drew)) (by repeat (first | exact hd | apply HasDec.grown | apply HasDec.alloc | apply HasDec.drew))).mono ?_); rintro e w1 ⟨rfl, hb1⟩; obtain ⟨p1, rfl⟩ := grown_of hb1; clear hb1)
              | (go_at_call 12; (with_reducible refine (HN.out _ (by repeat (first | exact hm | apply HasMax.grown | apply HasMax.alloc | apply HasMax.drew)) (by repeat (first | exact htz | apply HasTz.grown | apply HasTz.alloc | apply HasTz.drew)) (by repeat (first | exact hd | apply HasDec.grown | apply HasDec.alloc | apply HasDec.drew))).mono ?_); rintro e w1 ⟨rfl, hb1⟩; obtain ⟨p1, rfl⟩ := grown_of hb1; clear hb1)
              | (go_at_call 12; (with_reducible refine (HW.out _ (by repeat (first | exact hm | apply HasMax.grown | apply HasMax.alloc | apply HasMax.drew)) (by repeat (first | exact htz | apply HasTz.grown | apply HasTz.alloc | apply HasTz.drew)) (by repeat (first | exact hd | apply HasDec.grown | apply HasDec.alloc | apply HasDec.drew))).mono ?_); rintro e w1 ⟨rfl, hb1⟩; obtain ⟨p1, rfl⟩ := grown_of hb1; clear hb1)
              | (go_at_call 14; refine (HR.out _).mono ?_; rintro e w1 ⟨rfl, hb1⟩; obtain ⟨p1, rfl⟩ := grown_of hb1; clear hb1))
              go_ret
              exact ⟨by first | rfl | exact ret_bool (by simp), (by repeat (first | exact Below.refl _ _ | assumption | refine below_grown ?_ (by first | omega | (simp [go_sem]; done) | (simp [go_sem] <;> omega)) _ | refine Below.alloc ?_ (by first | omega | (simp [go_sem]; done) | (simp [go_sem] <;> omega)) _ | refine below_bytesW ?_ (by first | omega | (simp [go_sem]; done) | (simp [go_sem] <;> omega)) _ | refine Below.drew ?_ | refine below_drewN ?_ _))⟩
            · have he := p3 ho
              clear p3
              go_enter Tryz.func5, Tryz.ntmps5
              go_wp2_with (first
              | (go_at_call 8; refine (matchAlive_any _).mono ?_; intro e w' h; obtain ⟨rfl, h2⟩ := h; subst w')
              | (go_at_call 11; refine (HG.out _).mono ?_; rintro e w1 ⟨rfl, hb1⟩; obtain ⟨p1, rfl⟩ := grown_of hb1; clear hb1)
              | (go_at_call 12; (with_reducible refine (HU.out _ (by repeat (first | exact hm | apply HasMax.grown | apply HasMax.alloc | apply HasMax.drew)) (by repeat (first | exact htz | apply HasTz.grown | apply HasTz.alloc | apply HasTz.drew)) (by repeat (first | exact hd | apply HasDec.grown | apply HasDec.alloc | apply HasDec.drew))).mono ?_); rintro e w1 ⟨rfl, hb1⟩; obtain ⟨p1, rfl⟩ := grown_of hb1; clear hb1)
              | (go_at_call 12; (with_reducible refine (HN.out _ (by repeat (first | exact hm | apply HasMax.grown | apply HasMax.alloc | apply HasMax.drew)) (by repeat (first | exact htz | apply HasTz.grown | apply HasTz.alloc | apply HasTz.drew)) (by repeat (first | exact hd | apply HasDec.grown | apply HasDec.alloc | apply HasDec.drew))).mono ?_); rintro e w1 ⟨rfl, hb1⟩; obtain ⟨p1, rfl⟩ := grown_of hb1; clear hb1)
              | (go_at_call 12; (with_reducible refine (HW.out _ (by repeat (first | exact hm | apply HasMax.grown | apply HasMax.alloc | apply HasMax.drew)) (by repeat (first | exact htz | apply HasTz.grown | apply HasTz.alloc | apply HasTz.drew)) (by repeat (first | exact hd | apply HasDec.grown | apply HasDec.alloc | apply HasDec.drew))).mono ?_); rintro e w1 ⟨rfl, hb1⟩; obtain ⟨p1, rfl⟩ := grown_of hb1; clear hb1)
              | (go_at_call 14; refine (HR.out _).mono ?_; rintro e w1 ⟨rfl, hb1⟩; obtain ⟨p1, rfl⟩ := grown_of hb1; clear hb1))
              go_ret
              exact ⟨by first | rfl | exact ret_bool (by simp), (by repeat (first | exact Below.refl _ _ | assumption | refine below_grown ?_ (by first | omega | (simp [go_sem]; done) | (simp [go_sem] <;> omega)) _ | refine Below.alloc ?_ (by first | omega | (simp [go_sem]; done) | (simp [go_sem] <;> omega)) _ | refine below_bytesW ?_ (by first | omega | (simp [go_sem]; done) | (simp [go_sem] <;> omega)) _ | refine Below.drew ?_ | refine below_drewN ?_ _))⟩
          · rw [early_no hn] at HN
            generalize nearR r = nr at *
            generalize wideC c = wc at *
            cases ho : c.only
            · clear p3
              go_enter Tryz.func5, Tryz.ntmps5
              go_wp2_with (first
              | (go_at_call 8; refine (matchAlive_any _).mono ?_; intro e w' h; obtain ⟨rfl, h2⟩ := h; subst w')
              | (go_at_call 11; refine (HG.out _).mono ?_; rintro e w1 ⟨rfl, hb1⟩; obtain ⟨p1, rfl⟩ := grown_of hb1; clear hb1)
              | (go_at_call 12; (with_reducible refine (HU.out _ (by repeat (first | exact hm | apply HasMax.grown | apply HasMax.alloc | apply HasMax.drew)) (by repeat (first | exact htz | apply HasTz.grown | apply HasTz.alloc | apply HasTz.drew)) (by repeat (first | exact hd | apply HasDec.grown | apply HasDec.alloc | apply HasDec.drew))).mono ?_); rintro e w1 ⟨rfl, hb1⟩; obtain ⟨p1, rfl⟩ := grown_of hb1; clear hb1)
              | (go_at_call 12; (with_reducible refine (HN.out _ (by repeat (first | exact hm | apply HasMax.grown | apply HasMax.alloc | apply HasMax.drew)) (by repeat (first | exact htz | apply HasTz.grown | apply HasTz.alloc | apply HasTz.drew)) (by repeat (first | exact hd | apply HasDec.grown | apply HasDec.alloc | apply HasDec.drew))).mono ?_); rintro e w1 ⟨rfl, hb1⟩; obtain ⟨p1, rfl⟩ := grown_of hb1; clear hb1)
              | (go_at_call 12; (with_reducible refine (HW.out _ (by repeat (first | exact hm | apply HasMax.grown | apply HasMax.alloc | apply HasMax.drew)) (by repeat (first | exact htz | apply HasTz.grown | apply HasTz.alloc | apply HasTz.drew)) (by repeat (first | exact hd | apply HasDec.grown | apply HasDec.alloc | apply HasDec.drew))).mono ?_); rintro e w1 ⟨rfl, hb1⟩; obtain ⟨p1, rfl⟩ := grown_of hb1; clear hb1)
              | (go_at_call 14; refine (HR.out _).mono ?_; rintro e w1 ⟨rfl, hb1⟩; obtain ⟨p1, rfl⟩ := grown_of hb1; clear hb1))
              go_ret
              exact ⟨by first | rfl | exact ret_bool (by simp), (by repeat (first | exact Below.refl _ _ | assumption | refine below_grown ?_ (by first | omega | (simp [go_sem]; done) | (simp [go_sem] <;> omega)) _ | refine Below.alloc ?_ (by first | omega | (simp [go_sem]; done) | (simp [go_sem] <;> omega)) _ | refine below_bytesW ?_ (by first | omega | (simp [go_sem]; done) | (simp [go_sem] <;> omega)) _ | refine Below.drew ?_ | refine below_drewN ?_ _))⟩
            · have he := p3 ho
              clear p3
              go_enter Tryz.func5, Tryz.ntmps5
              go_wp2_with (first
              | (go_at_call 8; refine (matchAlive_any _).mono ?_; intro e w' h; obtain ⟨rfl, h2⟩ := h; subst w')
              | (go_at_call 11; refine (HG.out _).mono ?_; rintro e w1 ⟨rfl, hb1⟩; obtain ⟨p1, rfl⟩ := grown_of hb1; clear hb1)
              | (go_at_call 12; (with_reducible refine (HU.out _ (by repeat (first | exact hm | apply HasMax.grown | apply HasMax.alloc | apply HasMax.drew)) (by repeat (first | exact htz | apply HasTz.grown | apply HasTz.alloc | apply HasTz.drew)) (by repeat (first | exact hd | apply HasDec.grown | apply HasDec.alloc | apply HasDec.drew))).mono ?_); rintro e w1 ⟨rfl, hb1⟩; obtain ⟨p1, rfl⟩ := grown_of hb1; clear hb1)
              | (go_at_call 12; (with_reducible refine (HN.out _ (by repeat (first | exact hm | apply HasMax.grown | apply HasMax.alloc | apply HasMax.drew)) (by repeat (first | exact htz | apply HasTz.grown | apply HasTz.alloc | apply HasTz.drew)) (by repeat (first | exact hd | apply HasDec.grown | apply HasDec.alloc | apply HasDec.drew))).mono ?_); rintro e w1 ⟨rfl, hb1⟩; obtain ⟨p1, rfl⟩ := grown_of hb1; clear hb1)
              | (go_at_call 12; (with_reducible refine (HW.out _ (by repeat (first | exact hm | apply HasMax.grown | apply HasMax.alloc | apply HasMax.drew)) (by repeat (first | exact htz | apply HasTz.grown | apply HasTz.alloc | apply HasTz.drew)) (by repeat (first | exact hd | apply HasDec.grown | apply HasDec.alloc | apply HasDec.drew))).mono ?_); rintro e w1 ⟨rfl, hb1⟩; obtain ⟨p1, rfl⟩ := grown_of hb1; clear hb1)
              | (go_at_call 14; refine (HR.out _).mono ?_; rintro e w1 ⟨rfl, hb1⟩; obtain ⟨p1, rfl⟩ := grown_of hb1; clear hb1))
              go_ret
              exact ⟨by first | rfl | exact ret_bool (by simp), (by repeat (first | exact Below.refl _ _ | assumption | refine below_grown ?_ (by first | omega | (simp [go_sem]; done) | (simp [go_sem] <;> omega)) _ | refine Below.alloc ?_ (by first | omega | (simp [go_sem]; done) | (simp [go_sem] <;> omega)) _ | refine below_bytesW ?_ (by first | omega | (simp [go_sem]; done) | (simp [go_sem] <;> omega)) _ | refine Below.drew ?_ | refine below_drewN ?_ _))⟩
  · rw [hg] at HG
    go_enter Tryz.func5, Tryz.ntmps5
    go_wp2_with (first
      | (go_at_call 8; refine (matchAlive_any _).mono ?_; intro e w' h; obtain ⟨rfl, h2⟩ := h; subst w')
      | (go_at_call 11; refine (HG.out _).mono ?_; rintro e w1 ⟨rfl, hb1⟩; obtain ⟨p1, rfl⟩ := grown_of hb1; clear hb1))
    go_ret
    exact ⟨rfl, (by repeat (first | exact Below.refl _ _ | assumption | refine below_grown ?_ (by first | omega | (simp [go_sem]; done) | (simp [go_sem] <;> omega)) _ | refine Below.alloc ?_ (by first | omega | (simp [go_sem]; done) | (simp [go_sem] <;> omega)) _ | refine below_bytesW ?_ (by first | omega | (simp [go_sem]; done) | (simp [go_sem] <;> omega)) _ | refine Below.drew ?_ | refine below_drewN ?_ _))⟩
end Go.Proofs.YtfnhkpfkaiamjaaGreatDoor
