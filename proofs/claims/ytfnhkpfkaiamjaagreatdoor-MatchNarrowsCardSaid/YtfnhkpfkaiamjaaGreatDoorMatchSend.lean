/- The walks of crosses, at and Sends, the program's and the document's. -/
import Derived.Test.YtfnhkpfkaiamjaaGreatDoorHostAll
import Derived.Test.YtfnhkpfkaiamjaaGreatDoorMatchAll
import Derived.Test.YtfnhkpfkaiamjaaGreatDoorCook
namespace Go.Proofs.YtfnhkpfkaiamjaaGreatDoor
open Go Go.RowKit
set_option maxRecDepth 20000
set_option linter.unusedSimpArgs false
set_option linter.unusedVariables false

@[go_sem ↓ high] theorem cookieC_3 (c : GCookie) : (cookieC c)[3]? = some (.string ⟨c.host.name.toArray⟩) := by simp [cookieC, cookieL, hostL]
@[go_sem ↓ high] theorem requestC_2 (r : GRequest) : (requestC r)[2]? = some (.string ⟨r.host.name.toArray⟩) := by simp [requestC, requestL, hostL]
def crossB (same cross : Int) : Bool := if cross = 0 then true else if cross = 1 then same != 3 else if cross = 2 then same == 1 else false
theorem crosses_any (same cross : Int) (w : World) :
    Calls Tryz.prog 26 #[.int .i64 same, .int .i64 cross] w fun e w' => e = .returned (.bool (crossB same cross)) ∧ w = w' := by
  unfold crossB
  by_cases k0 : cross = 0
  · subst k0
    go_enter Tryz.func26, Tryz.ntmps26
    go_wp2
    go_ret
    exact ⟨rfl, rfl⟩
  · have k0' : (cross == 0) = false := by simp [k0]
    by_cases k1 : cross = 1
    · subst k1
      go_enter Tryz.func26, Tryz.ntmps26
      go_wp2
      go_ret
      exact ⟨rfl, rfl⟩
    · have k1' : (cross == 1) = false := by simp [k1]
      by_cases k2 : cross = 2
      · subst k2
        go_enter Tryz.func26, Tryz.ntmps26
        go_wp2
        go_ret
        exact ⟨rfl, rfl⟩
      · have k2' : (cross == 2) = false := by simp [k2]
        rw [if_neg k0, if_neg k1, if_neg k2]
        clear k0 k1 k2
        go_enter Tryz.func26, Tryz.ntmps26
        go_wp2
        go_ret
        exact ⟨rfl, rfl⟩
def atB (c : GCookie) (h : GHost) : Bool := if c.only = true then hostEq c.host h && rightB h else domainB h c.host
set_option maxHeartbeats 1000000 in
theorem at_any (c : GCookie) (h : GHost) (cn : c.host.name.length ≤ 4294960000) (hn : h.name.length ≤ 4294960000) (m : Int) (w : World) (hm : HasMax m w) (htz : HasTz w) (hd : HasDec w) :
    Calls Tryz.prog 27 #[.agg (cookieC c), .agg (hostC h)] w fun e w' => e = .returned (.bool (atB c h)) ∧ Below w.heap.size w w' := by
  have HR : Hid (∀ w, HasMax m w → HasTz w → HasDec w → Calls Tryz.prog 23 #[.agg (hostC h)] w fun e w' => e = .returned (.bool (rightB h)) ∧ Below w.heap.size w w') := fun w x y z => right_any h hn m w x y z
  have HU : Hid (∀ w, HasMax m w → HasTz w → HasDec w → Calls Tryz.prog 9 #[.agg (hostC h), .agg (hostC c.host)] w fun e w' => e = .returned (.bool (domainB h c.host)) ∧ Below w.heap.size w w') := fun w x y z => domain_any h c.host hn cn m w x y z
  unfold atB
  generalize domainB h c.host = u at *
  cases ho : c.only
  · go_enter Tryz.func27, Tryz.ntmps27
    go_wp2_with (first
      | (go_at_call 23; refine (HR.out _ (by repeat (first | exact hm | apply HasMax.grown | apply HasMax.alloc | apply HasMax.drew)) (by repeat (first | exact htz | apply HasTz.grown | apply HasTz.alloc | apply HasTz.drew)) (by repeat (first | exact hd | apply HasDec.grown | apply HasDec.alloc | apply HasDec.drew))).mono ?_; rintro e w1 ⟨rfl, hb1⟩; obtain ⟨p1, rfl⟩ := grown_of hb1; clear hb1)
      | (go_at_call 9; refine (HU.out _ (by repeat (first | exact hm | apply HasMax.grown | apply HasMax.alloc | apply HasMax.drew)) (by repeat (first | exact htz | apply HasTz.grown | apply HasTz.alloc | apply HasTz.drew)) (by repeat (first | exact hd | apply HasDec.grown | apply HasDec.alloc | apply HasDec.drew))).mono ?_; rintro e w1 ⟨rfl, hb1⟩; obtain ⟨p1, rfl⟩ := grown_of hb1; clear hb1))
    go_ret
    exact ⟨by first | rfl | exact ret_bool (by simp), (by repeat (first | exact Below.refl _ _ | assumption | refine below_grown ?_ (by first | omega | (simp [go_sem]; done) | (simp [go_sem] <;> omega)) _ | refine Below.alloc ?_ (by first | omega | (simp [go_sem]; done) | (simp [go_sem] <;> omega)) _ | refine below_bytesW ?_ (by first | omega | (simp [go_sem]; done) | (simp [go_sem] <;> omega)) _ | refine Below.drew ?_ | refine below_drewN ?_ _))⟩
  · cases he : hostEq c.host h
    all_goals
      go_enter Tryz.func27, Tryz.ntmps27
      go_wp2_with (first
        | (go_at_call 23; refine (HR.out _ (by repeat (first | exact hm | apply HasMax.grown | apply HasMax.alloc | apply HasMax.drew)) (by repeat (first | exact htz | apply HasTz.grown | apply HasTz.alloc | apply HasTz.drew)) (by repeat (first | exact hd | apply HasDec.grown | apply HasDec.alloc | apply HasDec.drew))).mono ?_; rintro e w1 ⟨rfl, hb1⟩; obtain ⟨p1, rfl⟩ := grown_of hb1; clear hb1)
        | (go_at_call 9; refine (HU.out _ (by repeat (first | exact hm | apply HasMax.grown | apply HasMax.alloc | apply HasMax.drew)) (by repeat (first | exact htz | apply HasTz.grown | apply HasTz.alloc | apply HasTz.drew)) (by repeat (first | exact hd | apply HasDec.grown | apply HasDec.alloc | apply HasDec.drew))).mono ?_; rintro e w1 ⟨rfl, hb1⟩; obtain ⟨p1, rfl⟩ := grown_of hb1; clear hb1))
      go_ret
      exact ⟨by first | rfl | exact ret_bool (by simp), (by repeat (first | exact Below.refl _ _ | assumption | refine below_grown ?_ (by first | omega | (simp [go_sem]; done) | (simp [go_sem] <;> omega)) _ | refine Below.alloc ?_ (by first | omega | (simp [go_sem]; done) | (simp [go_sem] <;> omega)) _ | refine below_bytesW ?_ (by first | omega | (simp [go_sem]; done) | (simp [go_sem] <;> omega)) _ | refine Below.drew ?_ | refine below_drewN ?_ _))⟩
theorem at_ref (c : GCookie) (h : GHost) : atB c h = (!(c.only && !hostEq c.host h) && domainB h c.host) := by
  unfold atB
  cases c.only
  · rfl
  · cases he : hostEq c.host h
    · rfl
    · rw [(hostEq_iff _ _).1 he, domain_self]; rfl
def sendsB (c : GCookie) (r : GRequest) (now : Int) : Bool := decide (now < c.expires) && ((r.secure || !c.secure) && (crossB c.same r.cross && (pathB r.path c.path && atB c r.host)))
set_option maxHeartbeats 2000000 in
theorem sends_any (c : GCookie) (r : GRequest) (now : Int) (cn : c.host.name.length ≤ 4294960000) (rn : r.host.name.length ≤ 4294960000) (m : Int) (w : World) (hm : HasMax m w) (htz : HasTz w) (hd : HasDec w) :
    Calls Tryz.prog 12 #[.agg (cookieC c), .agg (requestC r), .int .i64 now] w fun e w' => e = .returned (.bool (sendsB c r now)) ∧ Below w.heap.size w w' := by
  have HC := Lib.hid (fun w => crosses_any c.same r.cross w)
  have HP := Lib.hid (fun w => path_any r.path c.path c.hpath w)
  have HA : Hid (∀ w, HasMax m w → HasTz w → HasDec w → Calls Tryz.prog 27 #[.agg (cookieC c), .agg (hostC r.host)] w fun e w' => e = .returned (.bool (atB c r.host)) ∧ Below w.heap.size w w') := fun w x y z => at_any c r.host cn rn m w x y z
  unfold sendsB
  generalize crossB c.same r.cross = x at *
  generalize pathB r.path c.path = p at *
  generalize atB c r.host = u at *
  by_cases h1 : now < c.expires
  · rw [decide_eq_true h1]
    cases h2 : r.secure
    all_goals
      cases h3 : c.secure
      all_goals
        cases x
        all_goals
          cases p
          all_goals
            go_enter Tryz.func12, Tryz.ntmps12
            go_wp2_with (first
              | (go_at_call 26; refine (HC.out _).mono ?_; intro e w' h; obtain ⟨rfl, h2⟩ := h; subst w')
              | (go_at_call 21; refine (HP.out _).mono ?_; intro e w' h; obtain ⟨rfl, h2⟩ := h; subst w')
              | (go_at_call 27; refine (HA.out _ (by repeat (first | exact hm | apply HasMax.grown | apply HasMax.alloc | apply HasMax.drew)) (by repeat (first | exact htz | apply HasTz.grown | apply HasTz.alloc | apply HasTz.drew)) (by repeat (first | exact hd | apply HasDec.grown | apply HasDec.alloc | apply HasDec.drew))).mono ?_; rintro e w1 ⟨rfl, hb1⟩; obtain ⟨p1, rfl⟩ := grown_of hb1; clear hb1))
            go_ret
            exact ⟨by first | rfl | exact ret_bool (by simp), (by repeat (first | exact Below.refl _ _ | assumption | refine below_grown ?_ (by first | omega | (simp [go_sem]; done) | (simp [go_sem] <;> omega)) _ | refine Below.alloc ?_ (by first | omega | (simp [go_sem]; done) | (simp [go_sem] <;> omega)) _ | refine below_bytesW ?_ (by first | omega | (simp [go_sem]; done) | (simp [go_sem] <;> omega)) _ | refine Below.drew ?_ | refine below_drewN ?_ _))⟩
  · rw [decide_eq_false h1]
    go_enter Tryz.func12, Tryz.ntmps12
    go_wp2
    go_ret
    exact ⟨by first | rfl | exact ret_bool (by simp), (by repeat (first | exact Below.refl _ _ | assumption | refine below_grown ?_ (by first | omega | (simp [go_sem]; done) | (simp [go_sem] <;> omega)) _ | refine Below.alloc ?_ (by first | omega | (simp [go_sem]; done) | (simp [go_sem] <;> omega)) _ | refine below_bytesW ?_ (by first | omega | (simp [go_sem]; done) | (simp [go_sem] <;> omega)) _ | refine Below.drew ?_ | refine below_drewN ?_ _))⟩
set_option maxHeartbeats 4000000 in
theorem refSends_any (c : GCookie) (r : GRequest) (now : Int) (cn : c.host.name.length ≤ 1999990000) (rn : r.host.name.length ≤ 1999990000) (w : World) :
    Calls Tryz.prog 13 #[.agg (cookieC c), .agg (requestC r), .int .i64 now] w fun e w' => e = .returned (.bool (sendsB c r now)) ∧ Below w.heap.size w w' := by
  have HP := Lib.hid (fun w => refPath_any r.path c.path r.hpath c.hpath w)
  have HD : Hid (∀ w, Calls Tryz.prog 10 #[.agg (hostC r.host), .agg (hostC c.host)] w fun e w' => e = .returned (.bool (domainB r.host c.host)) ∧ Below w.heap.size w w') := fun w => refDomain_any r.host c.host rn cn w
  unfold sendsB
  rw [at_ref]
  have hX : (c.only = true ∧ hostEq c.host r.host = false) ∨ c.only = false ∨ (c.only = true ∧ hostEq c.host r.host = true) := by
    cases c.only
    · exact .inr (.inl rfl)
    · cases hostEq c.host r.host
      · exact .inl ⟨rfl, rfl⟩
      · exact .inr (.inr ⟨rfl, rfl⟩)
  generalize domainB r.host c.host = u at *
  generalize pathB r.path c.path = p at *
  have fin : ∀ b : Bool, (c.only && !hostEq c.host r.host) = false → (decide (now < c.expires) && ((r.secure || !c.secure) && (crossB c.same r.cross && (p && (!(c.only && !hostEq c.host r.host) && u))))) = (u && (p && (!(c.secure && !r.secure) && (!decide (c.expires ≤ now) && crossB c.same r.cross)))) := fun _ h => by
    rw [h]
    have e : (!decide (c.expires ≤ now)) = decide (now < c.expires) := by
      by_cases h' : now < c.expires
      · rw [decide_eq_true h', decide_eq_false (by omega)]; rfl
      · rw [decide_eq_false h', decide_eq_true (by omega)]; rfl
    rw [e]
    cases u <;> cases p <;> cases r.secure <;> cases c.secure <;> cases decide (now < c.expires) <;> cases crossB c.same r.cross <;> rfl
  rcases hX with ⟨h1, h2⟩ | hX
  · have hz : (decide (now < c.expires) && ((r.secure || !c.secure) && (crossB c.same r.cross && (p && (!(c.only && !hostEq c.host r.host) && u))))) = false := by rw [h1, h2]; simp
    rw [hz]
    clear hz fin
    go_enter Tryz.func13, Tryz.ntmps13
    go_wp2
    go_ret
    exact ⟨by first | rfl | exact ret_bool (by simp), (by repeat (first | exact Below.refl _ _ | assumption | refine below_grown ?_ (by first | omega | (simp [go_sem]; done) | (simp [go_sem] <;> omega)) _ | refine Below.alloc ?_ (by first | omega | (simp [go_sem]; done) | (simp [go_sem] <;> omega)) _ | refine below_bytesW ?_ (by first | omega | (simp [go_sem]; done) | (simp [go_sem] <;> omega)) _ | refine Below.drew ?_ | refine below_drewN ?_ _))⟩
  · rw [fin true (by rcases hX with h | ⟨h, h'⟩ <;> simp [h]; try simp [h'])]
    clear fin
    cases u
    · generalize crossB c.same r.cross = x at *
      rcases hX with h1 | ⟨h1, h2⟩
      all_goals
        go_enter Tryz.func13, Tryz.ntmps13
        go_wp2_with (go_at_call 10; refine (HD.out _).mono ?_; rintro e w1 ⟨rfl, hb1⟩; obtain ⟨p1, rfl⟩ := grown_of hb1; clear hb1)
        go_ret
        exact ⟨by first | rfl | exact ret_bool (by simp), (by repeat (first | exact Below.refl _ _ | assumption | refine below_grown ?_ (by first | omega | (simp [go_sem]; done) | (simp [go_sem] <;> omega)) _ | refine Below.alloc ?_ (by first | omega | (simp [go_sem]; done) | (simp [go_sem] <;> omega)) _ | refine below_bytesW ?_ (by first | omega | (simp [go_sem]; done) | (simp [go_sem] <;> omega)) _ | refine Below.drew ?_ | refine below_drewN ?_ _))⟩
    · cases p
      · generalize crossB c.same r.cross = x at *
        rcases hX with h1 | ⟨h1, h2⟩
        all_goals
          go_enter Tryz.func13, Tryz.ntmps13
          go_wp2_with (first
            | (go_at_call 10; refine (HD.out _).mono ?_; rintro e w1 ⟨rfl, hb1⟩; obtain ⟨p1, rfl⟩ := grown_of hb1; clear hb1)
            | (go_at_call 28; refine (HP.out _).mono ?_; intro e w' h; obtain ⟨rfl, h2⟩ := h; subst w'))
          go_ret
          exact ⟨by first | rfl | exact ret_bool (by simp), (by repeat (first | exact Below.refl _ _ | assumption | refine below_grown ?_ (by first | omega | (simp [go_sem]; done) | (simp [go_sem] <;> omega)) _ | refine Below.alloc ?_ (by first | omega | (simp [go_sem]; done) | (simp [go_sem] <;> omega)) _ | refine below_bytesW ?_ (by first | omega | (simp [go_sem]; done) | (simp [go_sem] <;> omega)) _ | refine Below.drew ?_ | refine below_drewN ?_ _))⟩
      · by_cases k0 : r.cross = 0
        · have k0' : (r.cross == 0) = true := by simp [k0]
          have k1' : (r.cross == 1) = false := by simp [k0]
          have k2' : (r.cross == 2) = false := by simp [k0]
          rw [show crossB c.same r.cross = true from if_pos k0]
          clear k0
          by_cases hx : c.expires ≤ now
          all_goals
            rcases hX with h1 | ⟨h1, h2⟩
            all_goals
              cases h3 : c.secure
              all_goals
                cases h4 : r.secure
                all_goals
                  go_enter Tryz.func13, Tryz.ntmps13
                  go_wp2_with (first
                    | (go_at_call 10; refine (HD.out _).mono ?_; rintro e w1 ⟨rfl, hb1⟩; obtain ⟨p1, rfl⟩ := grown_of hb1; clear hb1)
                    | (go_at_call 28; refine (HP.out _).mono ?_; intro e w' h; obtain ⟨rfl, h2⟩ := h; subst w'))
                  go_ret
                  exact ⟨by first | rfl | exact ret_bool (by simp [hx]), (by repeat (first | exact Below.refl _ _ | assumption | refine below_grown ?_ (by first | omega | (simp [go_sem]; done) | (simp [go_sem] <;> omega)) _ | refine Below.alloc ?_ (by first | omega | (simp [go_sem]; done) | (simp [go_sem] <;> omega)) _ | refine below_bytesW ?_ (by first | omega | (simp [go_sem]; done) | (simp [go_sem] <;> omega)) _ | refine Below.drew ?_ | refine below_drewN ?_ _))⟩
        · have k0' : (r.cross == 0) = false := by simp [k0]
          by_cases k1 : r.cross = 1
          · have k1' : (r.cross == 1) = true := by simp [k1]
            rw [show crossB c.same r.cross = (c.same != 3) by unfold crossB; rw [if_neg k0, if_pos k1]]
            clear k0 k1
            by_cases hx : c.expires ≤ now
            all_goals
              rcases hX with h1 | ⟨h1, h2⟩
              all_goals
                cases h3 : c.secure
                all_goals
                  cases h4 : r.secure
                  all_goals
                    go_enter Tryz.func13, Tryz.ntmps13
                    go_wp2_with (first
                      | (go_at_call 10; refine (HD.out _).mono ?_; rintro e w1 ⟨rfl, hb1⟩; obtain ⟨p1, rfl⟩ := grown_of hb1; clear hb1)
                      | (go_at_call 28; refine (HP.out _).mono ?_; intro e w' h; obtain ⟨rfl, h2⟩ := h; subst w'))
                    go_ret
                    exact ⟨by first | rfl | exact ret_bool (by simp [hx]), (by repeat (first | exact Below.refl _ _ | assumption | refine below_grown ?_ (by first | omega | (simp [go_sem]; done) | (simp [go_sem] <;> omega)) _ | refine Below.alloc ?_ (by first | omega | (simp [go_sem]; done) | (simp [go_sem] <;> omega)) _ | refine below_bytesW ?_ (by first | omega | (simp [go_sem]; done) | (simp [go_sem] <;> omega)) _ | refine Below.drew ?_ | refine below_drewN ?_ _))⟩
          · have k1' : (r.cross == 1) = false := by simp [k1]
            by_cases k2 : r.cross = 2
            · have k2' : (r.cross == 2) = true := by simp [k2]
              rw [show crossB c.same r.cross = (c.same == 1) by unfold crossB; rw [if_neg k0, if_neg k1, if_pos k2]]
              clear k0 k1 k2
              by_cases hx : c.expires ≤ now
              all_goals
                rcases hX with h1 | ⟨h1, h2⟩
                all_goals
                  cases h3 : c.secure
                  all_goals
                    cases h4 : r.secure
                    all_goals
                      go_enter Tryz.func13, Tryz.ntmps13
                      go_wp2_with (first
                        | (go_at_call 10; refine (HD.out _).mono ?_; rintro e w1 ⟨rfl, hb1⟩; obtain ⟨p1, rfl⟩ := grown_of hb1; clear hb1)
                        | (go_at_call 28; refine (HP.out _).mono ?_; intro e w' h; obtain ⟨rfl, h2⟩ := h; subst w'))
                      go_ret
                      exact ⟨by first | rfl | exact ret_bool (by simp [hx]), (by repeat (first | exact Below.refl _ _ | assumption | refine below_grown ?_ (by first | omega | (simp [go_sem]; done) | (simp [go_sem] <;> omega)) _ | refine Below.alloc ?_ (by first | omega | (simp [go_sem]; done) | (simp [go_sem] <;> omega)) _ | refine below_bytesW ?_ (by first | omega | (simp [go_sem]; done) | (simp [go_sem] <;> omega)) _ | refine Below.drew ?_ | refine below_drewN ?_ _))⟩
            · have k2' : (r.cross == 2) = false := by simp [k2]
              rw [show crossB c.same r.cross = false by unfold crossB; rw [if_neg k0, if_neg k1, if_neg k2]]
              clear k0 k1 k2
              by_cases hx : c.expires ≤ now
              all_goals
                rcases hX with h1 | ⟨h1, h2⟩
                all_goals
                  cases h3 : c.secure
                  all_goals
                    cases h4 : r.secure
                    all_goals
                      go_enter Tryz.func13, Tryz.ntmps13
                      go_wp2_with (first
                        | (go_at_call 10; refine (HD.out _).mono ?_; rintro e w1 ⟨rfl, hb1⟩; obtain ⟨p1, rfl⟩ := grown_of hb1; clear hb1)
                        | (go_at_call 28; refine (HP.out _).mono ?_; intro e w' h; obtain ⟨rfl, h2⟩ := h; subst w'))
                      go_ret
                      exact ⟨by first | rfl | exact ret_bool (by simp [hx]), (by repeat (first | exact Below.refl _ _ | assumption | refine below_grown ?_ (by first | omega | (simp [go_sem]; done) | (simp [go_sem] <;> omega)) _ | refine Below.alloc ?_ (by first | omega | (simp [go_sem]; done) | (simp [go_sem] <;> omega)) _ | refine below_bytesW ?_ (by first | omega | (simp [go_sem]; done) | (simp [go_sem] <;> omega)) _ | refine Below.drew ?_ | refine below_drewN ?_ _))⟩
end Go.Proofs.YtfnhkpfkaiamjaaGreatDoor
