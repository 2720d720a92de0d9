/- The walk of the statement UrlDrops. -/
import Derived.Test.YtfnhkpfkaiamjaaDoorUrlParseg
import Derived.Test.YtfnhkpfkaiamjaaDoorLawUrlPaths
namespace Go.Proofs.YtfnhkpfkaiamjaaDoor
open Go Go.RowKit
set_option maxRecDepth 20000
set_option linter.unusedSimpArgs false
set_option linter.unusedVariables false

theorem cutAny_nil (cs : List UInt8) : cutAny [] cs = 0 := rfl
theorem cutAny_cons (c : UInt8) (t cs : List UInt8) : cutAny (c :: t) cs = if cs.contains c = true then 0 else cutAny t cs + 1 := by
  unfold cutAny
  rw [Lib.indexAny]
  have hge := (ixAny_bd t cs).1
  by_cases h : cs.contains c = true
  · rw [if_pos h, if_pos h]; rfl
  · rw [if_neg h, if_neg h]
    by_cases h1 : Lib.indexAny t cs = -1
    · rw [h1]; rfl
    · have : ¬ ((Lib.indexAny t cs) == -1) = true := by rw [beq_iff_eq]; omega
      rw [if_neg this, if_pos (by omega), if_pos (by omega)]
      omega
theorem cutAny_app (cs y : List UInt8) (c : UInt8) (hc : cs.contains c = true) : ∀ x : List UInt8, cutAny (x ++ c :: y) cs = cutAny x cs ∧ cutAny x cs ≤ x.length
  | [] => by
    rw [List.nil_append, cutAny_cons, if_pos hc]; exact ⟨rfl, Nat.zero_le _⟩
  | d :: x => by
    obtain ⟨h1, h2⟩ := cutAny_app cs y c hc x
    rw [List.cons_append, cutAny_cons, cutAny_cons, h1]
    refine ⟨rfl, ?_⟩
    by_cases h : cs.contains d = true
    · rw [if_pos h]; exact Nat.zero_le _
    · rw [if_neg h]; simp; omega
theorem take_app {cs : List UInt8} (x y : List UInt8) (c : UInt8) (hc : cs.contains c = true) : (x ++ c :: y).take (cutAny (x ++ c :: y) cs) = x.take (cutAny x cs) ∧ (x ++ c :: y).drop (cutAny (x ++ c :: y) cs) = x.drop (cutAny x cs) ++ c :: y := by
  obtain ⟨h1, h2⟩ := cutAny_app cs y c hc x
  rw [h1]
  exact ⟨List.take_append_of_le_length h2, List.drop_append_of_le_length h2⟩
theorem pathOf_app (x y : List UInt8) (c : UInt8) (hc : ([63, 35] : List UInt8).contains c = true) : pathOf (x ++ c :: y) = pathOf x := by
  unfold pathOf
  rw [(take_app x y c hc).1]
theorem restL_app (safe : Bool) (r y : List UInt8) (c : UInt8) (hc : ([63, 35] : List UInt8).contains c = true) : restL safe (r ++ c :: y) = restL safe r := by
  have hc3 : ([47, 63, 35] : List UInt8).contains c = true := by
    simp only [List.contains_iff_mem] at hc ⊢
    exact List.mem_cons_of_mem _ hc
  obtain ⟨h1, h2⟩ := take_app (cs := [47, 63, 35]) r y c hc3
  unfold restL
  dsimp only
  rw [h1, h2, pathOf_app _ _ _ hc]
theorem afterB_app {s f : List UInt8} (t : List UInt8) (h : afterB s f = true) : afterB (s ++ t) f = true ∧ f.length ≤ s.length := by
  unfold afterB at h ⊢
  simp only [Bool.and_eq_true, decide_eq_true_eq] at h ⊢
  obtain ⟨h1, h2⟩ := h
  rw [List.take_append_of_le_length h1]
  exact ⟨⟨by simp; omega, h2⟩, h1⟩
theorem both_no {s : List UInt8} (h : afterB s httpT = true) : afterB s httpsT = false := by
  unfold afterB at h ⊢
  simp only [Bool.and_eq_true, decide_eq_true_eq] at h
  obtain ⟨h1, h2⟩ := h
  have h7 : 7 ≤ s.length := h1
  unfold sameB at h2
  rw [beq_iff_eq] at h2
  have h5 : ((lowerL (s.take httpT.length)).drop 4).head? = some 58 := by rw [h2]; decide +kernel
  cases hx : (decide (httpsT.length ≤ s.length) && sameB (s.take httpsT.length) httpsT)
  · rfl
  · exfalso
    simp only [Bool.and_eq_true, decide_eq_true_eq] at hx
    obtain ⟨_, h3⟩ := hx
    unfold sameB at h3
    rw [beq_iff_eq] at h3
    have h6 : ((lowerL (s.take httpsT.length)).drop 4).head? = some 115 := by rw [h3]; decide +kernel
    unfold lowerL at h5 h6
    rw [← List.map_drop, List.head?_map, show httpT.length = 7 from rfl, List.head?_drop, List.getElem?_take, if_pos (by decide)] at h5
    rw [← List.map_drop, List.head?_map, show httpsT.length = 8 from rfl, List.head?_drop, List.getElem?_take, if_pos (by decide)] at h6
    rw [h5] at h6
    cases h6
theorem urlOut_app {s y : List UInt8} {c : UInt8} (hc : ([63, 35] : List UInt8).contains c = true) (h : (urlOut s).1 = 0) : urlOut (s ++ c :: y) = urlOut s := by
  unfold urlOut at h ⊢
  cases h1 : afterB s httpsT
  · rw [h1, if_neg (by decide)] at h
    cases h2 : afterB s httpT
    · rw [h2, if_neg (by decide)] at h; cases h
    · obtain ⟨a1, a2⟩ := afterB_app (c :: y) h2
      rw [if_neg (by rw [both_no a1]; decide), if_pos a1, if_neg (by decide), if_pos rfl]
      rw [List.drop_append_of_le_length (show 7 ≤ s.length from a2), restL_app _ _ _ _ hc]
  · obtain ⟨a1, a2⟩ := afterB_app (c :: y) h1
    rw [if_pos a1, if_pos rfl]
    rw [List.drop_append_of_le_length (show 8 ≤ s.length from a2), restL_app _ _ _ _ hc]
theorem urlOut_bad {s : List UInt8} (h : (urlOut s).1 ≠ 0) : (urlOut s).2 = (false, zeroH, 0, []) := by
  unfold urlOut at h ⊢
  have key : ∀ safe x, (outOf safe x).1 ≠ 0 → (outOf safe x).2 = (false, zeroH, 0, []) := by
    intro safe x hx
    unfold outOf at hx ⊢
    by_cases h0 : x.1 = 0
    · rw [if_pos h0] at hx; exact absurd rfl hx
    · rw [if_neg h0]
  cases h1 : afterB s httpsT
  · rw [h1, if_neg (by decide)] at h
    rw [if_neg (by decide)]
    cases h2 : afterB s httpT
    · rfl
    · rw [h2, if_pos rfl] at h
      rw [if_pos rfl]
      exact key _ _ h
  · rw [h1, if_pos rfl] at h
    rw [if_pos rfl]
    exact key _ _ h
theorem place_bd (q : List UInt8) (port : Int) (h0 : 0 ≤ port ∧ port ≤ 65535) : 0 ≤ (placeL q port).2.2 ∧ (placeL q port).2.2 ≤ 65535 := by
  unfold placeL
  dsimp only
  split
  · exact ⟨by decide, by decide⟩
  · split
    · exact h0
    · split
      · exact ⟨by decide, by decide⟩
      · rename_i h
        simp only [not_or] at h
        dsimp only
        omega
theorem rest_bd (safe : Bool) (r : List UInt8) : (0 ≤ (restL safe r).2.2.1 ∧ (restL safe r).2.2.1 ≤ 65535) ∧ (restL safe r).2.2.2.length ≤ 2048 := by
  unfold restL
  dsimp only
  split
  · exact ⟨⟨Int.le_refl _, (by decide : (0 : Int) ≤ 65535)⟩, Nat.zero_le _⟩
  · split
    · exact ⟨⟨Int.le_refl _, (by decide : (0 : Int) ≤ 65535)⟩, Nat.zero_le _⟩
    · rename_i h
      dsimp only
      refine ⟨place_bd _ _ (by cases safe <;> exact ⟨by decide, by decide⟩), ?_⟩
      exact (path_byte (Bool.not_eq_false _ ▸ h : pathOk _ = true)).2.1
theorem out_bd (safe : Bool) (x : Int × GHost × Int × List UInt8) (h : (0 ≤ x.2.2.1 ∧ x.2.2.1 ≤ 65535) ∧ x.2.2.2.length ≤ 2048) : (0 ≤ (outOf safe x).2.2.2.1 ∧ (outOf safe x).2.2.2.1 ≤ 65535) ∧ (outOf safe x).2.2.2.2.length ≤ 2048 := by
  unfold outOf
  split
  · exact h
  · exact ⟨⟨Int.le_refl _, (by decide : (0 : Int) ≤ 65535)⟩, Nat.zero_le _⟩
theorem urlOut_bd (s : List UInt8) : (0 ≤ (urlOut s).2.2.2.1 ∧ (urlOut s).2.2.2.1 ≤ 65535) ∧ (urlOut s).2.2.2.2.length ≤ 2048 := by
  unfold urlOut
  split
  · exact out_bd _ _ (rest_bd _ _)
  · split
    · exact out_bd _ _ (rest_bd _ _)
    · exact ⟨⟨Int.le_refl _, (by decide : (0 : Int) ≤ 65535)⟩, Nat.zero_le _⟩
theorem wf_port {n : Int} (h : 0 ≤ n ∧ n ≤ 65535) : (Lit.int .i64 n).wf = true := by
  have e1 : IntKind.i64.min = -9223372036854775808 := rfl
  have e2 : IntKind.i64.max = 9223372036854775807 := rfl
  simp only [Lit.wf, e1, e2, Bool.and_eq_true, decide_eq_true_eq]
  omega
set_option maxHeartbeats 4000000 in
theorem urlDrops_law (s more : List UInt8) (hs : s.length ≤ maxLen) (hmo : more.length ≤ maxLen) (m : Int) (w : World) (hm : HasMax m w) :
    Calls Tryd.prog 5 #[.string ⟨s.toArray⟩, .string ⟨more.toArray⟩] w fun e w' => e = .returned (.bool true) ∧ Below w.heap.size w w' := by
  unfold maxLen at hs hmo
  by_cases h1 : (2000 : Int) < s.length
  · go_enter Tryd.func5, Tryd.ntmps5
    go_wp2_with (go_at_call 8; refine (urlAlive_any m _ (by repeat (first | exact hm | apply HasMax.grown | apply HasMax.alloc | apply HasMax.drew))).mono ?_; rintro e w1 ⟨rfl, hb1⟩; obtain ⟨p1, rfl⟩ := grown_of hb1; clear hb1)
    go_ret
    exact ⟨rfl, (by repeat (first | exact Below.refl _ _ | assumption | refine below_grown ?_ (by first | omega | (simp [go_sem]; done) | (simp [go_sem] <;> omega)) _ | refine Below.alloc ?_ (by first | omega | (simp [go_sem]; done) | (simp [go_sem] <;> omega)) _ | refine below_bytesW ?_ (by first | omega | (simp [go_sem]; done) | (simp [go_sem] <;> omega)) _ | refine Below.drew ?_ | refine below_drewN ?_ _))⟩
  · by_cases h2 : (500 : Int) < more.length
    · go_enter Tryd.func5, Tryd.ntmps5
      go_wp2_with (go_at_call 8; refine (urlAlive_any m _ (by repeat (first | exact hm | apply HasMax.grown | apply HasMax.alloc | apply HasMax.drew))).mono ?_; rintro e w1 ⟨rfl, hb1⟩; obtain ⟨p1, rfl⟩ := grown_of hb1; clear hb1)
      go_ret
      exact ⟨rfl, (by repeat (first | exact Below.refl _ _ | assumption | refine below_grown ?_ (by first | omega | (simp [go_sem]; done) | (simp [go_sem] <;> omega)) _ | refine Below.alloc ?_ (by first | omega | (simp [go_sem]; done) | (simp [go_sem] <;> omega)) _ | refine below_bytesW ?_ (by first | omega | (simp [go_sem]; done) | (simp [go_sem] <;> omega)) _ | refine Below.drew ?_ | refine below_drewN ?_ _))⟩
    · have HP : Hid (∀ w, HasMax m w → Calls Tryd.prog 7 #[.string ⟨s.toArray⟩] w fun e w' => e = .returned (.tuple #[.agg (urlV (urlOut s).2.1 (urlOut s).2.2.1 (urlOut s).2.2.2.1 (urlOut s).2.2.2.2), .int .i64 (urlOut s).1]) ∧ Below w.heap.size w w') := fun w x => parseU_any s (by omega) m w x
      have HQ : Hid (∀ w, HasMax m w → Calls Tryd.prog 7 #[.string ⟨(s ++ 63 :: more).toArray⟩] w fun e w' => e = .returned (.tuple #[.agg (uV (urlOut (s ++ 63 :: more)).2), .int .i64 (urlOut (s ++ 63 :: more)).1]) ∧ Below w.heap.size w w') := fun w x => parseU_any (s ++ 63 :: more) (by simp; omega) m w x
      have HR : Hid (∀ w, HasMax m w → Calls Tryd.prog 7 #[.string ⟨(s ++ 35 :: more).toArray⟩] w fun e w' => e = .returned (.tuple #[.agg (uV (urlOut (s ++ 35 :: more)).2), .int .i64 (urlOut (s ++ 35 :: more)).1]) ∧ Below w.heap.size w w') := fun w x => parseU_any (s ++ 35 :: more) (by simp; omega) m w x
      have hbd := urlOut_bd s
      have hwf := wf_port hbd.1
      have hpl : (urlOut s).2.2.2.2.length ≤ maxLen := by unfold maxLen; omega
      clear hbd
      have hwf0 : (Lit.int .i64 0).wf = true := rfl
      have hpl0 : ([] : List UInt8).length ≤ maxLen := by decide
      by_cases hE : (urlOut s).1 = 0
      · rw [urlOut_app rfl hE] at HQ
        rw [urlOut_app rfl hE] at HR
        rw [hE] at HP HQ HR
        clear hE
        unfold uV at HQ HR
        generalize (urlOut s).2.2.2.2 = pa at *
        generalize (urlOut s).2.2.2.1 = po at *
        generalize (urlOut s).2.2.1 = H at *
        generalize (urlOut s).2.1 = se at *
        have he : hostEq H H = true := (hostEq_iff _ _).2 rfl
        have n1 : ¬ 9223372036854775807 < s.length + 1 := by omega
        have n2 : ¬ 9223372036854775807 < s.length + 1 + more.length := by omega
        have n3 : ¬ 9223372036854775807 < s.length + (1 + more.length) := by omega
        go_enter Tryd.func5, Tryd.ntmps5
        go_wp2_with (first
          | (go_at_call 8; refine (urlAlive_any m _ (by repeat (first | exact hm | apply HasMax.grown | apply HasMax.alloc | apply HasMax.drew))).mono ?_; rintro e w1 ⟨rfl, hb1⟩; obtain ⟨p1, rfl⟩ := grown_of hb1; clear hb1)
          | (go_at_call 7; (with_reducible refine (HP.out _ ?_).mono ?_); (exact (by repeat (first | exact hm | apply HasMax.grown | apply HasMax.alloc | apply HasMax.drew))); rintro e w1 ⟨rfl, hb1⟩; obtain ⟨p1, rfl⟩ := grown_of hb1; clear hb1)
          | (go_at_call 7; (with_reducible refine (HQ.out _ ?_).mono ?_); (exact (by repeat (first | exact hm | apply HasMax.grown | apply HasMax.alloc | apply HasMax.drew))); rintro e w1 ⟨rfl, hb1⟩; obtain ⟨p1, rfl⟩ := grown_of hb1; clear hb1)
          | (go_at_call 7; (with_reducible refine (HR.out _ ?_).mono ?_); (exact (by repeat (first | exact hm | apply HasMax.grown | apply HasMax.alloc | apply HasMax.drew))); rintro e w1 ⟨rfl, hb1⟩; obtain ⟨p1, rfl⟩ := grown_of hb1; clear hb1))
        go_ret
        exact ⟨by first | rfl | exact ret_bool (by simp), (by repeat (first | exact Below.refl _ _ | assumption | refine below_grown ?_ (by first | omega | (simp [go_sem]; done) | (simp [go_sem] <;> omega)) _ | refine Below.alloc ?_ (by first | omega | (simp [go_sem]; done) | (simp [go_sem] <;> omega)) _ | refine below_bytesW ?_ (by first | omega | (simp [go_sem]; done) | (simp [go_sem] <;> omega)) _ | refine Below.drew ?_ | refine below_drewN ?_ _))⟩
      · have hb := urlOut_bad hE
        rw [hb] at HP hwf hpl
        have he : hostEq zeroH zeroH = true := (hostEq_iff _ _).2 rfl
        have hE' : ((urlOut s).1 != 0) = true := by simpa using hE
        generalize (urlOut s).1 = E at *
        clear hE hb HQ HR
        go_enter Tryd.func5, Tryd.ntmps5
        go_wp2_with (first
          | (go_at_call 8; refine (urlAlive_any m _ (by repeat (first | exact hm | apply HasMax.grown | apply HasMax.alloc | apply HasMax.drew))).mono ?_; rintro e w1 ⟨rfl, hb1⟩; obtain ⟨p1, rfl⟩ := grown_of hb1; clear hb1)
          | (go_at_call 7; (with_reducible refine (HP.out _ ?_).mono ?_); (exact (by repeat (first | exact hm | apply HasMax.grown | apply HasMax.alloc | apply HasMax.drew))); rintro e w1 ⟨rfl, hb1⟩; obtain ⟨p1, rfl⟩ := grown_of hb1; clear hb1))
        go_ret
        exact ⟨by first | rfl | exact ret_bool (by simp), (by repeat (first | exact Below.refl _ _ | assumption | refine below_grown ?_ (by first | omega | (simp [go_sem]; done) | (simp [go_sem] <;> omega)) _ | refine Below.alloc ?_ (by first | omega | (simp [go_sem]; done) | (simp [go_sem] <;> omega)) _ | refine below_bytesW ?_ (by first | omega | (simp [go_sem]; done) | (simp [go_sem] <;> omega)) _ | refine Below.drew ?_ | refine below_drewN ?_ _))⟩
end Go.Proofs.YtfnhkpfkaiamjaaDoor
