/- The walk of the statement UrlPaths. -/
import Derived.Test.YtfnhkpfkaiamjaaDoorUrlParseg
namespace Go.Proofs.YtfnhkpfkaiamjaaDoor
open Go Go.RowKit
set_option maxRecDepth 20000
set_option linter.unusedSimpArgs false
set_option linter.unusedVariables false

theorem place_port {q n b : List UInt8} {port : Int} (h : cutHP q = (n, 58 :: b)) (h1 : parseOk n = true) (h2 : numOk b = true) (h3 : 1 ≤ numV b) (h4 : numV b ≤ 65535) : placeL q port = (0, parseH n, numV b) := by
  rw [place_eq, h]
  dsimp only
  rw [if_neg (by rw [h1]; simp), if_neg (by simp), if_neg (by rw [show ((58 : UInt8) :: b).tail = b from rfl, h2]; simp; omega)]
  rfl
theorem place_plain {q n : List UInt8} {port : Int} (h : cutHP q = (n, [])) (h1 : parseOk n = true) : placeL q port = (0, parseH n, port) := by
  rw [place_eq, h]
  dsimp only
  rw [if_neg (by rw [h1]; simp), if_pos rfl]
theorem out_good {safe : Bool} {r : List UInt8} {H : GHost} {P : Int} {pa : List UInt8} (hp : placeL (r.take (cutAny r [47, 63, 35])) (usualP safe) = (0, H, P)) (hpa : pathOf (r.drop (cutAny r [47, 63, 35])) = pa) (hok : pathOk pa = true) : outOf safe (restL safe r) = (0, safe, H, P, pa) := by
  rcases rest_cases safe r with ⟨h, _⟩ | ⟨_, h, _⟩ | ⟨_, _, h⟩
  · rw [hp] at h; exact absurd rfl h
  · rw [hpa, hok] at h; cases h
  · rw [h, hp, hpa]
def exU : List UInt8 := [72, 84, 84, 80, 83, 58, 47, 47, 65, 46, 99, 111, 109, 58, 56, 52, 52, 51, 63, 120]
def exN1 : List UInt8 := [65, 46, 99, 111, 109]
def exN2 : List UInt8 := [97, 46, 99, 111, 109]
theorem exU_plain : afterB exU httpsT = true ∧ exU.all asc = true ∧ cutHP ((exU.drop 8).take (cutAny (exU.drop 8) [47, 63, 35])) = (exN1, 58 :: [56, 52, 52, 51]) ∧ numOk [56, 52, 52, 51] = true ∧ numV [56, 52, 52, 51] = 8443 ∧ pathOf ((exU.drop 8).drop (cutAny (exU.drop 8) [47, 63, 35])) = [47] ∧ pathOk [47] = true ∧ six exN1 = false ∧ lastD exN1 = false ∧ nameB exN1 = true ∧ lowerL exN1 = exN2 := by decide +kernel
theorem exU_out : urlOut exU = (0, true, nameH exN2, 8443, [47]) := by
  obtain ⟨h1, h2, h3, h4, h5, h6, h7, h8, h9, h10, h11⟩ := exU_plain
  obtain ⟨q1, q2⟩ := parse_name h8 h9 h10
  rw [h11] at q1
  have hp := place_port (port := usualP true) h3 (by rw [parseOk_name h8 h9]; exact h10) h4 (by rw [h5]; decide) (by rw [h5]; decide)
  rw [q1, h5] at hp
  unfold urlOut
  rw [if_pos h1]
  exact out_good hp h6 h7
set_option maxHeartbeats 1000000 in
theorem urlAlive_any (m : Int) (w : World) (hm : HasMax m w) :
    Calls Tryd.prog 8 #[] w fun e w' => e = .returned (.bool true) ∧ Below w.heap.size w w' := by
  have HP : Hid (∀ w, HasMax m w → Calls Tryd.prog 7 #[.string ⟨exU.toArray⟩] w fun e w' => e = .returned (.tuple #[.agg (urlV true (nameH exN2) 8443 [47]), .int .i64 0]) ∧ Below w.heap.size w w') := fun w hm => by
    have := parseU_any exU (by decide) m w hm
    rw [exU_out] at this
    exact this
  have hV : nameV exN2 = hostC (nameH exN2) := nameV_eq (by decide)
  have he : hostEq (nameH exN2) (nameH exN2) = true := (hostEq_iff _ _).2 rfl
  have hwf : (Lit.int .i64 8443).wf = true := rfl
  have hl1 : ([47] : List UInt8).length ≤ maxLen := by decide
  have hl2 : 1 ≤ maxLen := by decide
  generalize nameH exN2 = H at *
  unfold exN2 at hV
  unfold exU at HP
  go_enter Tryd.func8, Tryd.ntmps8
  go_wp2_with (go_at_call 7; refine (HP.out _ (by repeat (first | exact hm | apply HasMax.grown | apply HasMax.alloc | apply HasMax.drew))).mono ?_; rintro e w1 ⟨rfl, hb1⟩; obtain ⟨p1, rfl⟩ := grown_of hb1; clear hb1)
  go_ret
  exact ⟨by first | rfl | exact ret_bool (by simp), (by repeat (first | exact Below.refl _ _ | assumption | refine below_grown ?_ (by first | omega | (simp [go_sem]; done) | (simp [go_sem] <;> omega)) _ | refine Below.alloc ?_ (by first | omega | (simp [go_sem]; done) | (simp [go_sem] <;> omega)) _ | refine below_bytesW ?_ (by first | omega | (simp [go_sem]; done) | (simp [go_sem] <;> omega)) _ | refine Below.drew ?_ | refine below_drewN ?_ _))⟩
theorem ixAny_app (cs y : List UInt8) : ∀ x : List UInt8, (∀ c ∈ x, cs.contains c = false) → Lib.indexAny (x ++ y) cs = if Lib.indexAny y cs = -1 then -1 else Lib.indexAny y cs + x.length
  | [], _ => by
    by_cases h : Lib.indexAny y cs = -1
    · simp [h]
    · simp [h]
  | c :: x, hx => by
    have ih := ixAny_app cs y x (fun d hd => hx d (by simp [hd]))
    have hc := hx c (by simp)
    have hge := (ixAny_bd y cs).1
    rw [List.cons_append, Lib.indexAny, hc, ih]
    by_cases h : Lib.indexAny y cs = -1
    · simp [h]
    · rw [if_neg h, if_neg h]
      have : ¬ ((Lib.indexAny y cs + (x.length : Int)) == -1) = true := by rw [beq_iff_eq]; omega
      rw [if_neg this]
      simp; omega
theorem cut_at (x y cs : List UInt8) (c : UInt8) (hx : ∀ c ∈ x, cs.contains c = false) (hc : cs.contains c = true) : (x ++ c :: y).take (cutAny (x ++ c :: y) cs) = x ∧ (x ++ c :: y).drop (cutAny (x ++ c :: y) cs) = c :: y := by
  have h0 : Lib.indexAny (c :: y) cs = 0 := by rw [Lib.indexAny, hc]; rfl
  have h := ixAny_app cs (c :: y) x hx
  rw [h0, if_neg (by decide)] at h
  have e : cutAny (x ++ c :: y) cs = x.length := by
    unfold cutAny
    rw [h, if_pos (by omega)]; omega
  rw [e]
  exact ⟨List.take_left, List.drop_left⟩
theorem cut_no (x cs : List UInt8) (hx : ∀ c ∈ x, cs.contains c = false) : x.take (cutAny x cs) = x := by
  have h := ixAny_app cs [] x hx
  rw [List.append_nil, show Lib.indexAny [] cs = -1 from rfl, if_pos rfl] at h
  have e : cutAny x cs = x.length := by unfold cutAny; rw [h, if_neg (by decide)]
  rw [e, List.take_length]
theorem pathC_split {c : UInt8} (h : pathC c = true) : c ≠ 63 ∧ c ≠ 35 ∧ asc c = true := by
  have key : ∀ i : Fin 256, pathC (UInt8.ofNat i.val) = true → UInt8.ofNat i.val ≠ 63 ∧ UInt8.ofNat i.val ≠ 35 ∧ asc (UInt8.ofNat i.val) = true := by decide +kernel
  have := key ⟨c.toNat, c.toNat_lt⟩
  simp only [UInt8.ofNat_toNat] at this
  exact this h
theorem path_back {pa : List UInt8} (h : pathOk pa = true) : pathOf pa = pa := by
  obtain ⟨h1, _, _, ha⟩ := path_byte h
  have e := cut_no pa [63, 35] (fun c hc => by
    obtain ⟨a, b, _⟩ := pathC_split (List.all_eq_true.1 ha c hc)
    simp [a, b])
  unfold pathOf
  rw [e, if_neg (List.length_pos_iff.1 (by omega))]
def behind (s : List UInt8) : List UInt8 := [104, 116, 116, 112, 58, 47, 47, 97] ++ s
theorem a_plain : cutHP [97] = ([97], []) ∧ parseOk [97] = true := by decide +kernel
theorem behind_out (s : List UInt8) : urlOut (behind s) = outOf false (restL false (97 :: s)) := by
  have h1 : afterB (behind s) httpsT = false := rfl
  have h2 : afterB (behind s) httpT = true := by
    unfold afterB
    rw [decide_eq_true (by simp [behind, httpT])]
    rfl
  unfold urlOut
  rw [h1, if_neg (by decide), h2, if_pos rfl]
  rfl
theorem paths_yes {s : List UInt8} (h : pathOk s = true) : urlOut (behind s) = (0, false, parseH [97], 80, s) := by
  obtain ⟨l1, _, hd, _⟩ := path_byte h
  obtain ⟨c, t, hct⟩ := List.exists_cons_of_ne_nil (List.length_pos_iff.1 (by omega : 0 < s.length))
  obtain rfl : c = 47 := by rw [hct] at hd; exact hd
  obtain ⟨c1, c2⟩ := cut_at [97] t [47, 63, 35] 47 (by decide) (by decide)
  rw [← hct] at c1 c2
  have hpl : placeL [97] (usualP false) = (0, parseH [97], 80) := place_plain a_plain.1 a_plain.2
  have hp2 : placeL (([97] ++ s).take (cutAny ([97] ++ s) [47, 63, 35])) (usualP false) = (0, parseH [97], 80) := by rw [c1]; exact hpl
  have hp3 : pathOf (([97] ++ s).drop (cutAny ([97] ++ s) [47, 63, 35])) = s := by rw [c2]; exact path_back h
  have hfin := out_good hp2 hp3 h
  rw [behind_out, show (97 :: s) = [97] ++ s from rfl]
  exact hfin
theorem paths_no {s : List UInt8} (h : pathOk s = false) : ((urlOut (behind s)).1 != 0) = true ∨ ((urlOut (behind s)).2.2.2.2 != s) = true := by
  rw [behind_out]
  rcases rest_cases false (97 :: s) with ⟨h1, h2⟩ | ⟨_, _, h2⟩ | ⟨_, h1, h2⟩
  · rw [h2]; exact .inl (by simpa using h1)
  · rw [h2]; exact .inl rfl
  · rw [h2]
    refine .inr ?_
    rw [bne_iff_ne]
    intro e
    dsimp only at e
    rw [e, h] at h1; cases h1
@[go_sem] theorem uVp_size (x : Bool × GHost × Int × List UInt8) : (uV x).size = 21 := urlV_size _ _ _ _
@[go_sem] theorem uVp_one (x : Bool × GHost × Int × List UInt8) : allOne (uV x) = true := urlV_one _ _ _ _
@[go_sem ↓ high] theorem uVp_20 (x : Bool × GHost × Int × List UInt8) : (uV x)[20]? = some (.string ⟨x.2.2.2.toArray⟩) := urlV_20 _ _ _ _
set_option maxHeartbeats 2000000 in
theorem urlPaths_law (s : List UInt8) (hs : s.length ≤ maxLen) (m : Int) (w : World) (hm : HasMax m w) :
    Calls Tryd.prog 6 #[.string ⟨s.toArray⟩] w fun e w' => e = .returned (.bool true) ∧ Below w.heap.size w w' := by
  unfold maxLen at hs
  by_cases h1 : (3000 : Int) < s.length
  · go_enter Tryd.func6, Tryd.ntmps6
    go_wp2_with (go_at_call 8; refine (urlAlive_any m _ (by repeat (first | exact hm | apply HasMax.grown | apply HasMax.alloc | apply HasMax.drew))).mono ?_; rintro e w1 ⟨rfl, hb1⟩; obtain ⟨p1, rfl⟩ := grown_of hb1; clear hb1)
    go_ret
    exact ⟨rfl, (by repeat (first | exact Below.refl _ _ | assumption | refine below_grown ?_ (by first | omega | (simp [go_sem]; done) | (simp [go_sem] <;> omega)) _ | refine Below.alloc ?_ (by first | omega | (simp [go_sem]; done) | (simp [go_sem] <;> omega)) _ | refine below_bytesW ?_ (by first | omega | (simp [go_sem]; done) | (simp [go_sem] <;> omega)) _ | refine Below.drew ?_ | refine below_drewN ?_ _))⟩
  · have HP : Hid (∀ w, HasMax m w → Calls Tryd.prog 7 #[.string ⟨([104, 116, 116, 112, 58, 47, 47, 97] ++ s).toArray⟩] w fun e w' => e = .returned (.tuple #[.agg (uV (urlOut (behind s)).2), .int .i64 (urlOut (behind s)).1]) ∧ Below w.heap.size w w') := fun w x => parseU_any (behind s) (by simp [behind]; omega) m w x
    have HK := Lib.hid (fun w => urlPath_any s (by unfold maxLen; omega) w)
    have hn : ¬ 9223372036854775807 < 8 + s.length := by omega
    have hn' : ¬ 9223372036854775807 < s.length + 8 := by omega
    cases hp : pathOk s
    · rw [hp] at HK
      have hno := paths_no hp
      generalize (urlOut (behind s)).2 = v at *
      generalize (urlOut (behind s)).1 = E at *
      obtain ⟨q, hq⟩ : ∃ q, (E != 0) = q := ⟨_, rfl⟩
      rw [hq] at hno
      have HNO := Lib.hid hno
      clear hno
      cases q
      · have hq2 : (v.2.2.2 != s) = true := by rcases HNO.out with h | h; cases h; exact h
        go_enter Tryd.func6, Tryd.ntmps6
        go_wp2_with (first
          | (go_at_call 8; refine (urlAlive_any m _ (by repeat (first | exact hm | apply HasMax.grown | apply HasMax.alloc | apply HasMax.drew))).mono ?_; rintro e w1 ⟨rfl, hb1⟩; obtain ⟨p1, rfl⟩ := grown_of hb1; clear hb1)
          | (go_at_call 7; refine (HP.out _ (by repeat (first | exact hm | apply HasMax.grown | apply HasMax.alloc | apply HasMax.drew))).mono ?_; rintro e w1 ⟨rfl, hb1⟩; obtain ⟨p1, rfl⟩ := grown_of hb1; clear hb1)
          | (go_at_call 10; refine (HK.out _).mono ?_; rintro e w1 ⟨rfl, hb1⟩; obtain ⟨p1, rfl⟩ := grown_of hb1; clear hb1))
        go_ret
        exact ⟨by first | rfl | exact ret_bool (by simpa using hq2), (by repeat (first | exact Below.refl _ _ | assumption | refine below_grown ?_ (by first | omega | (simp [go_sem]; done) | (simp [go_sem] <;> omega)) _ | refine Below.alloc ?_ (by first | omega | (simp [go_sem]; done) | (simp [go_sem] <;> omega)) _ | refine below_bytesW ?_ (by first | omega | (simp [go_sem]; done) | (simp [go_sem] <;> omega)) _ | refine Below.drew ?_ | refine below_drewN ?_ _))⟩
      · go_enter Tryd.func6, Tryd.ntmps6
        go_wp2_with (first
          | (go_at_call 8; refine (urlAlive_any m _ (by repeat (first | exact hm | apply HasMax.grown | apply HasMax.alloc | apply HasMax.drew))).mono ?_; rintro e w1 ⟨rfl, hb1⟩; obtain ⟨p1, rfl⟩ := grown_of hb1; clear hb1)
          | (go_at_call 7; refine (HP.out _ (by repeat (first | exact hm | apply HasMax.grown | apply HasMax.alloc | apply HasMax.drew))).mono ?_; rintro e w1 ⟨rfl, hb1⟩; obtain ⟨p1, rfl⟩ := grown_of hb1; clear hb1)
          | (go_at_call 10; refine (HK.out _).mono ?_; rintro e w1 ⟨rfl, hb1⟩; obtain ⟨p1, rfl⟩ := grown_of hb1; clear hb1))
        go_ret
        exact ⟨by first | rfl | exact ret_bool (by simp), (by repeat (first | exact Below.refl _ _ | assumption | refine below_grown ?_ (by first | omega | (simp [go_sem]; done) | (simp [go_sem] <;> omega)) _ | refine Below.alloc ?_ (by first | omega | (simp [go_sem]; done) | (simp [go_sem] <;> omega)) _ | refine below_bytesW ?_ (by first | omega | (simp [go_sem]; done) | (simp [go_sem] <;> omega)) _ | refine Below.drew ?_ | refine below_drewN ?_ _))⟩
    · rw [hp] at HK
      rw [paths_yes hp] at HP
      have hl := (path_byte hp).2.1
      have hl' : (s.length : Int) ≤ 2048 := by omega
      go_enter Tryd.func6, Tryd.ntmps6
      go_wp2_with (first
        | (go_at_call 8; refine (urlAlive_any m _ (by repeat (first | exact hm | apply HasMax.grown | apply HasMax.alloc | apply HasMax.drew))).mono ?_; rintro e w1 ⟨rfl, hb1⟩; obtain ⟨p1, rfl⟩ := grown_of hb1; clear hb1)
        | (go_at_call 7; refine (HP.out _ (by repeat (first | exact hm | apply HasMax.grown | apply HasMax.alloc | apply HasMax.drew))).mono ?_; rintro e w1 ⟨rfl, hb1⟩; obtain ⟨p1, rfl⟩ := grown_of hb1; clear hb1)
        | (go_at_call 10; refine (HK.out _).mono ?_; rintro e w1 ⟨rfl, hb1⟩; obtain ⟨p1, rfl⟩ := grown_of hb1; clear hb1))
      go_ret
      exact ⟨by first | rfl | exact ret_bool (by simp), (by repeat (first | exact Below.refl _ _ | assumption | refine below_grown ?_ (by first | omega | (simp [go_sem]; done) | (simp [go_sem] <;> omega)) _ | refine Below.alloc ?_ (by first | omega | (simp [go_sem]; done) | (simp [go_sem] <;> omega)) _ | refine below_bytesW ?_ (by first | omega | (simp [go_sem]; done) | (simp [go_sem] <;> omega)) _ | refine Below.drew ?_ | refine below_drewN ?_ _))⟩
end Go.Proofs.YtfnhkpfkaiamjaaDoor
