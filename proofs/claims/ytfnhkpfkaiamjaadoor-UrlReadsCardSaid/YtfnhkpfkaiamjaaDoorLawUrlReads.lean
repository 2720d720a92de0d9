/- The walks of the document's Parse of URLs, and of the statement UrlReads. -/
import Derived.Test.YtfnhkpfkaiamjaaDoorUrlFind
import Derived.Deep.DeepCutAuto
namespace Go.Proofs.YtfnhkpfkaiamjaaDoor
open Go Go.RowKit
set_option maxRecDepth 20000
set_option linter.unusedSimpArgs false
set_option linter.unusedVariables false

theorem storeRow_part {P : Program} {t : TypeId} (w : World) (b o : Nat) (old : List Value) (cs : List Value) (h : isAggT P t = true) (hs : cs.length = P.cellsOf t) (hv : Var w b old) (ho : o + cs.length ≤ old.length) (h1 : ∀ v ∈ cs, v.oneCell' = true) :
    storeRow P w t (.pointer (some ⟨b, o, none⟩)) (.agg cs.toArray) = .ok .skip (w.setRow b (old.take o ++ cs ++ old.drop (o + cs.length)).toArray) := by
  obtain ⟨_, h2⟩ := isAggT_run h w
  obtain ⟨t', hh⟩ := hv
  have h3 : (Value.agg cs.toArray).cells = cs.toArray := rfl
  have := run_storeCells_at (P := P) b o t' cs 0 old.toArray w hh (by simpa using ho) h1
  simp only [storeRow, Instr.storeAt, Instr.sureAddr, storeVar, Sem.run_bind, Sem.run_pure, Result.andThen_ok, h2, h3, List.size_toArray, hs]
  simp only [Nat.add_zero, hs] at this
  simp [this, hs]
@[go_sem] theorem setCell_setRow (w : World) (b k : Nat) (cs : Array Value) (v : Value) : (w.setRow b cs).setCell ⟨b, k, none⟩ v = w.setRow b (cs.setIfInBounds k v) := by
  simp only [World.setRow, World.setCell]
  congr 1
  apply Array.ext_getElem?
  intro j
  simp only [Array.getElem?_modify]
  by_cases h : b = j
  · subst h
    simp only [if_true]
    cases hh : w.heap[b]? with
    | none => rfl
    | some o => cases o <;> rfl
  · simp only [if_neg h]
theorem below_setCell' {B : Nat} {w w2 : World} (h : Below B w w2) {a : Addr} (hB : B ≤ a.block) (v : Value) : Below B w (w2.setCell a v) :=
  ⟨h.os, h.tape, h.output, by have := h.size; simp [World.setCell]; exact this, fun k hk => by rw [setCell_other' w2 a v k (by omega)]; exact h.block k hk⟩
theorem urlR_set0 (se x : Bool) (h : GHost) (po : Int) (pa : List UInt8) : (urlR se h po pa).set 0 (.bool x) = urlR x h po pa := rfl
theorem urlR_set19 (se : Bool) (h : GHost) (po n : Int) (pa : List UInt8) : (urlR se h po pa).set 19 (.int .i64 n) = urlR se h n pa := by
  have : ∀ l : List Value, l.length = 18 → (([Value.bool se] : List Value) ++ (l ++ [Value.int .i64 po, Value.string ⟨pa.toArray⟩])).set 19 (Value.int .i64 n) = ([Value.bool se] : List Value) ++ (l ++ [Value.int .i64 n, Value.string ⟨pa.toArray⟩]) := by
    intro l hl
    obtain ⟨a, b, c, d, e, f, g, i, j, k, m, n, o, p, q, r, s, t, rfl⟩ := list18h l hl
    rfl
  exact this (hostL h) (hostL_length h)
theorem urlR_set20 (se : Bool) (h : GHost) (po : Int) (pa q : List UInt8) : (urlR se h po pa).set 20 (.string ⟨q.toArray⟩) = urlR se h po q := by
  have : ∀ l : List Value, l.length = 18 → (([Value.bool se] : List Value) ++ (l ++ [Value.int .i64 po, Value.string ⟨pa.toArray⟩])).set 20 (Value.string ⟨q.toArray⟩) = ([Value.bool se] : List Value) ++ (l ++ [Value.int .i64 po, Value.string ⟨q.toArray⟩]) := by
    intro l hl
    obtain ⟨a, b, c, d, e, f, g, i, j, k, m, n, o, p, q, r, s, t, rfl⟩ := list18h l hl
    rfl
  exact this (hostL h) (hostL_length h)
@[go_sem ↓ high] theorem urlV_set19 (se : Bool) (h : GHost) (po n : Int) (pa : List UInt8) : (urlV se h po pa).setIfInBounds 19 (.int .i64 n) = urlV se h n pa := by
  unfold urlV
  rw [List.setIfInBounds_toArray, urlR_set19]
@[go_sem ↓ high] theorem urlV_set20 (se : Bool) (h : GHost) (po : Int) (pa q : List UInt8) : (urlV se h po pa).setIfInBounds 20 (.string ⟨q.toArray⟩) = urlV se h po q := by
  unfold urlV
  rw [List.setIfInBounds_toArray, urlR_set20]
theorem var_https {w0 : World} {b : Nat} (h : Var w0 b (urlR false zeroH 80 [])) : Var ((w0.setCell ⟨b, 0, none⟩ (.bool true)).setCell ⟨b, 19, none⟩ (.int .i64 443)) b (urlR true zeroH 443 []) := by
  have := (h.setCell 0 (.bool true)).setCell 19 (.int .i64 443)
  rwa [urlR_set0, urlR_set19] at this
theorem urlR_host (se : Bool) (h H : GHost) (po : Int) (pa : List UInt8) : (urlR se h po pa).take 1 ++ hostL H ++ (urlR se h po pa).drop (1 + 18) = urlR se H po pa := by
  have : ∀ l l' : List Value, l.length = 18 → (([Value.bool se] : List Value) ++ (l ++ [Value.int .i64 po, Value.string ⟨pa.toArray⟩])).take 1 ++ l' ++ (([Value.bool se] : List Value) ++ (l ++ [Value.int .i64 po, Value.string ⟨pa.toArray⟩])).drop (1 + 18) = ([Value.bool se] : List Value) ++ (l' ++ [Value.int .i64 po, Value.string ⟨pa.toArray⟩]) := by
    intro l l' hl
    obtain ⟨a, b, c, d, e, f, g, i, j, k, m, n, o, p, q, r, s, t, rfl⟩ := list18h l hl
    simp
  exact this (hostL h) (hostL H) (hostL_length h)
theorem setCell_var' {w : World} {b : Nat} {cs : List Value} (h : Var w b cs) (k : Nat) (v : Value) : w.setCell ⟨b, k, none⟩ v = w.setRow b (cs.set k v).toArray := by
  obtain ⟨t, hh⟩ := h
  simp only [World.setRow, World.setCell]
  congr 1
  apply Array.ext_getElem?
  intro j
  simp only [Array.getElem?_modify]
  by_cases hj : b = j
  · subst hj
    simp [hh]
  · simp only [if_neg hj]
theorem setCell_path {w : World} {b : Nat} {se : Bool} {h : GHost} {po : Int} {p : List UInt8} (hv : Var w b (urlR se h po p)) (q : List UInt8) : w.setCell ⟨b, 20, none⟩ (.string ⟨q.toArray⟩) = w.setRow b (urlV se h po q) := by
  rw [setCell_var' hv, urlR_set20]; rfl
theorem storeHost_at (w : World) (b : Nat) (se : Bool) (H : GHost) (po : Int) (hv : Var w b (urlR se zeroH po [])) :
    storeRow Tryd.prog w 25 (.pointer (some ⟨b, 1, none⟩)) (.agg (hostC H)) = .ok .skip (w.setRow b (urlV se H po [])) := by
  have := storeRow_part (P := Tryd.prog) (t := 25) w b 1 (urlR se zeroH po []) (hostL H) agg_host (by rw [hostL_length]; kernel_rfl) hv (by rw [hostL_length, urlR_length]; decide) (host_one _)
  rw [hostL_length, urlR_host] at this
  exact this
theorem run_build_urlP (po : Int) (w : World) : (Instr.build 27 #[(2, .int .i64 po)]).run Tryd.prog w = .ok (.agg (urlV false zeroH po [])) w := by kernel_rfl
@[go_sem ↓ high] theorem run_op_build_urlP (ev : Operand → Value) (dst : Option Tmp) (x2 : Operand) (ty : TypeId) (pos : String) (af : Array Edge) (g : Option (Nat × Bool)) (w : World) :
    Sem.run Tryd.prog (execOp ev { dst := dst, op := .build 27 #[(2, x2)], type := ty, pos := pos, after := af, guard := g }) w = buildRow Tryd.prog w 27 #[(2, ev x2)] := by
  rw [run_op_build]
  simp
@[go_sem] theorem buildUrlP_at (po : Int) (w : World) : buildRow Tryd.prog w 27 #[(2, .int .i64 po)] = .ok (.value (.agg (urlV false zeroH po []))) w := by
  rw [buildRow, Sem.run_bind, run_build_urlP]
  rfl
/-! ### where the text of a host ends -/
def endOf (q : List UInt8) : Nat := if Lib.hasPrefix q [91] = true then min (cutAny q [93] + 1) q.length else cutAny q [58]
theorem endOf_len (q : List UInt8) : endOf q ≤ q.length := by
  unfold endOf
  split
  · omega
  · exact cutAny_len _ _
theorem cutHP_end (q : List UInt8) : cutHP q = (q.take (endOf q), q.drop (endOf q)) := by
  unfold endOf
  cases h : Lib.hasPrefix q [91]
  · rw [if_neg (by decide)]; exact cutHP_at q h
  · rw [if_pos rfl]; exact cutHP_six q h
theorem pre_at (q : List UInt8) : (q.length = 0 ∧ Lib.hasPrefix q [91] = false) ∨ (0 < q.length ∧ ∀ h, (((q[0]'h).toNat : Int) == 91) = Lib.hasPrefix q [91]) := by
  rcases Nat.eq_zero_or_pos q.length with h | h
  · refine .inl ⟨h, ?_⟩
    obtain rfl := List.length_eq_zero_iff.1 h
    rfl
  · refine .inr ⟨h, fun h => ?_⟩
    rw [u8_lit _ 91 91 rfl, ← six_at h]
    rfl
/-- The ways through Parse: the host, what stands behind it, the port, the path. -/
theorem parse_ways (se : Bool) (R q : List UInt8) (hq : R.take (cutAny R [47, 63, 35]) = q) :
    (parseE (q.take (endOf q)) ≠ 0 ∧ outOf se (restL se R) = (31, false, zeroH, 0, [])) ∨
    (parseE (q.take (endOf q)) = 0 ∧ (∃ c t, q.drop (endOf q) = c :: t ∧ c ≠ 58) ∧ outOf se (restL se R) = (31, false, zeroH, 0, [])) ∨
    (parseE (q.take (endOf q)) = 0 ∧ (∃ t, q.drop (endOf q) = 58 :: t ∧ (numOk t = false ∨ numV t < 1 ∨ 65535 < numV t)) ∧ outOf se (restL se R) = (42, false, zeroH, 0, [])) ∨
    (parseE (q.take (endOf q)) = 0 ∧ ∃ P, ((q.drop (endOf q) = [] ∧ P = usualP se) ∨ (∃ t, q.drop (endOf q) = 58 :: t ∧ numOk t = true ∧ ¬ numV t < 1 ∧ ¬ 65535 < numV t ∧ P = numV t)) ∧
      ((pathOk (pathOf (R.drop (cutAny R [47, 63, 35]))) = false ∧ outOf se (restL se R) = (43, false, zeroH, 0, [])) ∨
       (pathOk (pathOf (R.drop (cutAny R [47, 63, 35]))) = true ∧ outOf se (restL se R) = (0, se, parseH (q.take (endOf q)), P, pathOf (R.drop (cutAny R [47, 63, 35])))))) := by
  have hO := rest_cases se R
  rw [hq] at hO
  rw [place_eq, cutHP_end] at hO
  dsimp only at hO
  generalize q.take (endOf q) = n at *
  generalize q.drop (endOf q) = b at *
  generalize pathOf (R.drop (cutAny R [47, 63, 35])) = pa at *
  generalize outOf se (restL se R) = out at *
  rcases parseE_cases n with ⟨h1, h2⟩ | ⟨h1, h2⟩
  · have key : ∀ P, ((if parseOk n = false ∨ (b ≠ [] ∧ b.headD 0 ≠ 58) then ((31 : Int), zeroH, (0 : Int)) else if b = [] then (0, parseH n, usualP se) else if numOk b.tail = false ∨ numV b.tail < 1 ∨ 65535 < numV b.tail then (42, zeroH, 0) else (0, parseH n, numV b.tail)) = (0, parseH n, P)) → ((pathOk pa = false ∧ out = (43, false, zeroH, 0, [])) ∨ (pathOk pa = true ∧ out = (0, se, parseH n, P, pa))) := by
      intro P e
      rw [e] at hO
      dsimp only at hO
      rcases hO with ⟨h, _⟩ | ⟨_, h3, h4⟩ | ⟨_, h3, h4⟩
      · exact absurd rfl h
      · exact .inl ⟨h3, h4⟩
      · exact .inr ⟨h3, h4⟩
    cases b with
    | nil =>
      refine .inr (.inr (.inr ⟨h2, usualP se, .inl ⟨rfl, rfl⟩, key _ ?_⟩))
      rw [if_neg (by rw [h1]; simp), if_pos rfl]
    | cons c t =>
      by_cases hc : c = 58
      · subst hc
        by_cases hb : numOk t = false ∨ numV t < 1 ∨ 65535 < numV t
        · refine .inr (.inr (.inl ⟨h2, ⟨t, rfl, hb⟩, ?_⟩))
          rw [if_neg (by rw [h1]; simp), if_neg (by simp), if_pos (show numOk ((58 : UInt8) :: t).tail = false ∨ numV ((58 : UInt8) :: t).tail < 1 ∨ 65535 < numV ((58 : UInt8) :: t).tail from hb)] at hO
          dsimp only at hO
          rcases hO with ⟨_, h⟩ | ⟨h, _⟩ | ⟨h, _⟩
          · exact h
          · cases h
          · cases h
        · refine .inr (.inr (.inr ⟨h2, numV t, ?_, key _ ?_⟩))
          · simp only [not_or] at hb
            exact .inr ⟨t, rfl, by simpa using hb.1, hb.2.1, hb.2.2, rfl⟩
          · rw [if_neg (by rw [h1]; simp), if_neg (by simp), if_neg (show ¬ (numOk ((58 : UInt8) :: t).tail = false ∨ numV ((58 : UInt8) :: t).tail < 1 ∨ 65535 < numV ((58 : UInt8) :: t).tail) from hb)]; rfl
      · refine .inr (.inl ⟨h2, ⟨c, t, rfl, hc⟩, ?_⟩)
        rw [if_pos (.inr ⟨by simp, hc⟩)] at hO
        dsimp only at hO
        rcases hO with ⟨_, h⟩ | ⟨h, _⟩ | ⟨h, _⟩
        · exact h
        · cases h
        · cases h
  · refine .inl ⟨by rw [h2]; decide, ?_⟩
    rw [if_pos (.inl h1)] at hO
    dsimp only at hO
    rcases hO with ⟨_, h⟩ | ⟨h, _⟩ | ⟨h, _⟩
    · exact h
    · cases h
    · cases h
set_option maxHeartbeats 4000000 in
theorem refParseU_at (se : Bool) (s R : List UInt8) (hs : s.length ≤ 1000000000) (ha : afterB s (usualT se) = true) (hr : s.drop (usualT se).length = R) (w : World) :
    Calls Tryd.prog 9 #[.string ⟨s.toArray⟩] w fun e w' => e = .returned (.tuple #[.agg (uV (outOf se (restL se R)).2), .int .i64 (outOf se (restL se R)).1]) ∧ Below w.heap.size w w' := by
  have hRl : R.length ≤ 1000000000 := by rw [← hr, List.length_drop]; omega
  have hlen : 7 ≤ s.length ∧ (se = true → 8 ≤ s.length) := by
    have := (afterB_app [] ha).2
    cases se
    · exact ⟨this, by intro h; cases h⟩
    · have h8 : 8 ≤ s.length := this
      exact ⟨by omega, fun _ => h8⟩
  have hsame : (se = false → (lowerL (s.take 7) == httpT) = true) ∧ (se = true → (lowerL (s.take 7) == httpT) = false ∧ (lowerL (s.take 8) == httpsT) = true) := by
    have h0 : afterB s (usualT se) = sameB (s.take (usualT se).length) (usualT se) := by
      unfold afterB
      rw [decide_eq_true (afterB_app [] ha).2]; rfl
    rw [ha] at h0
    have hno := both_no (s := s)
    cases se
    · refine ⟨fun _ => ?_, by intro h; cases h⟩
      have h1 : sameB (s.take 7) httpT = true := h0.symm
      unfold sameB at h1
      rwa [show lowerL httpT = httpT by decide +kernel] at h1
    · refine ⟨by (intro h; cases h), fun _ => ⟨?_, ?_⟩⟩
      · cases hx : (lowerL (s.take 7) == httpT)
        · rfl
        · have : afterB s httpT = true := by
            unfold afterB
            rw [decide_eq_true (show httpT.length ≤ s.length from hlen.1), Bool.true_and]
            unfold sameB
            rw [show lowerL httpT = httpT by decide +kernel]
            exact hx
          have e := hno this
          rw [show httpsT = usualT true from rfl, ha] at e
          cases e
      · have h1 : sameB (s.take 8) httpsT = true := h0.symm
        unfold sameB at h1
        rwa [show lowerL httpsT = httpsT by decide +kernel] at h1
  have HL7 : Hid (∀ w, Calls Tryd.prog 16 #[.string ⟨(s.take 7).toArray⟩] w fun e w' => e = .returned (.string ⟨(lowerL (s.take 7)).toArray⟩) ∧ Below w.heap.size w w') := fun w => refLower_any (s.take 7) (by rw [List.length_take]; unfold maxLen; omega) w
  have HL8 : Hid (∀ w, Calls Tryd.prog 16 #[.string ⟨(s.take 8).toArray⟩] w fun e w' => e = .returned (.string ⟨(lowerL (s.take 8)).toArray⟩) ∧ Below w.heap.size w w') := fun w => refLower_any (s.take 8) (by rw [List.length_take]; unfold maxLen; omega) w
  generalize lowerL (s.take 7) = L7 at *
  generalize lowerL (s.take 8) = L8 at *
  unfold httpT httpsT at hsame
  obtain ⟨q, hq⟩ : ∃ q, R.take (cutAny R [47, 63, 35]) = q := ⟨_, rfl⟩
  have hW := parse_ways se R q hq
  have hk1 := cutAny_len R [47, 63, 35]
  have HF1 : Hid (∀ w, Calls Tryd.prog 17 #[.string ⟨R.toArray⟩, .string ⟨[47, 63, 35].toArray⟩] w fun e w' => e = .returned (.int .i64 ((cutAny R [47, 63, 35] : Nat) : Int)) ∧ Below w.heap.size w w') := fun w => find_any R [47, 63, 35] (by unfold maxLen; omega) (by decide) w
  generalize cutAny R [47, 63, 35] = k1 at *
  have hql : q.length ≤ 1000000000 := by rw [← hq, List.length_take]; omega
  have HQ := Lib.hid hq
  clear hq
  have HF2 : Hid (∀ w, Calls Tryd.prog 17 #[.string ⟨q.toArray⟩, .string ⟨[58].toArray⟩] w fun e w' => e = .returned (.int .i64 ((cutAny q [58] : Nat) : Int)) ∧ Below w.heap.size w w') := fun w => find_any q [58] (by unfold maxLen; omega) (by decide) w
  have HF4 : Hid (∀ w, Calls Tryd.prog 17 #[.string ⟨q.toArray⟩, .string ⟨[93].toArray⟩] w fun e w' => e = .returned (.int .i64 ((cutAny q [93] : Nat) : Int)) ∧ Below w.heap.size w w') := fun w => find_any q [93] (by unfold maxLen; omega) (by decide) w
  have HEO : Hid (endOf q = if Lib.hasPrefix q [91] = true then min (cutAny q [93] + 1) q.length else cutAny q [58]) := rfl
  have hk4 := cutAny_len q [93]
  have hE := endOf_len q
  generalize cutAny q [58] = k2 at *
  generalize cutAny q [93] = k4 at *
  generalize endOf q = E at *
  have HP : Hid (∀ w, Calls Tryd.prog 18 #[.string ⟨(q.take E).toArray⟩] w fun e w' => e = .returned (.tuple #[.agg (hostC (parseH (q.take E))), .int .i64 (parseE (q.take E))]) ∧ Below w.heap.size w w') := fun w => refParse_any (q.take E) (by rw [List.length_take]; omega) w
  generalize parseH (q.take E) = H at *
  generalize parseE (q.take E) = eH at *
  obtain ⟨b, hb⟩ : ∃ b, q.drop E = b := ⟨_, rfl⟩
  rw [hb] at hW
  have hbl : b.length ≤ 1000000000 := by rw [← hb, List.length_drop]; omega
  have HBB := Lib.hid hb
  clear hb
  obtain ⟨p, hp⟩ : ∃ p, R.drop k1 = p := ⟨_, rfl⟩
  rw [hp] at hW
  have hpl : p.length ≤ 1000000000 := by rw [← hp, List.length_drop]; omega
  have HPP := Lib.hid hp
  clear hp
  have HW := Lib.hid hW
  clear hW
  have HR := Lib.hid hr
  clear hr ha
  generalize outOf se (restL se R) = out at *
  go_enter Tryd.func9, Tryd.ntmps9
  go_upto_if 23 with (go_at_call 16; refine (HL7.out _).mono ?_; rintro e w1 ⟨rfl, hb1⟩; obtain ⟨p1, rfl⟩ := grown_of hb1; clear hb1)
  go_cut [5] (fun s5 wx => s5 = .string ⟨R.toArray⟩ ∧ Below w.heap.size w wx ∧ hasVar wx w.heap.size 21 = true ∧ Var wx (w.heap.size + 1) (urlR se zeroH (usualP se) []))
  case first =>
    cases se
    · have hb7 := hsame.1 rfl
      clear hsame
      rw [hb7]
      go_wp2
      go_meet
      exact ⟨by rw [← HR.out]; rfl, (by repeat (first | exact Below.refl _ _ | assumption | refine below_grown ?_ (by first | omega | (simp [go_sem]; done) | (simp [go_sem] <;> omega)) _ | refine Below.alloc ?_ (by first | omega | (simp [go_sem]; done) | (simp [go_sem] <;> omega)) _ | refine below_bytesW ?_ (by first | omega | (simp [go_sem]; done) | (simp [go_sem] <;> omega)) _ | refine Below.drew ?_ | refine below_drewN ?_ _)), by simp [go_sem], Var.grown (Var.new _ _ _ rfl (by simp)) _⟩
    · obtain ⟨hb7, hb8⟩ := hsame.2 rfl
      have hl8 := hlen.2 rfl
      clear hsame
      rw [hb7]
      go_wp2_with (go_at_call 16; refine (HL8.out _).mono ?_; rintro e w1 ⟨rfl, hb1⟩; obtain ⟨p1, rfl⟩ := grown_of hb1; clear hb1)
      go_meet
      refine ⟨by rw [← HR.out]; rfl, below_setCell' (below_setCell' (by repeat (first | exact Below.refl _ _ | assumption | refine below_grown ?_ (by first | omega | (simp [go_sem]; done) | (simp [go_sem] <;> omega)) _ | refine Below.alloc ?_ (by first | omega | (simp [go_sem]; done) | (simp [go_sem] <;> omega)) _ | refine below_bytesW ?_ (by first | omega | (simp [go_sem]; done) | (simp [go_sem] <;> omega)) _ | refine Below.drew ?_ | refine below_drewN ?_ _)) (Nat.le_succ _) _) (Nat.le_succ _) _, by simp [go_sem], ?_⟩
      exact var_https (Var.grown (Var.grown (Var.new _ _ _ rfl (by simp)) _) _)
  case rest =>
    obtain ⟨rfl, hbw, hv2, hv4⟩ := hcut
    have hbsz := hbw.size
    have HBC := Lib.hid hbw
    have hi4 : isOld (w.heap.size + 1) wc = true := isOld_iff.2 hv4.lt
    have hi2 : isOld w.heap.size wc = true := isOld_iff.2 (by have := hv4.lt; omega)
    have hv4' : hasVar wc (w.heap.size + 1) 21 = true := hv4.has (urlR_length _ _ _ _)
    clear hsame
    generalize usualP se = po at *
    go_upto_region 12 with (go_at_call 17; (with_reducible refine (HF1.out _).mono ?_); rintro e w1 ⟨rfl, hb1⟩; obtain ⟨p1, rfl⟩ := grown_of hb1; clear hb1)
    rw [HQ.out]
    go_upto_region 13 with (go_at_call 17; (with_reducible refine (HF2.out _).mono ?_); rintro e w1 ⟨rfl, hb1⟩; obtain ⟨p1, rfl⟩ := grown_of hb1; clear hb1)
    have hpre := pre_at q
    generalize Lib.hasPrefix q [91] = p6 at *
    go_cut [54] (fun s54 wx => s54 = .bool p6 ∧ Below w.heap.size w wx ∧ hasVar wx w.heap.size 21 = true ∧ Var wx (w.heap.size + 1) (urlR se zeroH po []))
    case first =>
      rcases hpre with ⟨h0, rfl⟩ | ⟨h0, h6⟩
      all_goals
        go_wp2
        go_meet
        refine ⟨rfl, (by repeat (first | exact Below.refl _ _ | assumption | refine below_grown ?_ (by first | omega | (simp [go_sem]; done) | (simp [go_sem] <;> omega)) _ | refine Below.alloc ?_ (by first | omega | (simp [go_sem]; done) | (simp [go_sem] <;> omega)) _ | refine below_bytesW ?_ (by first | omega | (simp [go_sem]; done) | (simp [go_sem] <;> omega)) _ | refine Below.drew ?_ | refine below_drewN ?_ _)), by simp [go_sem, hv2, hi2], Var.grown (Var.grown hv4 _) _⟩
    case rest =>
    clear hbw hbsz HBC hi4 hi2 hv4' hv2 hv4 hpre
    obtain ⟨rfl, hbw, hv2, hv4⟩ := hcut
    have hbsz := hbw.size
    have HBC := Lib.hid hbw
    have hi4 : isOld (w.heap.size + 1) wc = true := isOld_iff.2 hv4.lt
    have hi2 : isOld w.heap.size wc = true := isOld_iff.2 (by have := hv4.lt; omega)
    have hv4' : hasVar wc (w.heap.size + 1) 21 = true := hv4.has (urlR_length _ _ _ _)
    go_upto_if 54 with fail
    go_cut [8] (fun s8 wx => s8 = .int .i64 (E : Int) ∧ Below w.heap.size w wx ∧ hasVar wx w.heap.size 21 = true ∧ Var wx (w.heap.size + 1) (urlR se zeroH po []))
    case first =>
      have hEq := HEO.out
      cases p6
      · rw [if_neg (by decide)] at hEq
        subst hEq
        go_wp2
        go_meet
        refine ⟨rfl, (by repeat (first | exact Below.refl _ _ | assumption | refine below_grown ?_ (by first | omega | (simp [go_sem]; done) | (simp [go_sem] <;> omega)) _ | refine Below.alloc ?_ (by first | omega | (simp [go_sem]; done) | (simp [go_sem] <;> omega)) _ | refine below_bytesW ?_ (by first | omega | (simp [go_sem]; done) | (simp [go_sem] <;> omega)) _ | refine Below.drew ?_ | refine below_drewN ?_ _)), by simp [go_sem, hv2, hi2], hv4⟩
      · rw [if_pos rfl] at hEq
        have HEQ := Lib.hid hEq
        clear hEq
        go_wp2_with (go_at_call 17; (with_reducible refine (HF4.out _).mono ?_); rintro e w1 ⟨rfl, hb1⟩; obtain ⟨p1, rfl⟩ := grown_of hb1; clear hb1)
        go_meet
        exact ⟨congrArg (Value.int .i64) (by rw [HEQ.out]; omega), (by repeat (first | exact Below.refl _ _ | assumption | refine below_grown ?_ (by first | omega | (simp [go_sem]; done) | (simp [go_sem] <;> omega)) _ | refine Below.alloc ?_ (by first | omega | (simp [go_sem]; done) | (simp [go_sem] <;> omega)) _ | refine below_bytesW ?_ (by first | omega | (simp [go_sem]; done) | (simp [go_sem] <;> omega)) _ | refine Below.drew ?_ | refine below_drewN ?_ _)), by simp [go_sem, hv2, hi2], Var.grown hv4 _⟩
    case rest =>
    clear hbw hbsz HBC hi4 hi2 hv4' hv2 hv4
    obtain ⟨rfl, hbw, hv2, hv4⟩ := hcut
    have hbsz := hbw.size
    have HBC := Lib.hid hbw
    have hi4 : isOld (w.heap.size + 1) wc = true := isOld_iff.2 hv4.lt
    have hi2 : isOld w.heap.size wc = true := isOld_iff.2 (by have := hv4.lt; omega)
    have hv4' : hasVar wc (w.heap.size + 1) 21 = true := hv4.has (urlR_length _ _ _ _)
    have hst : ∀ (pp : Regrown) (O : Obj), storeRow Tryd.prog ((grown wc pp).alloc O) 25 (.pointer (some ⟨w.heap.size + 1, 1, none⟩)) (.agg (hostC H)) = .ok .skip (((grown wc pp).alloc O).setRow (w.heap.size + 1) (urlV se H po [])) := fun pp O => storeHost_at _ _ _ _ _ ((hv4.grown pp).alloc O)
    have hfz : ∀ (i : Nat), wc.frozen? ⟨w.heap.size + 1, i, none⟩ = false := fun i => hv4.free i
    go_upto_region 17 with (go_at_call 18; (with_reducible refine (HP.out _).mono ?_); rintro e w1 ⟨rfl, hb1⟩; obtain ⟨p1, rfl⟩ := grown_of hb1; clear hb1)
    rw [HBB.out]
    clear HP HF1 HF2 HF4 HEO HQ HBB HR
    rcases HW.out with ⟨w1, hO⟩ | ⟨rfl, ⟨c, t, rfl, w2⟩, hO⟩ | ⟨rfl, ⟨t, rfl, w2⟩, hO⟩ | ⟨rfl, P, hP, hpath⟩
    · clear HW
      have hE1 : (eH != 0) = true := by rw [bne_iff_ne]; exact w1
      have HO := Lib.hid hO
      clear hO w1
      go_wp2
      have hO := HO.out
      exact ret_cell_tmp w.heap.size (urlV false zeroH 0 []) (.int .i64 31) rfl rfl rfl agg_url (by simp [go_sem, hv2, hi2, hv4']) (by simp [go_sem, hv2, hi2, hv4']) rfl ⟨by rw [hO]; rfl, below_setRow (by repeat (first | exact Below.refl _ _ | assumption | refine below_grown ?_ (by first | omega | (simp [go_sem]; done) | (simp [go_sem] <;> omega)) _ | refine Below.alloc ?_ (by first | omega | (simp [go_sem]; done) | (simp [go_sem] <;> omega)) _ | refine below_bytesW ?_ (by first | omega | (simp [go_sem]; done) | (simp [go_sem] <;> omega)) _ | refine Below.drew ?_ | refine below_drewN ?_ _)) (Nat.le_refl _) _⟩
    · clear HW
      have hc1 : ((c.toNat : Int) != 58) = true := by rw [u8_lit_ne _ 58 58 rfl, bne_iff_ne]; exact w2
      have HO := Lib.hid hO
      clear hO w2
      go_wp2
      have hO := HO.out
      exact ret_cell_tmp w.heap.size (urlV false zeroH 0 []) (.int .i64 31) rfl rfl rfl agg_url (by simp [go_sem, hv2, hi2, hv4']) (by simp [go_sem, hv2, hi2, hv4']) rfl ⟨by rw [hO]; rfl, below_setRow (by repeat (first | exact Below.refl _ _ | assumption | refine below_grown ?_ (by first | omega | (simp [go_sem]; done) | (simp [go_sem] <;> omega)) _ | refine Below.alloc ?_ (by first | omega | (simp [go_sem]; done) | (simp [go_sem] <;> omega)) _ | refine below_bytesW ?_ (by first | omega | (simp [go_sem]; done) | (simp [go_sem] <;> omega)) _ | refine Below.drew ?_ | refine below_drewN ?_ _)) (Nat.le_refl _) _⟩
    · clear HW
      have HN := Lib.hid (fun w => refNumber_any t (by simp at hbl; omega) w)
      have HO := Lib.hid hO
      clear hO
      rcases w2 with w2 | w2 | w2
      · rw [w2] at HN
        clear w2
        go_wp2_with (go_at_call 19; refine (HN.out _).mono ?_; intro e w' h; obtain ⟨rfl, h2⟩ := h; subst w')
        have hO := HO.out
        exact ret_cell_tmp w.heap.size (urlV false zeroH 0 []) (.int .i64 42) rfl rfl rfl agg_url (by simp [go_sem, hv2, hi2, hv4']) (by simp [go_sem, hv2, hi2, hv4']) rfl ⟨by rw [hO]; rfl, below_setRow (below_setRow (by repeat (first | exact Below.refl _ _ | assumption | refine below_grown ?_ (by first | omega | (simp [go_sem]; done) | (simp [go_sem] <;> omega)) _ | refine Below.alloc ?_ (by first | omega | (simp [go_sem]; done) | (simp [go_sem] <;> omega)) _ | refine below_bytesW ?_ (by first | omega | (simp [go_sem]; done) | (simp [go_sem] <;> omega)) _ | refine Below.drew ?_ | refine below_drewN ?_ _)) (Nat.le_succ _) _) (Nat.le_refl _) _⟩
      · cases hnk : numOk t
        all_goals
          rw [hnk] at HN
          clear hnk
          go_wp2_with (go_at_call 19; refine (HN.out _).mono ?_; intro e w' h; obtain ⟨rfl, h2⟩ := h; subst w')
          have hO := HO.out
          exact ret_cell_tmp w.heap.size (urlV false zeroH 0 []) (.int .i64 42) rfl rfl rfl agg_url (by simp [go_sem, hv2, hi2, hv4']) (by simp [go_sem, hv2, hi2, hv4']) rfl ⟨by rw [hO]; rfl, below_setRow (below_setRow (by repeat (first | exact Below.refl _ _ | assumption | refine below_grown ?_ (by first | omega | (simp [go_sem]; done) | (simp [go_sem] <;> omega)) _ | refine Below.alloc ?_ (by first | omega | (simp [go_sem]; done) | (simp [go_sem] <;> omega)) _ | refine below_bytesW ?_ (by first | omega | (simp [go_sem]; done) | (simp [go_sem] <;> omega)) _ | refine Below.drew ?_ | refine below_drewN ?_ _)) (Nat.le_succ _) _) (Nat.le_refl _) _⟩
      · have w3 : ¬ numV t < 1 := by omega
        cases hnk : numOk t
        all_goals
          rw [hnk] at HN
          clear hnk
          go_wp2_with (go_at_call 19; refine (HN.out _).mono ?_; intro e w' h; obtain ⟨rfl, h2⟩ := h; subst w')
          have hO := HO.out
          exact ret_cell_tmp w.heap.size (urlV false zeroH 0 []) (.int .i64 42) rfl rfl rfl agg_url (by simp [go_sem, hv2, hi2, hv4']) (by simp [go_sem, hv2, hi2, hv4']) rfl ⟨by rw [hO]; rfl, below_setRow (below_setRow (by repeat (first | exact Below.refl _ _ | assumption | refine below_grown ?_ (by first | omega | (simp [go_sem]; done) | (simp [go_sem] <;> omega)) _ | refine Below.alloc ?_ (by first | omega | (simp [go_sem]; done) | (simp [go_sem] <;> omega)) _ | refine below_bytesW ?_ (by first | omega | (simp [go_sem]; done) | (simp [go_sem] <;> omega)) _ | refine Below.drew ?_ | refine below_drewN ?_ _)) (Nat.le_succ _) _) (Nat.le_refl _) _⟩
    · have HF3 : Hid (∀ w, Calls Tryd.prog 17 #[.string ⟨p.toArray⟩, .string ⟨[63, 35].toArray⟩] w fun e w' => e = .returned (.int .i64 ((cutAny p [63, 35] : Nat) : Int)) ∧ Below w.heap.size w w') := fun w => find_any p [63, 35] (by unfold maxLen; omega) (by decide) w
      have hk3 := cutAny_len p [63, 35]
      have hpo : pathOf p = if p.take (cutAny p [63, 35]) = [] then [47] else p.take (cutAny p [63, 35]) := rfl
      have hp0 : (p.take (cutAny p [63, 35])).length ≤ 1000000000 := by rw [List.length_take]; omega
      generalize cutAny p [63, 35] = k3 at *
      obtain ⟨pa, hpa⟩ : ∃ pa, p.take k3 = pa := ⟨_, rfl⟩
      rw [hpa] at hpo hp0
      have HPK := Lib.hid (fun w => refUPath_any pa (by unfold maxLen; omega) w)
      have HPA := Lib.hid hpa
      have HPTH := Lib.hid hpath
      have HPO := Lib.hid hpo
      clear hpa hpath hpo HW
      rcases hP with ⟨rfl, rfl⟩ | ⟨t, rfl, n1, n2, n3, rfl⟩
      · go_upto_region 26 with fail
        rw [HPP.out]
        go_cut [112] (fun _ wx => ∃ wz, wx = wz.setRow (w.heap.size + 1) (urlV se H P pa) ∧ Below w.heap.size w wz ∧ hasVar wz w.heap.size 21 = true ∧ hasVar wz (w.heap.size + 1) 21 = true ∧ isOld (w.heap.size + 1) wz = true ∧ isOld w.heap.size wz = true ∧ ∀ i, wz.frozen? ⟨w.heap.size + 1, i, none⟩ = false)
        case first =>
          go_region_with (go_at_call 17; (with_reducible refine (HF3.out _).mono ?_); rintro e w1 ⟨rfl, hb1⟩; obtain ⟨p1, rfl⟩ := grown_of hb1; clear hb1)
          all_goals
            go_wp2_with fail
            go_meet
            rw [HPA.out]
            exact ⟨_, setCell_path ((Var.setRow_same ((hv4.grown _).alloc _) _ rfl).grown _) pa, below_grown (below_drewN (below_setRow (by repeat (first | exact Below.refl _ _ | assumption | refine below_grown ?_ (by first | omega | (simp [go_sem]; done) | (simp [go_sem] <;> omega)) _ | refine Below.alloc ?_ (by first | omega | (simp [go_sem]; done) | (simp [go_sem] <;> omega)) _ | refine below_bytesW ?_ (by first | omega | (simp [go_sem]; done) | (simp [go_sem] <;> omega)) _ | refine Below.drew ?_ | refine below_drewN ?_ _)) (Nat.le_succ _) _) 1) (by simp [go_sem]; omega) _, by simp [go_sem, hv2, hi2, hv4'], ((Var.setRow_same ((hv4.grown _).alloc _) (urlV se H P p) rfl).grown _).has (urlR_length _ _ _ _), by simp [go_sem, hi4], by simp [go_sem, hi2], fun i => Var.free ((Var.setRow_same ((hv4.grown _).alloc _) (urlV se H P p) rfl).grown _) i⟩
        case rest =>
        obtain ⟨wz, rfl, hbz, hz2, hz4, hiz, hiz2, hfz2⟩ := hcut
        have hbz3 := hbz.size
        clear hfz hst hv4 hv2 hi2 hi4 hv4' hbw hbsz HBC
        rcases HPTH.out with ⟨hok, hO⟩ | ⟨hok, hO⟩
        · have hne : pa ≠ [] := by
            intro e
            rw [HPO.out, if_pos e] at hok
            cases hok
          rw [HPO.out, if_neg hne] at hok
          have HPF : Hid (∀ w, Calls Tryd.prog 11 #[.string ⟨pa.toArray⟩] w fun e w' => e = .returned (.bool false) ∧ w = w') := fun w => by have := HPK.out w; rwa [hok] at this
          have hem : pa.isEmpty = false := by rw [List.isEmpty_eq_false_iff]; exact hne
          have hem2 : (pa == []) = false := by rw [beq_eq_false_iff_ne]; exact hne
          have HO := Lib.hid hO
          clear hO hok hne HPO HPTH
          go_wp2_with (go_at_call 11; refine (HPF.out _).mono ?_; intro e w' h; obtain ⟨rfl, h2⟩ := h; subst w')
          have hO := HO.out
          exact ret_cell_tmp w.heap.size (urlV false zeroH 0 []) (.int .i64 43) rfl rfl rfl agg_url (by simp [go_sem, hz2, hz4, hiz, hbz3]) (by simp [go_sem, hz2, hz4, hiz, hbz3]) rfl ⟨by rw [hO]; rfl, below_setRow (below_setRow hbz (Nat.le_succ _) _) (Nat.le_refl _) _⟩
        · by_cases hne : pa = []
          · rw [HPO.out, if_pos hne] at hO
            subst hne
            have HPF : Hid (∀ w, Calls Tryd.prog 11 #[.string ⟨[47].toArray⟩] w fun e w' => e = .returned (.bool true) ∧ w = w') := fun w => refUPath_any [47] (by decide) w
            have HO := Lib.hid hO
            clear hO hok HPO HPTH
            go_wp2_with (go_at_call 11; refine (HPF.out _).mono ?_; intro e w' h; obtain ⟨rfl, h2⟩ := h; subst w')
            have hO := HO.out
            exact ret_cell_tmp w.heap.size (urlV se H P [47]) (.int .i64 0) rfl rfl rfl agg_url (by simp [go_sem, hz2, hz4, hiz, hbz3]) (by simp [go_sem, hz2, hz4, hiz, hbz3]) rfl ⟨by rw [hO]; rfl, below_setRow (below_setRow hbz (Nat.le_succ _) _) (Nat.le_refl _) _⟩
          · rw [HPO.out, if_neg hne] at hO hok
            have HPF : Hid (∀ w, Calls Tryd.prog 11 #[.string ⟨pa.toArray⟩] w fun e w' => e = .returned (.bool true) ∧ w = w') := fun w => by have := HPK.out w; rwa [hok] at this
            have hem : pa.isEmpty = false := by rw [List.isEmpty_eq_false_iff]; exact hne
            have hem2 : (pa == []) = false := by rw [beq_eq_false_iff_ne]; exact hne
            have HO := Lib.hid hO
            clear hO hok hne HPO HPTH
            go_wp2_with (go_at_call 11; refine (HPF.out _).mono ?_; intro e w' h; obtain ⟨rfl, h2⟩ := h; subst w')
            have hO := HO.out
            exact ret_cell_tmp w.heap.size (urlV se H P pa) (.int .i64 0) rfl rfl rfl agg_url (by simp [go_sem, hz2, hz4, hiz, hbz3]) (by simp [go_sem, hz2, hz4, hiz, hbz3]) rfl ⟨by rw [hO]; rfl, below_setRow (below_setRow hbz (Nat.le_succ _) _) (Nat.le_refl _) _⟩
      · have HN := Lib.hid (fun w => refNumber_any t (by simp at hbl; omega) w)
        rw [n1] at HN
        clear n1
        generalize numV t = P at *
        go_upto_region 26 with (go_at_call 19; refine (HN.out _).mono ?_; intro e w' h; obtain ⟨rfl, h2⟩ := h; subst w')
        rw [HPP.out]
        go_cut [112] (fun _ wx => ∃ wz, wx = wz.setRow (w.heap.size + 1) (urlV se H P pa) ∧ Below w.heap.size w wz ∧ hasVar wz w.heap.size 21 = true ∧ hasVar wz (w.heap.size + 1) 21 = true ∧ isOld (w.heap.size + 1) wz = true ∧ isOld w.heap.size wz = true ∧ ∀ i, wz.frozen? ⟨w.heap.size + 1, i, none⟩ = false)
        case first =>
          go_region_with (go_at_call 17; (with_reducible refine (HF3.out _).mono ?_); rintro e w1 ⟨rfl, hb1⟩; obtain ⟨p1, rfl⟩ := grown_of hb1; clear hb1)
          all_goals
            go_wp2_with fail
            go_meet
            rw [HPA.out]
            exact ⟨_, setCell_path ((Var.setRow_same ((hv4.grown _).alloc _) _ rfl).grown _) pa, below_grown (below_drewN (below_setRow (by repeat (first | exact Below.refl _ _ | assumption | refine below_grown ?_ (by first | omega | (simp [go_sem]; done) | (simp [go_sem] <;> omega)) _ | refine Below.alloc ?_ (by first | omega | (simp [go_sem]; done) | (simp [go_sem] <;> omega)) _ | refine below_bytesW ?_ (by first | omega | (simp [go_sem]; done) | (simp [go_sem] <;> omega)) _ | refine Below.drew ?_ | refine below_drewN ?_ _)) (Nat.le_succ _) _) 1) (by simp [go_sem]; omega) _, by simp [go_sem, hv2, hi2, hv4'], ((Var.setRow_same ((hv4.grown _).alloc _) (urlV se H P p) rfl).grown _).has (urlR_length _ _ _ _), by simp [go_sem, hi4], by simp [go_sem, hi2], fun i => Var.free ((Var.setRow_same ((hv4.grown _).alloc _) (urlV se H P p) rfl).grown _) i⟩
        case rest =>
        obtain ⟨wz, rfl, hbz, hz2, hz4, hiz, hiz2, hfz2⟩ := hcut
        have hbz3 := hbz.size
        clear hfz hst hv4 hv2 hi2 hi4 hv4' hbw hbsz HBC
        rcases HPTH.out with ⟨hok, hO⟩ | ⟨hok, hO⟩
        · have hne : pa ≠ [] := by
            intro e
            rw [HPO.out, if_pos e] at hok
            cases hok
          rw [HPO.out, if_neg hne] at hok
          have HPF : Hid (∀ w, Calls Tryd.prog 11 #[.string ⟨pa.toArray⟩] w fun e w' => e = .returned (.bool false) ∧ w = w') := fun w => by have := HPK.out w; rwa [hok] at this
          have hem : pa.isEmpty = false := by rw [List.isEmpty_eq_false_iff]; exact hne
          have hem2 : (pa == []) = false := by rw [beq_eq_false_iff_ne]; exact hne
          have HO := Lib.hid hO
          clear hO hok hne HPO HPTH
          go_wp2_with (go_at_call 11; refine (HPF.out _).mono ?_; intro e w' h; obtain ⟨rfl, h2⟩ := h; subst w')
          have hO := HO.out
          exact ret_cell_tmp w.heap.size (urlV false zeroH 0 []) (.int .i64 43) rfl rfl rfl agg_url (by simp [go_sem, hz2, hz4, hiz, hbz3]) (by simp [go_sem, hz2, hz4, hiz, hbz3]) rfl ⟨by rw [hO]; rfl, below_setRow (below_setRow hbz (Nat.le_succ _) _) (Nat.le_refl _) _⟩
        · by_cases hne : pa = []
          · rw [HPO.out, if_pos hne] at hO
            subst hne
            have HPF : Hid (∀ w, Calls Tryd.prog 11 #[.string ⟨[47].toArray⟩] w fun e w' => e = .returned (.bool true) ∧ w = w') := fun w => refUPath_any [47] (by decide) w
            have HO := Lib.hid hO
            clear hO hok HPO HPTH
            go_wp2_with (go_at_call 11; refine (HPF.out _).mono ?_; intro e w' h; obtain ⟨rfl, h2⟩ := h; subst w')
            have hO := HO.out
            exact ret_cell_tmp w.heap.size (urlV se H P [47]) (.int .i64 0) rfl rfl rfl agg_url (by simp [go_sem, hz2, hz4, hiz, hbz3]) (by simp [go_sem, hz2, hz4, hiz, hbz3]) rfl ⟨by rw [hO]; rfl, below_setRow (below_setRow hbz (Nat.le_succ _) _) (Nat.le_refl _) _⟩
          · rw [HPO.out, if_neg hne] at hO hok
            have HPF : Hid (∀ w, Calls Tryd.prog 11 #[.string ⟨pa.toArray⟩] w fun e w' => e = .returned (.bool true) ∧ w = w') := fun w => by have := HPK.out w; rwa [hok] at this
            have hem : pa.isEmpty = false := by rw [List.isEmpty_eq_false_iff]; exact hne
            have hem2 : (pa == []) = false := by rw [beq_eq_false_iff_ne]; exact hne
            have HO := Lib.hid hO
            clear hO hok hne HPO HPTH
            go_wp2_with (go_at_call 11; refine (HPF.out _).mono ?_; intro e w' h; obtain ⟨rfl, h2⟩ := h; subst w')
            have hO := HO.out
            exact ret_cell_tmp w.heap.size (urlV se H P pa) (.int .i64 0) rfl rfl rfl agg_url (by simp [go_sem, hz2, hz4, hiz, hbz3]) (by simp [go_sem, hz2, hz4, hiz, hbz3]) rfl ⟨by rw [hO]; rfl, below_setRow (below_setRow hbz (Nat.le_succ _) _) (Nat.le_refl _) _⟩
set_option maxHeartbeats 1000000 in
theorem refParseU_none (s : List UInt8) (hs : s.length ≤ 1000000000) (ha : afterB s httpsT = false) (hb : afterB s httpT = false) (w : World) :
    Calls Tryd.prog 9 #[.string ⟨s.toArray⟩] w fun e w' => e = .returned (.tuple #[.agg (urlV false zeroH 0 []), .int .i64 41]) ∧ Below w.heap.size w w' := by
  have h7 : 7 ≤ s.length → (lowerL (s.take 7) == httpT) = false := fun h => by
    unfold afterB sameB at hb
    rw [decide_eq_true (show httpT.length ≤ s.length from h), Bool.true_and, show lowerL httpT = httpT by decide +kernel] at hb
    exact hb
  have h8 : 8 ≤ s.length → (lowerL (s.take 8) == httpsT) = false := fun h => by
    unfold afterB sameB at ha
    rw [decide_eq_true (show httpsT.length ≤ s.length from h), Bool.true_and, show lowerL httpsT = httpsT by decide +kernel] at ha
    exact ha
  have HL7 : Hid (∀ w, Calls Tryd.prog 16 #[.string ⟨(s.take 7).toArray⟩] w fun e w' => e = .returned (.string ⟨(lowerL (s.take 7)).toArray⟩) ∧ Below w.heap.size w w') := fun w => refLower_any (s.take 7) (by rw [List.length_take]; unfold maxLen; omega) w
  have HL8 : Hid (∀ w, Calls Tryd.prog 16 #[.string ⟨(s.take 8).toArray⟩] w fun e w' => e = .returned (.string ⟨(lowerL (s.take 8)).toArray⟩) ∧ Below w.heap.size w w') := fun w => refLower_any (s.take 8) (by rw [List.length_take]; unfold maxLen; omega) w
  generalize lowerL (s.take 7) = L7 at *
  generalize lowerL (s.take 8) = L8 at *
  unfold httpT at h7
  unfold httpsT at h8
  by_cases k7 : 7 ≤ s.length
  · have b7 := h7 k7
    by_cases k8 : 8 ≤ s.length
    · have b8 := h8 k8
      clear h7 h8 ha hb
      go_enter Tryd.func9, Tryd.ntmps9
      go_wp2_with (first
        | (go_at_call 16; (with_reducible refine (HL7.out _).mono ?_); rintro e w1 ⟨rfl, hb1⟩; obtain ⟨p1, rfl⟩ := grown_of hb1; clear hb1)
        | (go_at_call 16; (with_reducible refine (HL8.out _).mono ?_); rintro e w1 ⟨rfl, hb1⟩; obtain ⟨p1, rfl⟩ := grown_of hb1; clear hb1))
      exact ret_cell_tmp w.heap.size (urlV false zeroH 0 []) (.int .i64 41) rfl rfl rfl agg_url (by simp [go_sem]) (by simp [go_sem]) rfl ⟨rfl, below_setRow (by repeat (first | exact Below.refl _ _ | assumption | refine below_grown ?_ (by first | omega | (simp [go_sem]; done) | (simp [go_sem] <;> omega)) _ | refine Below.alloc ?_ (by first | omega | (simp [go_sem]; done) | (simp [go_sem] <;> omega)) _ | refine below_bytesW ?_ (by first | omega | (simp [go_sem]; done) | (simp [go_sem] <;> omega)) _ | refine Below.drew ?_ | refine below_drewN ?_ _)) (Nat.le_refl _) _⟩
    · have k8' : ¬ (8 : Int) ≤ s.length := by omega
      clear h7 h8 ha hb
      go_enter Tryd.func9, Tryd.ntmps9
      go_wp2_with (go_at_call 16; (with_reducible refine (HL7.out _).mono ?_); rintro e w1 ⟨rfl, hb1⟩; obtain ⟨p1, rfl⟩ := grown_of hb1; clear hb1)
      exact ret_cell_tmp w.heap.size (urlV false zeroH 0 []) (.int .i64 41) rfl rfl rfl agg_url (by simp [go_sem]) (by simp [go_sem]) rfl ⟨rfl, below_setRow (by repeat (first | exact Below.refl _ _ | assumption | refine below_grown ?_ (by first | omega | (simp [go_sem]; done) | (simp [go_sem] <;> omega)) _ | refine Below.alloc ?_ (by first | omega | (simp [go_sem]; done) | (simp [go_sem] <;> omega)) _ | refine below_bytesW ?_ (by first | omega | (simp [go_sem]; done) | (simp [go_sem] <;> omega)) _ | refine Below.drew ?_ | refine below_drewN ?_ _)) (Nat.le_refl _) _⟩
  · have k7' : ¬ (7 : Int) ≤ s.length := by omega
    have k8' : ¬ (8 : Int) ≤ s.length := by omega
    clear h7 h8 ha hb
    go_enter Tryd.func9, Tryd.ntmps9
    go_wp2
    exact ret_cell_tmp w.heap.size (urlV false zeroH 0 []) (.int .i64 41) rfl rfl rfl agg_url (by simp [go_sem]) (by simp [go_sem]) rfl ⟨rfl, below_setRow (by repeat (first | exact Below.refl _ _ | assumption | refine below_grown ?_ (by first | omega | (simp [go_sem]; done) | (simp [go_sem] <;> omega)) _ | refine Below.alloc ?_ (by first | omega | (simp [go_sem]; done) | (simp [go_sem] <;> omega)) _ | refine below_bytesW ?_ (by first | omega | (simp [go_sem]; done) | (simp [go_sem] <;> omega)) _ | refine Below.drew ?_ | refine below_drewN ?_ _)) (Nat.le_refl _) _⟩
theorem refParseU_any (s : List UInt8) (hs : s.length ≤ 1000000000) (w : World) :
    Calls Tryd.prog 9 #[.string ⟨s.toArray⟩] w fun e w' => e = .returned (.tuple #[.agg (uV (urlOut s).2), .int .i64 (urlOut s).1]) ∧ Below w.heap.size w w' := by
  cases ha : afterB s httpsT
  · cases hb : afterB s httpT
    · have := refParseU_none s hs ha hb w
      unfold urlOut
      rw [ha, hb, if_neg (by decide), if_neg (by decide)]
      exact this
    · have := refParseU_at false s (s.drop 7) hs hb rfl w
      unfold urlOut
      rw [ha, hb, if_neg (by decide), if_pos rfl]
      exact this
  · have := refParseU_at true s (s.drop 8) hs ha rfl w
    unfold urlOut
    rw [ha, if_pos rfl]
    exact this
/-! ### the statement -/
set_option maxHeartbeats 4000000 in
theorem urlReads_law (s : List UInt8) (hs : s.length ≤ maxLen) (m : Int) (w : World) (hm : HasMax m w) :
    Calls Tryd.prog 4 #[.string ⟨s.toArray⟩] w fun e w' => e = .returned (.bool true) ∧ Below w.heap.size w w' := by
  unfold maxLen at hs
  by_cases h1 : (3000 : Int) < s.length
  · go_enter Tryd.func4, Tryd.ntmps4
    go_wp2_with (go_at_call 8; refine (urlAlive_any m _ (by repeat (first | exact hm | apply HasMax.grown | apply HasMax.alloc | apply HasMax.drew))).mono ?_; rintro e w1 ⟨rfl, hb1⟩; obtain ⟨p1, rfl⟩ := grown_of hb1; clear hb1)
    go_ret
    exact ⟨rfl, (by repeat (first | exact Below.refl _ _ | assumption | refine below_grown ?_ (by first | omega | (simp [go_sem]; done) | (simp [go_sem] <;> omega)) _ | refine Below.alloc ?_ (by first | omega | (simp [go_sem]; done) | (simp [go_sem] <;> omega)) _ | refine below_bytesW ?_ (by first | omega | (simp [go_sem]; done) | (simp [go_sem] <;> omega)) _ | refine Below.drew ?_ | refine below_drewN ?_ _))⟩
  · have HP : Hid (∀ w, HasMax m w → Calls Tryd.prog 7 #[.string ⟨s.toArray⟩] w fun e w' => e = .returned (.tuple #[.agg (urlV (urlOut s).2.1 (urlOut s).2.2.1 (urlOut s).2.2.2.1 (urlOut s).2.2.2.2), .int .i64 (urlOut s).1]) ∧ Below w.heap.size w w') := fun w x => parseU_any s (by omega) m w x
    have HQ : Hid (∀ w, Calls Tryd.prog 9 #[.string ⟨s.toArray⟩] w fun e w' => e = .returned (.tuple #[.agg (urlV (urlOut s).2.1 (urlOut s).2.2.1 (urlOut s).2.2.2.1 (urlOut s).2.2.2.2), .int .i64 (urlOut s).1]) ∧ Below w.heap.size w w') := fun w => refParseU_any s (by omega) w
    have HK : Hid (∀ w, Calls Tryd.prog 10 #[.string ⟨s.toArray⟩] w fun e w' => e = .returned (.bool (pathOk s)) ∧ Below w.heap.size w w') := fun w => urlPath_any s (by unfold maxLen; omega) w
    have HL : Hid (∀ w, Calls Tryd.prog 11 #[.string ⟨s.toArray⟩] w fun e w' => e = .returned (.bool (pathOk s)) ∧ Below w.heap.size w w') := fun w => (refUPath_any s (by unfold maxLen; omega) w).mono fun e w' ⟨a, b⟩ => ⟨a, b ▸ Below.refl _ _⟩
    have hbd := urlOut_bd s
    have hwf := wf_port hbd.1
    have hpl : (urlOut s).2.2.2.2.length ≤ maxLen := by unfold maxLen; omega
    clear hbd
    generalize (urlOut s).2.2.2.2 = pa at *
    generalize (urlOut s).2.2.2.1 = po at *
    generalize (urlOut s).2.2.1 = H at *
    generalize (urlOut s).2.1 = se at *
    generalize (urlOut s).1 = E at *
    generalize pathOk s = ok at *
    have he : hostEq H H = true := (hostEq_iff _ _).2 rfl
    go_enter Tryd.func4, Tryd.ntmps4
    go_wp2_with (first
      | (go_at_call 8; refine (urlAlive_any m _ (by repeat (first | exact hm | apply HasMax.grown | apply HasMax.alloc | apply HasMax.drew))).mono ?_; rintro e w1 ⟨rfl, hb1⟩; obtain ⟨p1, rfl⟩ := grown_of hb1; clear hb1)
      | (go_at_call 7; (with_reducible refine (HP.out _ ?_).mono ?_); (exact (by repeat (first | exact hm | apply HasMax.grown | apply HasMax.alloc | apply HasMax.drew))); rintro e w1 ⟨rfl, hb1⟩; obtain ⟨p1, rfl⟩ := grown_of hb1; clear hb1)
      | (go_at_call 9; (with_reducible refine (HQ.out _).mono ?_); rintro e w1 ⟨rfl, hb1⟩; obtain ⟨p1, rfl⟩ := grown_of hb1; clear hb1)
      | (go_at_call 10; (with_reducible refine (HK.out _).mono ?_); rintro e w1 ⟨rfl, hb1⟩; obtain ⟨p1, rfl⟩ := grown_of hb1; clear hb1)
      | (go_at_call 11; (with_reducible refine (HL.out _).mono ?_); rintro e w1 ⟨rfl, hb1⟩; obtain ⟨p1, rfl⟩ := grown_of hb1; clear hb1))
    go_ret
    exact ⟨by first | rfl | exact ret_bool (by simp), (by repeat (first | exact Below.refl _ _ | assumption | refine below_grown ?_ (by first | omega | (simp [go_sem]; done) | (simp [go_sem] <;> omega)) _ | refine Below.alloc ?_ (by first | omega | (simp [go_sem]; done) | (simp [go_sem] <;> omega)) _ | refine below_bytesW ?_ (by first | omega | (simp [go_sem]; done) | (simp [go_sem] <;> omega)) _ | refine Below.drew ?_ | refine below_drewN ?_ _))⟩
end Go.Proofs.YtfnhkpfkaiamjaaDoor
