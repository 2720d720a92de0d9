/- Merged: TplRmP. -/
import Derived.Test.YtnkckejbkbbdlaaGreatDoorTmL
import Derived.Test.YtnkckejbkbbdlaaGreatDoorLSm
namespace Go.Proofs.YtnkckejbkbbdlaaGreatDoor
section
open Go Go.RowKit
set_option maxRecDepth 20000
set_option linter.unusedSimpArgs false
set_option linter.unusedVariables false

/-! ### two lines ahead -/
def rmk : List UInt8 := [35, 32, 120, 10, 10]
theorem lines_rmk (s : List UInt8) : linesL (rmk ++ s) = [35, 32, 120] :: [] :: linesL s := by
  have e : splitL 10 (rmk ++ s) = [35, 32, 120] :: [] :: splitL 10 s := by
    have h1 : rmk ++ s = [35, 32, 120] ++ 10 :: ([] ++ 10 :: s) := rfl
    rw [h1, splitL_append 10 _ _ (by decide), splitL_append 10 [] s (by simp)]
  unfold linesL
  rw [e]
  obtain ⟨p, ps, hp⟩ : ∃ p ps, splitL 10 s = p :: ps := by
    cases h : splitL 10 s with
    | nil => exact absurd h (splitL_ne 10 s)
    | cons p ps => exact ⟨p, ps, rfl⟩
  have hd : dropEmpty ([35, 32, 120] :: [] :: splitL 10 s) = [35, 32, 120] :: [] :: dropEmpty (splitL 10 s) := by
    rw [hp]
    unfold dropEmpty
    have h1 : ([35, 32, 120] :: [] :: p :: ps : List (List UInt8)).getLast? = (p :: ps).getLast? := by simp [List.getLast?_cons_cons]
    rw [h1]
    split <;> rfl
  rw [hd]
  rfl
def shT (T : List GTpl) : List GTpl := T.map (fun t => { t with line := t.line + 2 })
theorem shT_name (T : List GTpl) (x : List UInt8) : (shT T).any (fun t => t.name == x) = T.any (fun t => t.name == x) := by
  unfold shT
  rw [List.any_map]
  rfl
theorem ckLine_sh (W : List (List UInt8)) (T : List GTpl) (C : List GCh) (z : Int) :
    (ckLine W (shT T) C (z + 2)).1 = (ckLine W T C z).1 ∧ (ckLine W (shT T) C (z + 2)).2.1 = (ckLine W T C z).2.1 ∧ ((ckLine W T C z).1 = 0 → (ckLine W (shT T) C (z + 2)).2.2 = { (ckLine W T C z).2.2 with line := (ckLine W T C z).2.2.line + 2 }) := by
  have hl : (shT T).length = T.length := by simp [shT]
  unfold ckLine
  rw [shT_name, hl]
  split
  · exact ⟨rfl, rfl, fun h => absurd h (show ¬ ((221 : Int) = 0) by decide)⟩
  split
  · exact ⟨rfl, rfl, fun h => absurd h (show ¬ ((52 : Int) = 0) by decide)⟩
  split
  · rename_i h; exact ⟨rfl, rfl, fun h' => absurd h' h⟩
  split
  · exact ⟨rfl, rfl, fun h => absurd h (show ¬ ((131 : Int) = 0) by decide)⟩
  split
  · rename_i h; exact ⟨rfl, rfl, fun h' => absurd h' h⟩
  split
  · exact ⟨rfl, rfl, fun h => absurd h (show ¬ ((53 : Int) = 0) by decide)⟩
  · exact ⟨rfl, rfl, fun _ => rfl⟩
theorem lineT_sh (x : List UInt8) (i : Nat) (T : List GTpl) (C : List GCh) :
    (lineT x (i + 2) (shT T) C).1 = (lineT x i T C).1 ∧ (lineT x (i + 2) (shT T) C).2.1 = (lineT x i T C).2.1 ∧ ((lineT x i T C).1 = 0 → (lineT x (i + 2) (shT T) C).2.2.1 = shT (lineT x i T C).2.2.1 ∧ (lineT x (i + 2) (shT T) C).2.2.2 = (lineT x i T C).2.2.2) := by
  have e : (((i + 2 : Nat) : Int) + 1) = ((i : Int) + 1) + 2 := by omega
  unfold lineT
  rw [e]
  obtain ⟨h1, h2, h3⟩ := ckLine_sh (splitL 32 x) T C ((i : Int) + 1)
  split
  · exact ⟨rfl, rfl, fun _ => ⟨rfl, rfl⟩⟩
  split
  · refine ⟨h1, h2, fun h => ⟨?_, rfl⟩⟩
    show shT T ++ [_] = shT (T ++ [_])
    rw [h3 h]
    simp [shT]
  · exact ⟨rfl, rfl, fun h => absurd h (show ¬ ((131 : Int) = 0) by decide)⟩
theorem tplStep_sh : ∀ (L : List (List UInt8)) (i : Nat) (T : List GTpl) (C : List GCh),
    ((tplStep L i T C).2.2.1 = 0 → tplStep L (i + 2) (shT T) C = (shT (tplStep L i T C).1, (tplStep L i T C).2.1, (tplStep L i T C).2.2)) ∧ ((tplStep L i T C).2.2.1 ≠ 0 → tplStep L (i + 2) (shT T) C = ([], [], (tplStep L i T C).2.2.1, (tplStep L i T C).2.2.2.1 + 2, (tplStep L i T C).2.2.2.2))
  | [], i, T, C => ⟨fun _ => rfl, fun h => absurd rfl h⟩
  | x :: L, i, T, C => by
    have ih := tplStep_sh L (i + 1)
    obtain ⟨h1, h2, h3⟩ := lineT_sh x i T C
    rw [tplStep, tplStep]
    split
    · exact ih T C
    split
    · rename_i he
      have he' : (lineT x (i + 2) (shT T) C).1 ≠ 0 := by rw [h1]; exact he
      rw [if_pos he', h1, h2]
      refine ⟨fun h => absurd h he, fun _ => ?_⟩
      dsimp only
      rw [show (((i + 2 : Nat) : Int) + 1) = ((i : Int) + 1) + 2 by omega]
    · rename_i he
      have he' : ¬ (lineT x (i + 2) (shT T) C).1 ≠ 0 := by rw [h1]; exact he
      obtain ⟨h4, h5⟩ := h3 (Decidable.not_not.1 he)
      rw [if_neg he', h4, h5]
      exact ih _ _
theorem tplFile_rmk (s : List UInt8) (hs : s.length ≤ 3000) : ((tplFile s).2.2.1 = 0 → tplFile (rmk ++ s) = (shT (tplFile s).1, (tplFile s).2.1, (tplFile s).2.2)) ∧ ((tplFile s).2.2.1 ≠ 0 → tplFile (rmk ++ s) = ([], [], (tplFile s).2.2.1, (tplFile s).2.2.2.1 + 2, (tplFile s).2.2.2.2)) := by
  have e1 : tplFile s = tplStep (linesL s) 0 [] [] := by unfold tplFile; rw [if_neg (by omega)]
  have e2 : tplFile (rmk ++ s) = tplStep (linesL s) 2 (shT []) [] := by
    unfold tplFile
    rw [if_neg (by simp [rmk]; omega), lines_rmk, tplStep, if_pos (.inr (by decide)), tplStep, if_pos (.inl rfl)]
    rfl
  rw [e1, e2]
  exact tplStep_sh (linesL s) 0 [] []
/-! ### the numbers -/
theorem placeL_bd (s : List UInt8) (p : Int) (h1 : 0 ≤ p) (h2 : p ≤ 65535) : 0 ≤ (placeL s p).1 ∧ (placeL s p).1 ≤ 42 ∧ 0 ≤ (placeL s p).2.2 ∧ (placeL s p).2.2 ≤ 65535 := by
  unfold placeL
  dsimp only
  split
  · exact ⟨by first | decide | (dsimp only; omega) | (simp; done), by first | decide | (dsimp only; omega) | (simp; done), by first | decide | (dsimp only; omega) | (simp; done), by first | decide | (dsimp only; omega) | (simp; done)⟩
  split
  · exact ⟨by first | decide | (dsimp only; omega) | (simp; done), by first | decide | (dsimp only; omega) | (simp; done), h1, h2⟩
  split
  · exact ⟨by first | decide | (dsimp only; omega) | (simp; done), by first | decide | (dsimp only; omega) | (simp; done), by first | decide | (dsimp only; omega) | (simp; done), by first | decide | (dsimp only; omega) | (simp; done)⟩
  · rename_i h
    simp only [not_or, Int.not_lt] at h
    exact ⟨by first | decide | (dsimp only; omega) | (simp; done), by first | decide | (dsimp only; omega) | (simp; done), by show (0 : Int) ≤ numV _; omega, h.2.2⟩
theorem restL_bd (safe : Bool) (r : List UInt8) : 0 ≤ (restL safe r).1 ∧ (restL safe r).1 ≤ 43 ∧ 0 ≤ (restL safe r).2.2.1 ∧ (restL safe r).2.2.1 ≤ 65535 ∧ (restL safe r).2.2.2.length ≤ 2048 := by
  obtain ⟨h1, h2, h3, h4⟩ := placeL_bd (r.take (cutAny r [47, 63, 35])) (usualP safe) (by cases safe <;> decide) (by cases safe <;> decide)
  unfold restL
  dsimp only
  split
  · exact ⟨h1, by show (placeL _ _).1 ≤ 43; omega, by first | decide | (dsimp only; omega) | (simp; done), by first | decide | (dsimp only; omega) | (simp; done), by first | decide | (dsimp only; omega) | (simp; done)⟩
  split
  · exact ⟨by first | decide | (dsimp only; omega) | (simp; done), by first | decide | (dsimp only; omega) | (simp; done), by first | decide | (dsimp only; omega) | (simp; done), by first | decide | (dsimp only; omega) | (simp; done), by first | decide | (dsimp only; omega) | (simp; done)⟩
  · rename_i h
    have hp : pathOk (pathOf (r.drop (cutAny r [47, 63, 35]))) = true := by
      cases hc : pathOk (pathOf (r.drop (cutAny r [47, 63, 35])))
      · exact absurd hc h
      · rfl
    exact ⟨by first | decide | (dsimp only; omega) | (simp; done), by first | decide | (dsimp only; omega) | (simp; done), h3, h4, (path_byte hp).2.1⟩
theorem outOf_bd (safe : Bool) (x : Int × GHost × Int × List UInt8) (h1 : 0 ≤ x.1) (h2 : x.1 ≤ 43) (h3 : 0 ≤ x.2.2.1) (h4 : x.2.2.1 ≤ 65535) (h5 : x.2.2.2.length ≤ 2048) : 0 ≤ (outOf safe x).1 ∧ (outOf safe x).1 ≤ 43 ∧ 0 ≤ (outOf safe x).2.2.2.1 ∧ (outOf safe x).2.2.2.1 ≤ 65535 ∧ (outOf safe x).2.2.2.2.length ≤ 2048 := by
  unfold outOf
  split
  · exact ⟨by first | decide | (dsimp only; omega) | (simp; done), by first | decide | (dsimp only; omega) | (simp; done), h3, h4, h5⟩
  · exact ⟨h1, h2, by first | decide | (dsimp only; omega) | (simp; done), by first | decide | (dsimp only; omega) | (simp; done), by first | decide | (dsimp only; omega) | (simp; done)⟩
theorem urlOut_bdT (s : List UInt8) : 0 ≤ (urlOut s).1 ∧ (urlOut s).1 ≤ 43 ∧ 0 ≤ (urlOut s).2.2.2.1 ∧ (urlOut s).2.2.2.1 ≤ 65535 ∧ (urlOut s).2.2.2.2.length ≤ 2048 := by
  unfold urlOut
  split
  · obtain ⟨h1, h2, h3, h4, h5⟩ := restL_bd true (s.drop 8)
    exact outOf_bd true _ h1 h2 h3 h4 h5
  split
  · obtain ⟨h1, h2, h3, h4, h5⟩ := restL_bd false (s.drop 7)
    exact outOf_bd false _ h1 h2 h3 h4 h5
  · exact ⟨by first | decide | (dsimp only; omega) | (simp; done), by first | decide | (dsimp only; omega) | (simp; done), by first | decide | (dsimp only; omega) | (simp; done), by first | decide | (dsimp only; omega) | (simp; done), by first | decide | (dsimp only; omega) | (simp; done)⟩
theorem i64_fits {z : Int} (h1 : -1000000000000 ≤ z) (h2 : z ≤ 1000000000000) : (Lit.int .i64 z).wf = true := by
  have h : (-9223372036854775808 : Int) ≤ z ∧ z ≤ 9223372036854775807 := by omega
  simp only [Lit.wf, Bool.and_eq_true, decide_eq_true_eq]
  exact h
def tpBd (N : Nat) (t : GTpl) : Prop := t.name.length ≤ N ∧ t.text.length ≤ N ∧ t.url.2.2.2.length ≤ 2048 ∧ 0 ≤ t.url.2.2.1 ∧ t.url.2.2.1 ≤ 65535 ∧ 0 ≤ t.line ∧ t.line ≤ 1000000000
theorem tpBd.fit {N : Nat} {t : GTpl} (h : tpBd N t) (hN : N ≤ maxLen) : tpFit t := by
  obtain ⟨h1, h2, h3, h4, h5, h6, h7⟩ := h
  exact ⟨by omega, by omega, by unfold maxLen; omega, i64_fits (by omega) (by omega), i64_fits (by omega) (by omega)⟩
/-- What is known of a file's parts. -/
def AllBd (N : Nat) (T : List GTpl) (C : List GCh) : Prop := (∀ t ∈ T, tpBd N t) ∧ ∀ c ∈ C, c.name.length ≤ N
theorem chVals_e : ∀ (L : List (List UInt8)) (i : Nat) (V : List (List UInt8)), 0 ≤ (chVals L i V).1 ∧ (chVals L i V).1 ≤ 131
  | [], _, _ => ⟨Int.le_refl _, by show (0 : Int) ≤ 131; decide⟩
  | x :: L, i, V => by
    rw [chVals]
    split
    · exact ⟨by show (0 : Int) ≤ 131; decide, by show (131 : Int) ≤ 131; decide⟩
    split
    · exact ⟨by show (0 : Int) ≤ 52; decide, by show (52 : Int) ≤ 131; decide⟩
    split
    · exact ⟨by show (0 : Int) ≤ 53; decide, by show (53 : Int) ≤ 131; decide⟩
    · exact chVals_e L _ _
theorem lineT_bd {N : Nat} {x : List UInt8} {i : Nat} {T : List GTpl} {C : List GCh} (h : AllBd N T C) (hx : x.length ≤ N) (hi : i < 1000000) : 0 ≤ (lineT x i T C).1 ∧ (lineT x i T C).1 ≤ 300 ∧ ((lineT x i T C).1 = 0 → AllBd N (lineT x i T C).2.2.1 (lineT x i T C).2.2.2) := by
  obtain ⟨h1, h2⟩ := h
  have hc := chVals_e ((splitL 32 x).drop 2) 2 []
  have hn1 : (nth (splitL 32 x) 1).length ≤ N := Nat.le_trans (nth_le 1) hx
  unfold lineT
  split
  · refine ⟨?_, ?_, fun h0 => ⟨h1, fun c hm => ?_⟩⟩
    · show 0 ≤ (chLine _ _).1
      unfold chLine
      split; exact (by decide : (0 : Int) ≤ 221)
      split; exact (by decide : (0 : Int) ≤ 52)
      split; exact hc.1
      split; exact (by decide : (0 : Int) ≤ 53)
      exact (by decide : (0 : Int) ≤ 0)
    · show (chLine _ _).1 ≤ 300
      unfold chLine
      split; exact (by decide : (221 : Int) ≤ 300)
      split; exact (by decide : (52 : Int) ≤ 300)
      split; exact (by have := hc.2; show (chVals _ _ _).1 ≤ 300; omega)
      split; exact (by decide : (53 : Int) ≤ 300)
      exact (by decide : (0 : Int) ≤ 300)
    · rcases List.mem_append.1 hm with hm | hm
      · exact h2 c hm
      · rw [List.mem_singleton] at hm
        subst hm
        unfold chLine
        split; exact Nat.zero_le _
        split; exact Nat.zero_le _
        split; exact Nat.zero_le _
        split; exact Nat.zero_le _
        exact hn1
  split
  · have hu := urlOut_bdT (nth (splitL 32 x) 2)
    have ht : (textE C (unwL (nth (splitL 32 x) 3)).1) = 0 ∨ (textE C (unwL (nth (splitL 32 x) 3)).1) = 222 ∨ (textE C (unwL (nth (splitL 32 x) 3)).1) = 53 ∨ (textE C (unwL (nth (splitL 32 x) 3)).1) = 54 := by
      unfold textE
      cases partsT C (unwL (nth (splitL 32 x) 3)).1 with
      | none => exact .inr (.inl rfl)
      | some l =>
        dsimp only
        split; exact .inr (.inr (.inl rfl))
        split; exact .inr (.inr (.inr rfl))
        exact .inl rfl
    have ht3 : (unwL (nth (splitL 32 x) 3)).1.length ≤ N := Nat.le_trans (unwL_len _) (Nat.le_trans (nth_le 3) hx)
    refine ⟨?_, ?_, fun h0 => ⟨fun t hm => ?_, h2⟩⟩
    · show 0 ≤ (ckLine _ _ _ _).1
      unfold ckLine
      split; exact (by decide : (0 : Int) ≤ 221)
      split; exact (by decide : (0 : Int) ≤ 52)
      split; exact hu.1
      split; exact (by decide : (0 : Int) ≤ 131)
      split; exact (by show (0 : Int) ≤ textE _ _; omega)
      split; exact (by decide : (0 : Int) ≤ 53)
      exact (by decide : (0 : Int) ≤ 0)
    · show (ckLine _ _ _ _).1 ≤ 300
      unfold ckLine
      split; exact (by decide : (221 : Int) ≤ 300)
      split; exact (by decide : (52 : Int) ≤ 300)
      split; exact (by have := hu.2.1; show (urlOut _).1 ≤ 300; omega)
      split; exact (by decide : (131 : Int) ≤ 300)
      split; exact (by show textE _ _ ≤ (300 : Int); omega)
      split; exact (by decide : (53 : Int) ≤ 300)
      exact (by decide : (0 : Int) ≤ 300)
    · rcases List.mem_append.1 hm with hm | hm
      · exact h1 t hm
      · rw [List.mem_singleton] at hm
        subst hm
        have hz : tpBd N zeroTp := ⟨Nat.zero_le _, Nat.zero_le _, Nat.zero_le _, by decide, by decide, by decide, by decide⟩
        unfold ckLine
        split; exact hz
        split; exact hz
        split; exact hz
        split; exact hz
        split; exact hz
        split; exact hz
        exact ⟨hn1, ht3, hu.2.2.2.2, hu.2.2.1, hu.2.2.2.1, by show (0 : Int) ≤ (i : Int) + 1; omega, by show (i : Int) + 1 ≤ 1000000000; omega⟩
  · exact ⟨by show (0 : Int) ≤ 131; decide, by show (131 : Int) ≤ 300; decide, fun h0 => absurd h0 (show ¬ ((131 : Int) = 0) by decide)⟩
theorem colW_bd (x : List UInt8) (k : Nat) : 1 ≤ colW (splitL 32 x) k ∧ colW (splitL 32 x) k ≤ (x.length : Int) + 2 := by
  unfold colW
  have h := split_sum 32 x
  have h2 := colW_le (splitL 32 x) (splitL 32 x).length
  by_cases hk : k ≤ (splitL 32 x).length
  · have := h2 k hk
    rw [List.take_length] at this
    omega
  · rw [List.take_of_length_le (by omega)]
    omega
theorem tplStep_bd {N : Nat} : ∀ (L : List (List UInt8)) (i : Nat) (T : List GTpl) (C : List GCh), (∀ x ∈ L, x.length ≤ N) → i + L.length < 1000000 → AllBd N T C →
    0 ≤ (tplStep L i T C).2.2.1 ∧ (tplStep L i T C).2.2.1 ≤ 300 ∧ 0 ≤ (tplStep L i T C).2.2.2.1 ∧ (tplStep L i T C).2.2.2.1 ≤ 1000000 ∧ 0 ≤ (tplStep L i T C).2.2.2.2 ∧ (tplStep L i T C).2.2.2.2 ≤ (N : Int) + 2 ∧ ((tplStep L i T C).2.2.1 = 0 → (tplStep L i T C).2.2 = (0, 0, 0) ∧ AllBd N (tplStep L i T C).1 (tplStep L i T C).2.1)
  | [], i, T, C, _, _, h => ⟨Int.le_refl _, by show (0 : Int) ≤ 300; decide, Int.le_refl _, by show (0 : Int) ≤ 1000000; decide, Int.le_refl _, by show (0 : Int) ≤ (N : Int) + 2; omega, fun _ => ⟨rfl, h⟩⟩
  | x :: L, i, T, C, hl, hi, h => by
    have hx := hl x (List.mem_cons_self ..)
    have ih := fun T' C' => tplStep_bd L (i + 1) T' C' (fun y hy => hl y (List.mem_cons_of_mem _ hy)) (by simp at hi; omega)
    obtain ⟨h1, h2, h3⟩ := lineT_bd (i := i) h hx (by simp at hi; omega)
    rw [tplStep]
    split
    · exact ih _ _ h
    split
    · rename_i he
      have hc := colW_bd x (lineT x i T C).2.1
      refine ⟨h1, h2, ?_, ?_, ?_, ?_, fun h0 => absurd h0 he⟩
      · show (0 : Int) ≤ (i : Int) + 1; omega
      · show (i : Int) + 1 ≤ 1000000; simp at hi; omega
      · show (0 : Int) ≤ colW _ _; omega
      · show colW _ _ ≤ (N : Int) + 2; omega
    · rename_i he
      exact ih _ _ (h3 (Decidable.not_not.1 he))
theorem tplFile_bd (s : List UInt8) (hs : s.length ≤ 30000) : 0 ≤ (tplFile s).2.2.1 ∧ (tplFile s).2.2.1 ≤ 300 ∧ 0 ≤ (tplFile s).2.2.2.1 ∧ (tplFile s).2.2.2.1 ≤ 1000000 ∧ 0 ≤ (tplFile s).2.2.2.2 ∧ (tplFile s).2.2.2.2 ≤ 40000 ∧ ((tplFile s).2.2.1 = 0 → (tplFile s).2.2 = (0, 0, 0) ∧ AllBd s.length (tplFile s).1 (tplFile s).2.1) := by
  unfold tplFile
  split
  · exact ⟨by decide, by decide, by decide, by decide, by decide, by decide, fun h => absurd h (by decide)⟩
  · have hl := linesL_le s
    obtain ⟨h1, h2, h3, h4, h5, h6, h7⟩ := tplStep_bd (N := s.length) (linesL s) 0 [] [] (fun x hx => linesL_pieceV s x hx) (by omega) ⟨by simp, by simp⟩
    exact ⟨h1, h2, h3, h4, h5, by omega, h7⟩
end
end Go.Proofs.YtnkckejbkbbdlaaGreatDoor
