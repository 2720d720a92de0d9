/- Merged: TplRmP, LawTplRm. -/
import Derived.Test.YtnkckejbkbbdlaaGreatDoorTmL
import Derived.Test.YtnkckejbkbbdlaaGreatDoorLSm
import Derived.Deep.DeepCutAuto
namespace Go.Proofs.YtnkckejbkbbdlaaGreatDoor
section
open Go Go.RowKit
set_option maxRecDepth 20000
set_option linter.unusedSimpArgs false
set_option linter.unusedVariables false

/-! ### two lines ahead -/
def rmk : List UInt8 := [35, 32, 120, 10, 10]
theorem lines_rmk (s : List UInt8) : linesL (rmk ++ s) = [35, 32, 120] :: [] :: linesL s := by
  have e : splitL 10 (rmk ++ s) = [35, 32, 120] :: [] :: splitL 10 s := by
    have h1 : rmk ++ s = [35, 32, 120] ++ 10 :: ([] ++ 10 :: s) := rfl
    rw [h1, splitL_append 10 _ _ (by decide), splitL_append 10 [] s (by simp)]
  unfold linesL
  rw [e]
  obtain ⟨p, ps, hp⟩ : ∃ p ps, splitL 10 s = p :: ps := by
    cases h : splitL 10 s with
    | nil => exact absurd h (splitL_ne 10 s)
    | cons p ps => exact ⟨p, ps, rfl⟩
  have hd : dropEmpty ([35, 32, 120] :: [] :: splitL 10 s) = [35, 32, 120] :: [] :: dropEmpty (splitL 10 s) := by
    rw [hp]
    unfold dropEmpty
    have h1 : ([35, 32, 120] :: [] :: p :: ps : List (List UInt8)).getLast? = (p :: ps).getLast? := by simp [List.getLast?_cons_cons]
    rw [h1]
    split <;> rfl
  rw [hd]
  rfl
def shT (T : List GTpl) : List GTpl := T.map (fun t => { t with line := t.line + 2 })
theorem shT_name (T : List GTpl) (x : List UInt8) : (shT T).any (fun t => t.name == x) = T.any (fun t => t.name == x) := by
  unfold shT
  rw [List.any_map]
  rfl
theorem ckLine_sh (W : List (List UInt8)) (T : List GTpl) (C : List GCh) (z : Int) :
    (ckLine W (shT T) C (z + 2)).1 = (ckLine W T C z).1 ∧ (ckLine W (shT T) C (z + 2)).2.1 = (ckLine W T C z).2.1 ∧ ((ckLine W T C z).1 = 0 → (ckLine W (shT T) C (z + 2)).2.2 = { (ckLine W T C z).2.2 with line := (ckLine W T C z).2.2.line + 2 }) := by
  have hl : (shT T).length = T.length := by simp [shT]
  unfold ckLine
  rw [shT_name, hl]
  split
  · exact ⟨rfl, rfl, fun h => absurd h (show ¬ ((221 : Int) = 0) by decide)⟩
  split
  · exact ⟨rfl, rfl, fun h => absurd h (show ¬ ((52 : Int) = 0) by decide)⟩
  split
  · rename_i h; exact ⟨rfl, rfl, fun h' => absurd h' h⟩
  split
  · exact ⟨rfl, rfl, fun h => absurd h (show ¬ ((131 : Int) = 0) by decide)⟩
  split
  · rename_i h; exact ⟨rfl, rfl, fun h' => absurd h' h⟩
  split
  · exact ⟨rfl, rfl, fun h => absurd h (show ¬ ((53 : Int) = 0) by decide)⟩
  · exact ⟨rfl, rfl, fun _ => rfl⟩
theorem lineT_sh (x : List UInt8) (i : Nat) (T : List GTpl) (C : List GCh) :
    (lineT x (i + 2) (shT T) C).1 = (lineT x i T C).1 ∧ (lineT x (i + 2) (shT T) C).2.1 = (lineT x i T C).2.1 ∧ ((lineT x i T C).1 = 0 → (lineT x (i + 2) (shT T) C).2.2.1 = shT (lineT x i T C).2.2.1 ∧ (lineT x (i + 2) (shT T) C).2.2.2 = (lineT x i T C).2.2.2) := by
  have e : (((i + 2 : Nat) : Int) + 1) = ((i : Int) + 1) + 2 := by omega
  unfold lineT
  rw [e]
  obtain ⟨h1, h2, h3⟩ := ckLine_sh (splitL 32 x) T C ((i : Int) + 1)
  split
  · exact ⟨rfl, rfl, fun _ => ⟨rfl, rfl⟩⟩
  split
  · refine ⟨h1, h2, fun h => ⟨?_, rfl⟩⟩
    show shT T ++ [_] = shT (T ++ [_])
    rw [h3 h]
    simp [shT]
  · exact ⟨rfl, rfl, fun h => absurd h (show ¬ ((131 : Int) = 0) by decide)⟩
theorem tplStep_sh : ∀ (L : List (List UInt8)) (i : Nat) (T : List GTpl) (C : List GCh),
    ((tplStep L i T C).2.2.1 = 0 → tplStep L (i + 2) (shT T) C = (shT (tplStep L i T C).1, (tplStep L i T C).2.1, (tplStep L i T C).2.2)) ∧ ((tplStep L i T C).2.2.1 ≠ 0 → tplStep L (i + 2) (shT T) C = ([], [], (tplStep L i T C).2.2.1, (tplStep L i T C).2.2.2.1 + 2, (tplStep L i T C).2.2.2.2))
  | [], i, T, C => ⟨fun _ => rfl, fun h => absurd rfl h⟩
  | x :: L, i, T, C => by
    have ih := tplStep_sh L (i + 1)
    obtain ⟨h1, h2, h3⟩ := lineT_sh x i T C
    rw [tplStep, tplStep]
    split
    · exact ih T C
    split
    · rename_i he
      have he' : (lineT x (i + 2) (shT T) C).1 ≠ 0 := by rw [h1]; exact he
      rw [if_pos he', h1, h2]
      refine ⟨fun h => absurd h he, fun _ => ?_⟩
      dsimp only
      rw [show (((i + 2 : Nat) : Int) + 1) = ((i : Int) + 1) + 2 by omega]
    · rename_i he
      have he' : ¬ (lineT x (i + 2) (shT T) C).1 ≠ 0 := by rw [h1]; exact he
      obtain ⟨h4, h5⟩ := h3 (Decidable.not_not.1 he)
      rw [if_neg he', h4, h5]
      exact ih _ _
theorem tplFile_rmk (s : List UInt8) (hs : s.length ≤ 3000) : ((tplFile s).2.2.1 = 0 → tplFile (rmk ++ s) = (shT (tplFile s).1, (tplFile s).2.1, (tplFile s).2.2)) ∧ ((tplFile s).2.2.1 ≠ 0 → tplFile (rmk ++ s) = ([], [], (tplFile s).2.2.1, (tplFile s).2.2.2.1 + 2, (tplFile s).2.2.2.2)) := by
  have e1 : tplFile s = tplStep (linesL s) 0 [] [] := by unfold tplFile; rw [if_neg (by omega)]
  have e2 : tplFile (rmk ++ s) = tplStep (linesL s) 2 (shT []) [] := by
    unfold tplFile
    rw [if_neg (by simp [rmk]; omega), lines_rmk, tplStep, if_pos (.inr (by decide)), tplStep, if_pos (.inl rfl)]
    rfl
  rw [e1, e2]
  exact tplStep_sh (linesL s) 0 [] []
/-! ### the numbers -/
theorem placeL_bd (s : List UInt8) (p : Int) (h1 : 0 ≤ p) (h2 : p ≤ 65535) : 0 ≤ (placeL s p).1 ∧ (placeL s p).1 ≤ 42 ∧ 0 ≤ (placeL s p).2.2 ∧ (placeL s p).2.2 ≤ 65535 := by
  unfold placeL
  dsimp only
  split
  · exact ⟨by first | decide | (dsimp only; omega) | (simp; done), by first | decide | (dsimp only; omega) | (simp; done), by first | decide | (dsimp only; omega) | (simp; done), by first | decide | (dsimp only; omega) | (simp; done)⟩
  split
  · exact ⟨by first | decide | (dsimp only; omega) | (simp; done), by first | decide | (dsimp only; omega) | (simp; done), h1, h2⟩
  split
  · exact ⟨by first | decide | (dsimp only; omega) | (simp; done), by first | decide | (dsimp only; omega) | (simp; done), by first | decide | (dsimp only; omega) | (simp; done), by first | decide | (dsimp only; omega) | (simp; done)⟩
  · rename_i h
    simp only [not_or, Int.not_lt] at h
    exact ⟨by first | decide | (dsimp only; omega) | (simp; done), by first | decide | (dsimp only; omega) | (simp; done), by show (0 : Int) ≤ numV _; omega, h.2.2⟩
theorem restL_bd (safe : Bool) (r : List UInt8) : 0 ≤ (restL safe r).1 ∧ (restL safe r).1 ≤ 43 ∧ 0 ≤ (restL safe r).2.2.1 ∧ (restL safe r).2.2.1 ≤ 65535 ∧ (restL safe r).2.2.2.length ≤ 2048 := by
  obtain ⟨h1, h2, h3, h4⟩ := placeL_bd (r.take (cutAny r [47, 63, 35])) (usualP safe) (by cases safe <;> decide) (by cases safe <;> decide)
  unfold restL
  dsimp only
  split
  · exact ⟨h1, by show (placeL _ _).1 ≤ 43; omega, by first | decide | (dsimp only; omega) | (simp; done), by first | decide | (dsimp only; omega) | (simp; done), by first | decide | (dsimp only; omega) | (simp; done)⟩
  split
  · exact ⟨by first | decide | (dsimp only; omega) | (simp; done), by first | decide | (dsimp only; omega) | (simp; done), by first | decide | (dsimp only; omega) | (simp; done), by first | decide | (dsimp only; omega) | (simp; done), by first | decide | (dsimp only; omega) | (simp; done)⟩
  · rename_i h
    have hp : pathOk (pathOf (r.drop (cutAny r [47, 63, 35]))) = true := by
      cases hc : pathOk (pathOf (r.drop (cutAny r [47, 63, 35])))
      · exact absurd hc h
      · rfl
    exact ⟨by first | decide | (dsimp only; omega) | (simp; done), by first | decide | (dsimp only; omega) | (simp; done), h3, h4, (path_byte hp).2.1⟩
theorem outOf_bd (safe : Bool) (x : Int × GHost × Int × List UInt8) (h1 : 0 ≤ x.1) (h2 : x.1 ≤ 43) (h3 : 0 ≤ x.2.2.1) (h4 : x.2.2.1 ≤ 65535) (h5 : x.2.2.2.length ≤ 2048) : 0 ≤ (outOf safe x).1 ∧ (outOf safe x).1 ≤ 43 ∧ 0 ≤ (outOf safe x).2.2.2.1 ∧ (outOf safe x).2.2.2.1 ≤ 65535 ∧ (outOf safe x).2.2.2.2.length ≤ 2048 := by
  unfold outOf
  split
  · exact ⟨by first | decide | (dsimp only; omega) | (simp; done), by first | decide | (dsimp only; omega) | (simp; done), h3, h4, h5⟩
  · exact ⟨h1, h2, by first | decide | (dsimp only; omega) | (simp; done), by first | decide | (dsimp only; omega) | (simp; done), by first | decide | (dsimp only; omega) | (simp; done)⟩
theorem urlOut_bd (s : List UInt8) : 0 ≤ (urlOut s).1 ∧ (urlOut s).1 ≤ 43 ∧ 0 ≤ (urlOut s).2.2.2.1 ∧ (urlOut s).2.2.2.1 ≤ 65535 ∧ (urlOut s).2.2.2.2.length ≤ 2048 := by
  unfold urlOut
  split
  · obtain ⟨h1, h2, h3, h4, h5⟩ := restL_bd true (s.drop 8)
    exact outOf_bd true _ h1 h2 h3 h4 h5
  split
  · obtain ⟨h1, h2, h3, h4, h5⟩ := restL_bd false (s.drop 7)
    exact outOf_bd false _ h1 h2 h3 h4 h5
  · exact ⟨by first | decide | (dsimp only; omega) | (simp; done), by first | decide | (dsimp only; omega) | (simp; done), by first | decide | (dsimp only; omega) | (simp; done), by first | decide | (dsimp only; omega) | (simp; done), by first | decide | (dsimp only; omega) | (simp; done)⟩
theorem i64_fits {z : Int} (h1 : -1000000000000 ≤ z) (h2 : z ≤ 1000000000000) : (Lit.int .i64 z).wf = true := by
  have h : (-9223372036854775808 : Int) ≤ z ∧ z ≤ 9223372036854775807 := by omega
  simp only [Lit.wf, Bool.and_eq_true, decide_eq_true_eq]
  exact h
def tpBd (N : Nat) (t : GTpl) : Prop := t.name.length ≤ N ∧ t.text.length ≤ N ∧ t.url.2.2.2.length ≤ 2048 ∧ 0 ≤ t.url.2.2.1 ∧ t.url.2.2.1 ≤ 65535 ∧ 0 ≤ t.line ∧ t.line ≤ 1000000000
theorem tpBd.fit {N : Nat} {t : GTpl} (h : tpBd N t) (hN : N ≤ maxLen) : tpFit t := by
  obtain ⟨h1, h2, h3, h4, h5, h6, h7⟩ := h
  exact ⟨by omega, by omega, by unfold maxLen; omega, i64_fits (by omega) (by omega), i64_fits (by omega) (by omega)⟩
/-- What is known of a file's parts. -/
def AllBd (N : Nat) (T : List GTpl) (C : List GCh) : Prop := (∀ t ∈ T, tpBd N t) ∧ ∀ c ∈ C, c.name.length ≤ N
theorem chVals_e : ∀ (L : List (List UInt8)) (i : Nat) (V : List (List UInt8)), 0 ≤ (chVals L i V).1 ∧ (chVals L i V).1 ≤ 131
  | [], _, _ => ⟨Int.le_refl _, by show (0 : Int) ≤ 131; decide⟩
  | x :: L, i, V => by
    rw [chVals]
    split
    · exact ⟨by show (0 : Int) ≤ 131; decide, by show (131 : Int) ≤ 131; decide⟩
    split
    · exact ⟨by show (0 : Int) ≤ 52; decide, by show (52 : Int) ≤ 131; decide⟩
    split
    · exact ⟨by show (0 : Int) ≤ 53; decide, by show (53 : Int) ≤ 131; decide⟩
    · exact chVals_e L _ _
theorem lineT_bd {N : Nat} {x : List UInt8} {i : Nat} {T : List GTpl} {C : List GCh} (h : AllBd N T C) (hx : x.length ≤ N) (hi : i < 1000000) : 0 ≤ (lineT x i T C).1 ∧ (lineT x i T C).1 ≤ 300 ∧ ((lineT x i T C).1 = 0 → AllBd N (lineT x i T C).2.2.1 (lineT x i T C).2.2.2) := by
  obtain ⟨h1, h2⟩ := h
  have hc := chVals_e ((splitL 32 x).drop 2) 2 []
  have hn1 : (nth (splitL 32 x) 1).length ≤ N := Nat.le_trans (nth_le 1) hx
  unfold lineT
  split
  · refine ⟨?_, ?_, fun h0 => ⟨h1, fun c hm => ?_⟩⟩
    · show 0 ≤ (chLine _ _).1
      unfold chLine
      split; exact (by decide : (0 : Int) ≤ 221)
      split; exact (by decide : (0 : Int) ≤ 52)
      split; exact hc.1
      split; exact (by decide : (0 : Int) ≤ 53)
      exact (by decide : (0 : Int) ≤ 0)
    · show (chLine _ _).1 ≤ 300
      unfold chLine
      split; exact (by decide : (221 : Int) ≤ 300)
      split; exact (by decide : (52 : Int) ≤ 300)
      split; exact (by have := hc.2; show (chVals _ _ _).1 ≤ 300; omega)
      split; exact (by decide : (53 : Int) ≤ 300)
      exact (by decide : (0 : Int) ≤ 300)
    · rcases List.mem_append.1 hm with hm | hm
      · exact h2 c hm
      · rw [List.mem_singleton] at hm
        subst hm
        unfold chLine
        split; exact Nat.zero_le _
        split; exact Nat.zero_le _
        split; exact Nat.zero_le _
        split; exact Nat.zero_le _
        exact hn1
  split
  · have hu := urlOut_bd (nth (splitL 32 x) 2)
    have ht : (textE C (unwL (nth (splitL 32 x) 3)).1) = 0 ∨ (textE C (unwL (nth (splitL 32 x) 3)).1) = 222 ∨ (textE C (unwL (nth (splitL 32 x) 3)).1) = 53 ∨ (textE C (unwL (nth (splitL 32 x) 3)).1) = 54 := by
      unfold textE
      cases partsT C (unwL (nth (splitL 32 x) 3)).1 with
      | none => exact .inr (.inl rfl)
      | some l =>
        dsimp only
        split; exact .inr (.inr (.inl rfl))
        split; exact .inr (.inr (.inr rfl))
        exact .inl rfl
    have ht3 : (unwL (nth (splitL 32 x) 3)).1.length ≤ N := Nat.le_trans (unwL_len _) (Nat.le_trans (nth_le 3) hx)
    refine ⟨?_, ?_, fun h0 => ⟨fun t hm => ?_, h2⟩⟩
    · show 0 ≤ (ckLine _ _ _ _).1
      unfold ckLine
      split; exact (by decide : (0 : Int) ≤ 221)
      split; exact (by decide : (0 : Int) ≤ 52)
      split; exact hu.1
      split; exact (by decide : (0 : Int) ≤ 131)
      split; exact (by show (0 : Int) ≤ textE _ _; omega)
      split; exact (by decide : (0 : Int) ≤ 53)
      exact (by decide : (0 : Int) ≤ 0)
    · show (ckLine _ _ _ _).1 ≤ 300
      unfold ckLine
      split; exact (by decide : (221 : Int) ≤ 300)
      split; exact (by decide : (52 : Int) ≤ 300)
      split; exact (by have := hu.2.1; show (urlOut _).1 ≤ 300; omega)
      split; exact (by decide : (131 : Int) ≤ 300)
      split; exact (by show textE _ _ ≤ (300 : Int); omega)
      split; exact (by decide : (53 : Int) ≤ 300)
      exact (by decide : (0 : Int) ≤ 300)
    · rcases List.mem_append.1 hm with hm | hm
      · exact h1 t hm
      · rw [List.mem_singleton] at hm
        subst hm
        have hz : tpBd N zeroTp := ⟨Nat.zero_le _, Nat.zero_le _, Nat.zero_le _, by decide, by decide, by decide, by decide⟩
        unfold ckLine
        split; exact hz
        split; exact hz
        split; exact hz
        split; exact hz
        split; exact hz
        split; exact hz
        exact ⟨hn1, ht3, hu.2.2.2.2, hu.2.2.1, hu.2.2.2.1, by show (0 : Int) ≤ (i : Int) + 1; omega, by show (i : Int) + 1 ≤ 1000000000; omega⟩
  · exact ⟨by show (0 : Int) ≤ 131; decide, by show (131 : Int) ≤ 300; decide, fun h0 => absurd h0 (show ¬ ((131 : Int) = 0) by decide)⟩
theorem colW_bd (x : List UInt8) (k : Nat) : 1 ≤ colW (splitL 32 x) k ∧ colW (splitL 32 x) k ≤ (x.length : Int) + 2 := by
  unfold colW
  have h := split_sum 32 x
  have h2 := colW_le (splitL 32 x) (splitL 32 x).length
  by_cases hk : k ≤ (splitL 32 x).length
  · have := h2 k hk
    rw [List.take_length] at this
    omega
  · rw [List.take_of_length_le (by omega)]
    omega
theorem tplStep_bd {N : Nat} : ∀ (L : List (List UInt8)) (i : Nat) (T : List GTpl) (C : List GCh), (∀ x ∈ L, x.length ≤ N) → i + L.length < 1000000 → AllBd N T C →
    0 ≤ (tplStep L i T C).2.2.1 ∧ (tplStep L i T C).2.2.1 ≤ 300 ∧ 0 ≤ (tplStep L i T C).2.2.2.1 ∧ (tplStep L i T C).2.2.2.1 ≤ 1000000 ∧ 0 ≤ (tplStep L i T C).2.2.2.2 ∧ (tplStep L i T C).2.2.2.2 ≤ (N : Int) + 2 ∧ ((tplStep L i T C).2.2.1 = 0 → (tplStep L i T C).2.2 = (0, 0, 0) ∧ AllBd N (tplStep L i T C).1 (tplStep L i T C).2.1)
  | [], i, T, C, _, _, h => ⟨Int.le_refl _, by show (0 : Int) ≤ 300; decide, Int.le_refl _, by show (0 : Int) ≤ 1000000; decide, Int.le_refl _, by show (0 : Int) ≤ (N : Int) + 2; omega, fun _ => ⟨rfl, h⟩⟩
  | x :: L, i, T, C, hl, hi, h => by
    have hx := hl x (List.mem_cons_self ..)
    have ih := fun T' C' => tplStep_bd L (i + 1) T' C' (fun y hy => hl y (List.mem_cons_of_mem _ hy)) (by simp at hi; omega)
    obtain ⟨h1, h2, h3⟩ := lineT_bd (i := i) h hx (by simp at hi; omega)
    rw [tplStep]
    split
    · exact ih _ _ h
    split
    · rename_i he
      have hc := colW_bd x (lineT x i T C).2.1
      refine ⟨h1, h2, ?_, ?_, ?_, ?_, fun h0 => absurd h0 he⟩
      · show (0 : Int) ≤ (i : Int) + 1; omega
      · show (i : Int) + 1 ≤ 1000000; simp at hi; omega
      · show (0 : Int) ≤ colW _ _; omega
      · show colW _ _ ≤ (N : Int) + 2; omega
    · rename_i he
      exact ih _ _ (h3 (Decidable.not_not.1 he))
theorem tplFile_bd (s : List UInt8) (hs : s.length ≤ 30000) : 0 ≤ (tplFile s).2.2.1 ∧ (tplFile s).2.2.1 ≤ 300 ∧ 0 ≤ (tplFile s).2.2.2.1 ∧ (tplFile s).2.2.2.1 ≤ 1000000 ∧ 0 ≤ (tplFile s).2.2.2.2 ∧ (tplFile s).2.2.2.2 ≤ 40000 ∧ ((tplFile s).2.2.1 = 0 → (tplFile s).2.2 = (0, 0, 0) ∧ AllBd s.length (tplFile s).1 (tplFile s).2.1) := by
  unfold tplFile
  split
  · exact ⟨by decide, by decide, by decide, by decide, by decide, by decide, fun h => absurd h (by decide)⟩
  · have hl := linesL_le s
    obtain ⟨h1, h2, h3, h4, h5, h6, h7⟩ := tplStep_bd (N := s.length) (linesL s) 0 [] [] (fun x hx => linesL_pieceV s x hx) (by omega) ⟨by simp, by simp⟩
    exact ⟨h1, h2, h3, h4, h5, by omega, h7⟩
end

section
open Go Go.RowKit
set_option maxRecDepth 20000
set_option linter.unusedSimpArgs false
set_option linter.unusedVariables false

/-! ### lines set back, one by one -/
theorem encs_line (T : List GTpl) (k : Nat) (hk : k < T.length) (z : Int) : tpCod.encs (T.set k { (T[k]'hk) with line := z }) = (tpCod.encs T).set (k * 24 + 23) (.int .i64 z) := by
  induction T generalizing k with
  | nil => exact absurd hk (Nat.not_lt_zero _)
  | cons t T ih =>
    have e : ∀ (a : GTpl) (l : List GTpl), tpCod.encs (a :: l) = tpR a ++ tpCod.encs l := fun a l => by simp [Cod.encs, tpCod]
    cases k with
    | zero =>
      rw [List.set_cons_zero, e, e, List.set_append_left _ _ (by rw [tpR_length]; decide)]
      congr 1
      unfold tpR
      simp [List.set_append, urlR_length]
    | succ k =>
      have hk' : k < T.length := by simpa using hk
      have := ih k hk'
      rw [List.set_cons_succ, e, e, List.getElem_cons_succ, this, List.set_append_right _ _ (by rw [tpR_length]; omega), tpR_length]
      congr 2
      omega
def mixT (T : List GTpl) (k : Nat) : List GTpl := T.take k ++ shT (T.drop k)
theorem mixT_zero (T : List GTpl) : mixT T 0 = shT T := by simp [mixT]
theorem mixT_all (T : List GTpl) : mixT T T.length = T := by simp [mixT, shT]
theorem mixT_len (T : List GTpl) (k : Nat) : (mixT T k).length = T.length := by simp [mixT, shT]; omega
theorem mixT_at (T : List GTpl) (k : Nat) (hk : k < T.length) (hk' : k < (mixT T k).length) : (mixT T k)[k]'hk' = { (T[k]'hk) with line := (T[k]'hk).line + 2 } := by
  have hl : (T.take k).length = k := by rw [List.length_take]; omega
  have h : (mixT T k)[k]? = some { (T[k]'hk) with line := (T[k]'hk).line + 2 } := by
    unfold mixT
    rw [List.getElem?_append_right (by omega), hl, Nat.sub_self, List.drop_eq_getElem_cons hk]
    rfl
  rw [List.getElem?_eq_getElem hk'] at h
  exact Option.some.inj h
theorem mixT_succ (T : List GTpl) (k : Nat) (hk : k < T.length) (hk' : k < (mixT T k).length) : (mixT T k).set k { ((mixT T k)[k]'hk') with line := (T[k]'hk).line } = mixT T (k + 1) := by
  rw [mixT_at T k hk]
  have hl : (T.take k).length = k := by rw [List.length_take]; omega
  unfold mixT
  rw [List.set_append_right _ _ (by omega), hl, Nat.sub_self, List.drop_eq_getElem_cons hk, List.take_succ_eq_append_getElem hk]
  show T.take k ++ (shT (T[k]'hk :: T.drop (k + 1))).set 0 _ = _
  unfold shT
  rw [List.map_cons, List.set_cons_zero, List.append_assoc]
  rfl
theorem listAt_line {w : World} {g : Nat} {T : List GTpl} (h : ListAt tpCod w g 0 T) (k : Nat) (hk : k < T.length) (z : Int) : ListAt tpCod (w.setCell ⟨g, k * 24 + 23, none⟩ (.int .i64 z)) g 0 (T.set k { (T[k]'hk) with line := z }) := fun j u hj => by
  rw [encs_line T k hk z] at hj
  have h23 : ∃ v, (tpCod.encs T)[k * 24 + 23]? = some v := by
    have := tpCod.encs_get T k hk 23 (by decide)
    have e2 := tpV_23 (T[k]'hk)
    rw [tpV, List.getElem?_toArray] at e2
    exact ⟨_, this.trans e2⟩
  obtain ⟨v23, h23⟩ := h23
  have hc := h _ _ h23
  rw [Nat.zero_add] at hc ⊢
  obtain ⟨c, t, fr, hh, hlt⟩ : ∃ c t fr, w.heap[g]? = some (.cells c t fr) ∧ k * 24 + 23 < c.size := by
    unfold World.cell? at hc
    cases hg : w.heap[g]? with
    | none => rw [hg] at hc; cases hc
    | some o =>
      rw [hg] at hc
      cases o with
      | cells c t fr =>
        refine ⟨c, t, fr, rfl, ?_⟩
        have hc' : c[k * 24 + 23]? = some v23 := hc
        exact (Array.getElem?_eq_some_iff.1 hc').1
      | _ => cases hc
  have hset : (w.setCell ⟨g, k * 24 + 23, none⟩ (.int .i64 z)).cell? ⟨g, j, none⟩ = (c.setIfInBounds (k * 24 + 23) (.int .i64 z))[j]? := by
    simp [World.cell?, World.setCell, Array.getElem?_modify, hh]
  rw [hset]
  by_cases hjk : j = k * 24 + 23
  · subst hjk
    rw [List.getElem?_set_self (List.getElem?_eq_some_iff.1 h23).1] at hj
    cases hj
    simp [hlt]
  · rw [List.getElem?_set_ne (by omega)] at hj
    have h1 := h _ _ hj
    rw [Nat.zero_add] at h1
    simp only [World.cell?, hh] at h1
    rw [Array.getElem?_setIfInBounds_ne (by omega)]
    exact h1
theorem ChsOk.apart {w w' : World} {lo g : Nat} {R : List RCh} {C : List GCh} (h : ChsOk w lo R C) (hv : ValsOk w lo R) (hk : ∀ q, q < w.heap.size → q ≠ g → w'.heap[q]? = w.heap[q]?) (hsz : w.heap.size ≤ w'.heap.size) (hg : ∀ cur fz, w.heap[g]? ≠ some (.cells cur 9 fz)) : ChsOk w' lo R C := by
  refine ⟨h.1, fun i h1 h2 => ?_⟩
  obtain ⟨e1, e2, e3, e4⟩ := h.2 i h1 h2
  refine ⟨e1, e2, e3, ?_⟩
  rcases e4 with e4 | ⟨q, o, e5, e6, e7, e8⟩
  · exact .inl e4
  · by_cases h0 : (C[i]'h2).vals = []
    · exact .inl h0
    · have hne : (R[i]'h1).n ≠ 0 := by rw [e2]; exact fun e => h0 (List.eq_nil_of_length_eq_zero e)
      obtain ⟨q', o', cur, fz, f1, _, f2⟩ := (hv _ (List.getElem_mem h1)).resolve_left hne
      rw [e5] at f1
      cases f1
      have hh := hk q e7 (fun e => by subst e; exact hg _ _ f2)
      exact .inr ⟨q, o, e5, e6, by omega, fun j u hj => by rw [World.cell?_of_block (a := ⟨q, _, none⟩) hh]; exact e8 j u hj⟩
theorem shT_len (T : List GTpl) : (shT T).length = T.length := by simp [shT]
set_option maxRecDepth 100000 in
set_option maxHeartbeats 8000000 in
theorem tplRm_law (s : List UInt8) (m : Int) (w : World) (hm : HasMax m w) :
    Calls Tryz.prog 7 #[.string ⟨s.toArray⟩] w fun e w' => e = .returned (.bool true) ∧ Below w.heap.size w w' := by
  have HAL : Hid (∀ w', HasMax m w' → Calls Tryz.prog 9 #[] w' fun e w'' => e = .returned (.bool true) ∧ Below w'.heap.size w' w'') := fun w' h => tplAlive_any m w' h
  by_cases hlong : (3000 : Int) < s.length
  · go_enter Tryz.func7, Tryz.ntmps7
    go_wp2_with (go_at_call 9; (with_reducible refine (HAL.out _ hm).mono ?_); rintro e w1 ⟨rfl, hb1⟩; obtain ⟨p1, rfl⟩ := grown_of hb1; clear hb1)
    go_ret
    exact ⟨rfl, (by repeat (first | exact Below.refl _ _ | assumption | refine below_grown ?_ (by first | omega | (simp [go_sem]; done) | (simp [go_sem] <;> omega)) _ | refine Below.alloc ?_ (by first | omega | (simp [go_sem]; done) | (simp [go_sem] <;> omega)) _ | refine below_bytesW ?_ (by first | omega | (simp [go_sem]; done) | (simp [go_sem] <;> omega)) _ | refine Below.drew ?_ | refine below_drewN ?_ _))⟩
  · have hs : s.length ≤ 3000 := by omega
    have HF : Hid (∀ w, HasMax m w → Calls Tryz.prog 8 #[.string ⟨s.toArray⟩] w (FileGives (tplFile s) w)) := fun w a => tplFile_any s m w a
    have HF2 : Hid (∀ w, HasMax m w → Calls Tryz.prog 8 #[.string ⟨(rmk ++ s).toArray⟩] w (FileOwn (tplFile (rmk ++ s)) w)) := fun w a => tplFile_own (rmk ++ s) m w a
    have hrm := tplFile_rmk s hs
    have hbd := tplFile_bd s (by omega)
    have hkeep := tplFile_keeps s
    have hcat : rmk ++ s = 35 :: 32 :: 120 :: 10 :: 10 :: s := rfl
    rw [hcat] at HF2 hrm
    clear hcat
    generalize tplFile (35 :: 32 :: 120 :: 10 :: 10 :: s) = out2 at *
    generalize tplFile s = out at *
    obtain ⟨T, C, fc, fl, fk⟩ := out
    dsimp only at hrm hbd hkeep
    obtain ⟨d1, d2, d3, d4, d5, d6, d7⟩ := hbd
    by_cases h0 : fc = 0
    · obtain ⟨hf0, hall⟩ := d7 h0
      have hrm1 := hrm.1 h0
      obtain ⟨rfl, rfl, rfl⟩ : fc = 0 ∧ fl = 0 ∧ fk = 0 := by simpa using hf0
      subst hrm1
      obtain ⟨hO, hLn⟩ : RdOk s.length T C ∧ LnOk (s.length + 1) T C := by
        rcases hkeep with ⟨_, h1, h2⟩ | ⟨h, _⟩
        · exact ⟨h1, h2⟩
        · exact absurd rfl h
      obtain ⟨hT8, hC6, hTx, hCv⟩ := hO
      have HLN : Hid (∀ t ∈ T, 0 ≤ t.line ∧ t.line ≤ 1000000000) := fun t ht => ⟨(hall.1 t ht).2.2.2.2.2.1, (hall.1 t ht).2.2.2.2.2.2⟩
      have HFIT : Hid (∀ t ∈ T, tpFit t) := fun t ht => (hall.1 t ht).fit (by unfold maxLen; omega)
      have HCF : Hid (∀ c ∈ C, c.name.length ≤ maxLen ∧ c.vals.length ≤ 1000) := fun c hc => ⟨by have := hall.2 c hc; unfold maxLen; omega, by have := (hCv c hc).1; omega⟩
      have g0 : (Lit.int .i64 0).wf = true := rfl
      have he : faultEq 0 0 0 0 0 0 = true := rfl
      have n1 : ¬ 9223372036854775807 < s.length + 5 := by omega
      have n2 : ¬ 9223372036854775807 < 5 + s.length := by omega
      clear hrm hf0 hall hLn hTx hCv d1 d2 d3 d4 d5 d6 d7 hlong h0
      go_enter Tryz.func7, Tryz.ntmps7
      go_upto_region 6 with (first
        | (go_at_call 9; (with_reducible refine (HAL.out _ hm).mono ?_); rintro e w1 ⟨rfl, hb1⟩; obtain ⟨p1, rfl⟩ := grown_of hb1; clear hb1)
        | (go_at_call 8; (with_reducible refine (HF.out _ (hm.grown p1)).mono ?_); rintro e w1 ⟨aT, cT, aC, cC, R, rfl, hcT, hcC, hb1, hlT, hlC, hCs⟩; have HB1 := Lib.hid hb1; have HLT1 := Lib.hid hlT; have HLC1 := Lib.hid hlC; have HCS1 := Lib.hid hCs; clear hb1 hlT hlC hCs))
      have hs1 := HB1.out.size
      rw [size_grown] at hs1
      have HBW : Hid (Below w.heap.size w (w1.alloc (Obj.cells (faultV 0 0 0) 24))) := ((below_grown' w p1).trans (HB1.out.mono (by rw [size_grown]; omega))).alloc (by omega) _
      have HV : Hid (Var (w1.alloc (Obj.cells (faultV 0 0 0) 24)) w1.heap.size (faultR 0 0 0)) := Var.new _ _ _ rfl rfl
      have HLT : Hid (ListIn tpCod (w1.alloc (Obj.cells (faultV 0 0 0) 24)) aT T 0) := (HLT1.out.mono (Nat.zero_le _)).alloc _
      have HLC : Hid (ListIn chCod (w1.alloc (Obj.cells (faultV 0 0 0) 24)) aC R 0) := (HLC1.out.mono (Nat.zero_le _)).alloc _
      have HCS : Hid (ChsOk (w1.alloc (Obj.cells (faultV 0 0 0) 24)) 0 R C) := (HCS1.out.mono (Nat.zero_le _)).below ((Below.refl _ _).alloc (Nat.le_refl _) _)
      clear HLT1 HLC1 HCS1 HB1
      generalize w1.alloc (Obj.cells (faultV 0 0 0) 24) = w2 at *
      generalize w1.heap.size = p5 at *
      have hm2 := hm.below HBW.out
      have hsz2 := HBW.out.size
      have hp5 := HV.out.lt
      go_upto_region 7 with (go_at_call 8; (with_reducible refine (HF2.out _ hm2).mono ?_); rintro e w3 ⟨vT, vC, R2, rfl, hb3, hoT, hoC, hCs2, hVs2⟩; have HB3 := Lib.hid hb3; have HOT := Lib.hid hoT; have HOC := Lib.hid hoC; have HCS2 := Lib.hid hCs2; have HVS2 := Lib.hid hVs2; obtain ⟨aC2, cC2, rfl, hcC2, hlC2⟩ := hoC.slice (B := w2.heap.size) (fun _ h => from_le h); have HLC2 := Lib.hid hlC2; clear hb3 hoT hoC hCs2 hVs2 hlC2)
      have hs3 := HB3.out.size
      have hRC2 := HCS2.out.1
      obtain ⟨w4, hw4⟩ : ∃ w4, w3.alloc (Obj.cells (faultV 0 0 0) 24) = w4 := ⟨_, rfl⟩
      have HB4 : Hid (Below w3.heap.size w3 w4) := by rw [← hw4]; exact (Below.refl _ _).alloc (Nat.le_refl _) _
      have HV8 : Hid (Var w4 w3.heap.size (faultR 0 0 0)) := by rw [← hw4]; exact Var.new _ _ _ rfl rfl
      rw [hw4]
      clear hw4
      have HBW4 : Hid (Below w.heap.size w w4) := HBW.out.trans ((HB3.out.mono hsz2).trans (HB4.out.mono (by omega)))
      have HB24 : Hid (Below w2.heap.size w2 w4) := HB3.out.trans (HB4.out.mono hs3)
      have HV54 := Lib.hid (HV.out.below HB24.out)
      obtain ⟨p8, hp8⟩ : ∃ p8, w3.heap.size = p8 := ⟨_, rfl⟩
      rw [hp8] at HV8
      simp only [hp8]
      have HP8 := Lib.hid hp8
      clear hp8
      have c50 : w4.cell? ⟨p5, 0, none⟩ = some (.int .i64 0) := HV54.out.cell 0 (by simp [faultR])
      have i5 : isOld p5 w4 = true := isOld_iff.2 HV54.out.lt
      have i8 : isOld p8 w4 = true := isOld_iff.2 HV8.out.lt
      have hs4 := HB4.out.size
      rcases HOT.out.form with ⟨rfl, hnil⟩ | ⟨g, cT2, rfl, hcT2, hQg, hg3, hatg, hfrz⟩
      · obtain rfl : T = [] := by
          cases T with
          | nil => rfl
          | cons t T => simp [shT] at hnil
        clear hnil
        have HSAME : Hid (∀ w', Below w4.heap.size w4 w' → Calls Tryz.prog 11 #[.slice aT 0 cT, .slice none 0 0, .slice aC C.length cC, .slice aC2 C.length cC2] w' fun e w'' => e = .returned (.bool true) ∧ Below w'.heap.size w' w'') := fun w' hb => by
          have hb2 := HB24.out.trans (hb.mono HB24.out.size)
          have := refTplSame_any [] C R R2 aT none aC aC2 cT 0 cC cC2 (by decide) hC6 (fun t ht => absurd ht (List.not_mem_nil)) HCF.out w' (.inl rfl) (.inl rfl) (HLC.out.below hb2) (((HLC2.out.mono (Nat.zero_le _)).below HB4.out).below hb) (HCS.out.below hb2) (((HCS2.out.mono (Nat.zero_le _)).below HB4.out).below hb)
          exact this
        have r8 : hasRow w4 ⟨p8, 0, none⟩ 3 = true := HV8.out.hasRow rfl
        have q8 : rowAt w4 ⟨p8, 0, none⟩ 3 = faultV 0 0 0 := HV8.out.rowAt rfl
        have r5 : hasRow w4 ⟨p5, 0, none⟩ 3 = true := HV54.out.hasRow rfl
        have q5 : rowAt w4 ⟨p5, 0, none⟩ 3 = faultV 0 0 0 := HV54.out.rowAt rfl
        clear HOT
        go_wp2
        go_loopw [53] (fun i wr => i = .int .i64 0 ∧ wr = w4) (fun i _ => 0)
        case atStart => exact ⟨rfl, rfl⟩
        case round =>
          obtain ⟨rfl, rfl⟩ := hrel
          go_wp2_with (go_at_call 11; (with_reducible refine (HSAME.out _ (Below.refl _ _)).mono ?_); rintro e w1 ⟨rfl, hb1⟩; obtain ⟨p1, rfl⟩ := grown_of hb1; clear hb1)
          go_ret
          exact ⟨by first | rfl | exact ret_bool (by simp), HBW4.out.trans (Below.mono (B := wr.heap.size) (by repeat (first | exact Below.refl _ _ | assumption | refine below_grown ?_ (by first | omega | (simp [go_sem]; done) | (simp [go_sem] <;> omega)) _ | refine Below.alloc ?_ (by first | omega | (simp [go_sem]; done) | (simp [go_sem] <;> omega)) _ | refine below_bytesW ?_ (by first | omega | (simp [go_sem]; done) | (simp [go_sem] <;> omega)) _ | refine Below.drew ?_ | refine below_drewN ?_ _)) HBW4.out.size)⟩
      · have hg2 : w2.heap.size ≤ g := from_le hQg
        have hpg5 : p5 ≠ g := by omega
        have hpg8 : p8 ≠ g := by have := HP8.out; omega
        rw [shT_len] at hcT2
        simp only [shT_len]
        have HEL := Lib.hid (own_elem HOT.out (g := g) rfl)
        have HATG := Lib.hid hatg
        have HFRZ := Lib.hid hfrz
        clear hatg hfrz HOT
        go_wp2
        go_loopw [53] (fun i wr => ∃ k : Nat, k ≤ T.length ∧ i = .int .i64 k ∧ Keeps (fun q => q = g) w4 wr ∧ ListAt tpCod wr g 0 (mixT T k) ∧ Hid (∀ j, wr.frozen? ⟨g, j, none⟩ = false)) (fun i _ => T.length - (intOf i).toNat)
        case atStart => exact ⟨0, Nat.zero_le _, rfl, Keeps.refl _ _, by rw [mixT_zero]; exact HATG.out.below HB4.out, fun j => (World.frozen?_of_block (a := ⟨g, j, none⟩) (HB4.out.block g hg3)).trans (HFRZ.out j)⟩
        case round =>
          obtain ⟨k, hk, rfl, hkp, hat, hfz⟩ := hrel
          have hszr := hkp.size
          have hgr : g < wr.heap.size := by omega
          have ig : isOld g wr = true := isOld_iff.2 hgr
          have HKP := Lib.hid hkp
          have HAT := Lib.hid hat
          clear hkp hat
          by_cases hlt : k < T.length
          · have hlm : k < (mixT T k).length := by rw [mixT_len]; exact hlt
            have hln := HLN.out _ (List.getElem_mem hlt)
            have hc := HAT.out.get k hlm 23 (.int .i64 ((T[k]'hlt).line + 2)) (by
              have h9 := tpV_23 ((mixT T k)[k]'hlm)
              rw [tpV, List.getElem?_toArray, mixT_at T k hlt hlm] at h9
              show (tpR ((mixT T k)[k]'hlm))[23]? = _
              rw [mixT_at T k hlt hlm]
              exact h9)
            have c23 : wr.cell? ⟨g, k * 24 + 23, none⟩ = some (.int .i64 ((T[k]'hlt).line + 2)) := by rwa [show 0 + (k * tpCod.sz + 23) = k * 24 + 23 by show 0 + (k * 24 + 23) = _; omega] at hc
            have hfk := hfz.out (k * 24 + 23)
            have hnext : ListAt tpCod (wr.setCell ⟨g, k * 24 + 23, none⟩ (.int .i64 (T[k]'hlt).line)) g 0 (mixT T (k + 1)) := by
              have h9 := listAt_line HAT.out k hlm (T[k]'hlt).line
              rwa [mixT_succ T k hlt hlm] at h9
            have HNX := Lib.hid hnext
            have hki : (k : Int) < (T.length : Int) := by omega
            clear hc hnext
            generalize (T[k]'hlt).line = z at *
            have hwr : IntKind.i64.wrap (z + 2 - 2) = z := by rw [IntWalk.i64_in _ (by omega)]; omega
            go_wp2
            go_roundw
            case rel => exact ⟨k + 1, by omega, by go_num, keeps_setCell HKP.out (.inr rfl) _, HNX.out, fun j => by have := hfz.out j; simpa [go_sem] using this⟩
            case measure => simp [intOf]; omega
          · obtain rfl : k = T.length := by omega
            have HATT := Lib.hid HAT.out
            rw [mixT_all] at HATT
            clear HAT hfz
            have HB2r : Hid (Below w2.heap.size w2 wr) := HB24.out.trans (HKP.out.below fun q hq => ⟨by have := HB24.out.size; omega, fun h => by omega⟩)
            have HV8r := Lib.hid (HV8.out.keeps HKP.out hpg8)
            have HV5r := Lib.hid (HV54.out.keeps HKP.out hpg5)
            have r8 : hasRow wr ⟨p8, 0, none⟩ 3 = true := HV8r.out.hasRow rfl
            have q8 : rowAt wr ⟨p8, 0, none⟩ 3 = faultV 0 0 0 := HV8r.out.rowAt rfl
            have r5 : hasRow wr ⟨p5, 0, none⟩ 3 = true := HV5r.out.hasRow rfl
            have q5 : rowAt wr ⟨p5, 0, none⟩ 3 = faultV 0 0 0 := HV5r.out.rowAt rfl
            have j5 : isOld p5 wr = true := isOld_iff.2 HV5r.out.lt
            have j8 : isOld p8 wr = true := isOld_iff.2 HV8r.out.lt
            have hblk : ∀ q, q < w3.heap.size → q ≠ g → wr.heap[q]? = w3.heap[q]? := fun q hq hne => (HKP.out.block q (by omega) hne).trans (HB4.out.block q hq)
            obtain ⟨curT, hcurT⟩ := HEL.out
            have hLC2 : ListIn chCod wr aC2 R2 0 := by
              have h9 := HOC.out.blocks (w' := wr) (fun q hq hl => hblk q hl (fun e => by
                subst e
                obtain ⟨cur, h8⟩ := own_elem HOC.out hq
                rw [hcurT] at h8
                have e3 : tpCod.E = chCod.E := by simp only [Option.some.injEq, Obj.cells.injEq] at h8; exact h8.2.1
                exact absurd e3 (by decide)))
              rcases h9.form with ⟨hv, hn⟩ | ⟨q, c9, hv, _, _, hl, hat, _⟩
              · exact .inl hn
              · cases hv
                exact .inr ⟨q, 0, rfl, Nat.zero_le _, hl, hat⟩
            have hCS2 : ChsOk wr 0 R2 C := (HCS2.out.apart HVS2.out hblk (by omega) (fun cur fz h8 => by
              rw [hcurT] at h8
              have e3 : tpCod.E = 9 := by simp only [Option.some.injEq, Obj.cells.injEq] at h8; exact h8.2.1
              exact absurd e3 (by decide))).mono (Nat.zero_le _)
            have HSAME : Hid (∀ w', Below wr.heap.size wr w' → Calls Tryz.prog 11 #[.slice aT T.length cT, .slice (some ⟨g, 0, none⟩) T.length cT2, .slice aC C.length cC, .slice aC2 C.length cC2] w' fun e w'' => e = .returned (.bool true) ∧ Below w'.heap.size w' w'') := fun w' hb => by
              have hb2 := HB2r.out.trans (hb.mono HB2r.out.size)
              have := refTplSame_any T C R R2 aT (some ⟨g, 0, none⟩) aC aC2 cT cT2 cC cC2 hT8 hC6 HFIT.out HCF.out w' (HLT.out.below hb2) (.inr ⟨g, 0, rfl, Nat.zero_le _, by have := hb.size; omega, HATT.out.below hb⟩) (HLC.out.below hb2) (hLC2.below hb) (HCS.out.below hb2) (hCS2.below hb)
              exact this
            have hbwr : Below w.heap.size w wr := HBW.out.trans (HB2r.out.mono hsz2)
            clear hLC2 hCS2 hblk hcurT HEL
            go_wp2_with (go_at_call 11; (with_reducible refine (HSAME.out _ (Below.refl _ _)).mono ?_); rintro e w1 ⟨rfl, hb1⟩; obtain ⟨p1, rfl⟩ := grown_of hb1; clear hb1)
            go_ret
            exact ⟨by first | rfl | exact ret_bool (by simp), hbwr.trans (Below.mono (B := wr.heap.size) (by repeat (first | exact Below.refl _ _ | assumption | refine below_grown ?_ (by first | omega | (simp [go_sem]; done) | (simp [go_sem] <;> omega)) _ | refine Below.alloc ?_ (by first | omega | (simp [go_sem]; done) | (simp [go_sem] <;> omega)) _ | refine below_bytesW ?_ (by first | omega | (simp [go_sem]; done) | (simp [go_sem] <;> omega)) _ | refine Below.drew ?_ | refine below_drewN ?_ _)) hbwr.size)⟩
    · obtain rfl := hrm.2 h0
      have h0i : (fc != 0) = true := by rw [bne_iff_ne]; exact h0
      have g1 : (Lit.int .i64 fc).wf = true := i64_fits (by omega) (by omega)
      have g2 : (Lit.int .i64 (fl + 2)).wf = true := i64_fits (by omega) (by omega)
      have g3 : (Lit.int .i64 fk).wf = true := i64_fits (by omega) (by omega)
      have hwr : IntKind.i64.wrap (fl + 2) = fl + 2 := IntWalk.i64_in _ (by omega)
      have he : faultEq fc (fl + 2) fk fc (fl + 2) fk = true := faultEq_iff.2 ⟨rfl, rfl, rfl⟩
      have n1 : ¬ 9223372036854775807 < s.length + 5 := by omega
      have n2 : ¬ 9223372036854775807 < 5 + s.length := by omega
      clear hrm hkeep d7 hlong
      go_enter Tryz.func7, Tryz.ntmps7
      go_upto_region 6 with (first
        | (go_at_call 9; (with_reducible refine (HAL.out _ hm).mono ?_); rintro e w1 ⟨rfl, hb1⟩; obtain ⟨p1, rfl⟩ := grown_of hb1; clear hb1)
        | (go_at_call 8; (with_reducible refine (HF.out _ (hm.grown p1)).mono ?_); rintro e w1 ⟨aT, cT, aC, cC, R, rfl, hcT, hcC, hb1, hlT, hlC, hCs⟩; have HB1 := Lib.hid hb1; clear hb1 hlT hlC hCs))
      have hs1 := HB1.out.size
      rw [size_grown] at hs1
      have HBW : Hid (Below w.heap.size w (w1.alloc (Obj.cells (faultV fc fl fk) 24))) := ((below_grown' w p1).trans (HB1.out.mono (by rw [size_grown]; omega))).alloc (by omega) _
      have HV : Hid (Var (w1.alloc (Obj.cells (faultV fc fl fk) 24)) w1.heap.size (faultR fc fl fk)) := Var.new _ _ _ rfl rfl
      generalize w1.alloc (Obj.cells (faultV fc fl fk) 24) = w2 at *
      generalize w1.heap.size = p5 at *
      have hm2 := hm.below HBW.out
      have hsz2 := HBW.out.size
      go_upto_region 7 with (go_at_call 8; (with_reducible refine (HF2.out _ hm2).mono ?_); rintro e w3 ⟨vT, vC, R2, rfl, hb3, hoT, hoC, hCs, hVs⟩; have HB3 := Lib.hid hb3; obtain ⟨aT2, cT2, rfl, _, _⟩ := hoT.slice (B := 0) (fun _ _ => Nat.zero_le _); obtain ⟨aC2, cC2, rfl, _, _⟩ := hoC.slice (B := 0) (fun _ _ => Nat.zero_le _); obtain rfl : R2 = [] := List.eq_nil_of_length_eq_zero hCs.1; clear hb3 hCs hVs)
      have hs3 := HB3.out.size
      have HBW3 : Hid (Below w.heap.size w (w3.alloc (Obj.cells (faultV fc (fl + 2) fk) 24))) := (HBW.out.trans (HB3.out.mono hsz2)).alloc (by omega) _
      have HV5 := Lib.hid ((HV.out.below HB3.out).alloc (Obj.cells (faultV fc (fl + 2) fk) 24))
      have HV8 : Hid (Var (w3.alloc (Obj.cells (faultV fc (fl + 2) fk) 24)) w3.heap.size (faultR fc (fl + 2) fk)) := Var.new _ _ _ rfl rfl
      generalize w3.alloc (Obj.cells (faultV fc (fl + 2) fk) 24) = w4 at *
      generalize w3.heap.size = p8 at *
      have c50 : w4.cell? ⟨p5, 0, none⟩ = some (.int .i64 fc) := HV5.out.cell 0 (by simp [faultR])
      have c51 : w4.cell? ⟨p5, 1, none⟩ = some (.int .i64 fl) := HV5.out.cell 1 (by simp [faultR])
      have c52 : w4.cell? ⟨p5, 2, none⟩ = some (.int .i64 fk) := HV5.out.cell 2 (by simp [faultR])
      have r8 : hasRow w4 ⟨p8, 0, none⟩ 3 = true := HV8.out.hasRow rfl
      have q8 : rowAt w4 ⟨p8, 0, none⟩ 3 = faultV fc (fl + 2) fk := HV8.out.rowAt rfl
      go_wp2
      go_ret
      exact ⟨by first | rfl | exact ret_bool (by simp), HBW3.out⟩
end
end Go.Proofs.YtnkckejbkbbdlaaGreatDoor
