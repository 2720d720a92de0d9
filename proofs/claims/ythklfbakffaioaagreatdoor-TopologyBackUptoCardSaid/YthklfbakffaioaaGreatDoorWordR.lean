/- The walks of the document's Word. -/
import Derived.Test.YthklfbakffaioaaGreatDoorWord
namespace Go.Proofs.YthklfbakffaioaaGreatDoor
open Go Go.RowKit

theorem OwnB.made0 (B : Nat) (w : World) (h : B ≤ w.heap.size) : OwnB B (w.alloc (.cells #[] 5)) (.slice (some ⟨w.heap.size, 0, none⟩) 0 0) [] := by
  exact ⟨rfl, .inr ⟨w.heap.size, 0, #[], rfl, h, Array.getElem?_push_size, Nat.le_refl _, by decide, rfl, rfl⟩⟩
theorem wordBody_pos (l : List UInt8) (h : l ≠ []) : 0 < (wordBody l).length := by
  cases l with
  | nil => exact absurd rfl h
  | cons c l => 
    have : wordBody (c :: l) = wordC c ++ wordBody l := by simp [wordBody]
    rw [this, List.length_append]
    have : 0 < (wordC c).length := by unfold wordC; split <;> simp
    omega
theorem digit_any (n : Nat) (hn : n < 16) (w : World) :
    Calls Tryz.prog 143 #[.int .i64 (n : Int)] w fun e w' => e = .returned (.int .u8 ((hexU n).toNat : Int)) ∧ w = w' := by
  have h : n = 0 ∨ n = 1 ∨ n = 2 ∨ n = 3 ∨ n = 4 ∨ n = 5 ∨ n = 6 ∨ n = 7 ∨ n = 8 ∨ n = 9 ∨ n = 10 ∨ n = 11 ∨ n = 12 ∨ n = 13 ∨ n = 14 ∨ n = 15 := by omega
  rcases h with rfl | rfl | rfl | rfl | rfl | rfl | rfl | rfl | rfl | rfl | rfl | rfl | rfl | rfl | rfl | rfl
  all_goals
    go_enter Tryz.func143, Tryz.ntmps143
    go_wp2
    go_ret
    exact ⟨rfl, rfl⟩

theorem digit_of {x : Int} {n : Nat} (hx : x = (n : Int)) (hn : n < 16) (w : World) :
    Calls Tryz.prog 143 #[.int .i64 x] w fun e w' => e = .returned (.int .u8 ((hexU n).toNat : Int)) ∧ w = w' := hx ▸ digit_any n hn w
theorem wrap_quo (c : UInt8) : IntKind.i64.wrap ((IntKind.i64.wrap (c.toNat : Int)).tdiv 16) = ((c.toNat / 16 : Nat) : Int) := by
  have : ∀ i : Fin 256, IntKind.i64.wrap ((IntKind.i64.wrap (i.val : Int)).tdiv 16) = ((i.val / 16 : Nat) : Int) := by decide +kernel
  exact this ⟨c.toNat, c.toNat_lt⟩
theorem wrap_rem (c : UInt8) : (IntKind.i64.wrap (c.toNat : Int)).tmod 16 = ((c.toNat % 16 : Nat) : Int) := by
  have : ∀ i : Fin 256, (IntKind.i64.wrap (i.val : Int)).tmod 16 = ((i.val % 16 : Nat) : Int) := by decide +kernel
  exact this ⟨c.toNat, c.toNat_lt⟩
set_option maxRecDepth 20000 in
set_option maxHeartbeats 1000000 in
theorem refWord_any (l : List UInt8) (hl : l.length ≤ 4294967280) (w : World) :
    Calls Tryz.prog 105 #[.string ⟨l.toArray⟩] w fun e w' => e = .returned (.string ⟨(wordL l).toArray⟩) ∧ Below w.heap.size w w' := by
  generalize hW : wordL l = W
  go_enter Tryz.func105, Tryz.ntmps105
  go_wp2
  go_loopw [3, 4] (fun out i wr => ∃ k : Nat, k ≤ l.length ∧ i = .int .i64 k ∧ Below w.heap.size w wr ∧ OwnB w.heap.size wr out (wordBody (l.take k))) (fun _ i _ => l.length - (intOf i).toNat)
  case atStart => exact ⟨0, Nat.zero_le _, rfl, (by repeat (first | exact Below.refl _ _ | assumption | refine below_grown ?_ (by first | omega | (simp [go_sem]; done) | (simp [go_sem] <;> omega)) _ | refine Below.alloc ?_ (by first | omega | (simp [go_sem]; done) | (simp [go_sem] <;> omega)) _ | refine below_bytesW ?_ (by first | omega | (simp [go_sem]; done) | (simp [go_sem] <;> omega)) _ | refine Below.drew ?_ | refine below_drewN ?_ _)), OwnB.made0 _ _ (Nat.le_refl _)⟩
  case round =>
    obtain ⟨k, hk, rfl, hb, ho⟩ := hrel
    by_cases hlt : k < l.length
    · have e := wordBody_take l k hlt
      have hc' : ∀ h, l[k]'h = l[k]'hlt := fun _ => rfl
      have hlen := wordBody_length (l.take k)
      rw [List.length_take] at hlen
      have hsz := hb.size
      have HB := Lib.hid hb
      have HO := Lib.hid ho
      have HE := Lib.hid e
      clear hb ho e
      generalize l[k]'hlt = c at *
      generalize hA : wordBody (l.take k) = A at *
      clear hA
      cases hp : plainC c
      · have hcase : (c.toNat : Int) < 33 ∨ ((33 : Int) ≤ c.toNat ∧ (126 : Int) < c.toNat) ∨ ((33 : Int) ≤ c.toNat ∧ (c.toNat : Int) ≤ 126 ∧ ((c.toNat : Int) != 37) = false) := by
          rw [u8_lit_ne c 37 37 rfl]
          by_cases h1 : (33 : Int) ≤ c.toNat
          · by_cases h2 : (c.toNat : Int) ≤ 126
            · refine .inr (.inr ⟨h1, h2, ?_⟩)
              simp [plainC, h1, h2] at hp
              simp [hp]
            · exact .inr (.inl ⟨h1, by omega⟩)
          · exact .inl (by omega)
        have HH := Lib.hid hp
        clear hp
        obtain ⟨q, hqd⟩ : ∃ q : Nat, q = c.toNat / 16 := ⟨_, rfl⟩
        obtain ⟨r, hrd⟩ : ∃ r : Nat, r = c.toNat % 16 := ⟨_, rfl⟩
        have hq := wrap_quo c
        have hr := wrap_rem c
        have hq1 : c.toNat / 16 < 16 := by have := c.toNat_lt; omega
        have hr1 : c.toNat % 16 < 16 := by omega
        rw [← hqd] at hq hq1
        rw [← hrd] at hr hr1
        have HQ := Lib.hid hqd
        have HR := Lib.hid hrd
        clear hqd hrd
        rcases hcase with h1 | ⟨h1, h2⟩ | ⟨h1, h2, h3⟩
        all_goals
          go_wp2
          go_region_law (first | (refine step_append_bytes rfl (.tmp 34) (.tmp 47) rfl w.heap.size _ _ A rfl (HO.out.alloc _).drew _ _ _ [37, hexU q, hexU r] rfl rfl (bytesAt_new3 _ _ _ _ _).drew (by first | omega | (simp; done) | (simp; omega) | (simp [go_sem]; done) | (simp [go_sem]; omega)) (by first | omega | (simp; done) | (simp; omega) | (simp [go_sem]; done) | (simp [go_sem]; omega)) ?_; intro v' w1 ho1 hb1; have HO1 := Lib.hid ho1; have HB1 := Lib.hid hb1; clear ho1 hb1) | (go_simp; (first | with_reducible refine (digit_any q hq1 _).mono ?_ | with_reducible refine (digit_any r hr1 _).mono ?_); rintro e w1 ⟨rfl, rfl⟩; dsimp only))
          all_goals
            go_wp2
            go_roundw
            case rel => exact ⟨k + 1, by omega, by go_num, (below_drew (HB.out.alloc (by first | omega | (simp; done) | (simp; omega) | (simp [go_sem]; done) | (simp [go_sem]; omega)) _)).trans HB1.out, by rw [HE.out, wordC, if_neg (by rw [HH.out]; decide), ← HQ.out, ← HR.out]; exact HO1.out⟩
            case measure => simp [intOf]; omega
      · have h1 : (33 : Int) ≤ c.toNat := by simp [plainC] at hp; omega
        have h2 : (c.toNat : Int) ≤ 126 := by simp [plainC] at hp; omega
        have h3 : ((c.toNat : Int) != 37) = true := by
          rw [u8_lit_ne c 37 37 rfl]
          simp [plainC] at hp
          simp [hp.2.2]
        go_wp2_with (at_builtin; refine wpList_append_bytes rfl (.tmp 28) (.tmp 32) rfl w.heap.size _ _ A rfl (HO.out.alloc _) _ _ _ [c] rfl rfl (bytesAt_new1 _ c _) (by first | omega | (simp; done) | (simp; omega) | (simp [go_sem]; done) | (simp [go_sem]; omega)) (by first | omega | (simp; done) | (simp; omega) | (simp [go_sem]; done) | (simp [go_sem]; omega)) ?_; intro v' w1 ho1 hb1; have HO1 := Lib.hid ho1; have HB1 := Lib.hid hb1; clear ho1 hb1)
        go_roundw
        case rel => exact ⟨k + 1, by omega, by go_num, (HB.out.alloc (by first | omega | (simp; done) | (simp; omega) | (simp [go_sem]; done) | (simp [go_sem]; omega)) _).trans HB1.out, by rw [HE.out, wordC, if_pos hp]; exact HO1.out⟩
        case measure => simp [intOf]; omega
    · obtain rfl : k = l.length := by omega
      rw [List.take_length] at ho
      have hs := ho.str
      have HB := Lib.hid hb
      by_cases h0 : l = []
      · subst h0
        obtain rfl : W = [37] := hW.symm
        rcases ho.form with ⟨rfl, e⟩ | ⟨g, cap, rfl, _⟩
        all_goals
          clear hb ho
          go_wp2
          go_ret
          exact ⟨rfl, HB.out⟩
      · obtain rfl : W = wordBody l := hW.symm.trans (if_neg h0)
        have hne : 0 < (wordBody l).length := wordBody_pos l h0
        have hz : (((wordBody l).length : Int) == 0) = false := by rw [beq_eq_false_iff_ne]; omega
        rcases ho.form with ⟨rfl, e⟩ | ⟨g, cap, rfl, _⟩
        · rw [e] at hne; cases hne
        · clear hb ho
          generalize hA : wordBody l = A at *
          go_wp2
          go_ret
          exact ⟨ret_str (by first | exact hA.symm | rfl), HB.out⟩
end Go.Proofs.YthklfbakffaioaaGreatDoor
