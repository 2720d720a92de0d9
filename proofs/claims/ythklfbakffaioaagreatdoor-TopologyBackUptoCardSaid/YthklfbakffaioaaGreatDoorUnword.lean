/- The walks of Unword: the bytes that a word stands for. -/
import Derived.Test.YthklfbakffaioaaGreatDoorWordR
import Derived.Test.YthklfbakffaioaaGreatDoorShelf
namespace Go.Proofs.YthklfbakffaioaaGreatDoor
open Go Go.RowKit

def halfI (c : UInt8) : Int := Lib.indexByte hexCs c % 256
theorem half_any (c : UInt8) (w : World) :
    Calls Tryz.prog 162 #[.int .u8 (c.toNat : Int)] w fun e w' => e = .returned (.int .u8 (halfI c)) ∧ w = w' := by
  go_enter Tryz.func162, Tryz.ntmps162
  go_wp2_with (go_at_call 179; refine (Tryz.strings_IndexByte ⟨hexCs.toArray⟩ _ _).mono ?_; intro e w1 h; obtain ⟨rfl, h2⟩ := h; subst w1)
  go_ret
  exact ⟨by simp [halfI], rfl⟩
theorem wordBody_cons (d : UInt8) (o : List UInt8) : wordBody (d :: o) = wordC d ++ wordBody o := by simp [wordBody]
theorem plainC_ne {d : UInt8} (h : plainC d = true) : d ≠ 37 := by
  rintro rfl
  revert h; decide
/-- What a word's beginning tells of the text's. -/
theorem word_head {d c : UInt8} {o r : List UInt8} (h : wordBody (d :: o) = c :: r) :
    (c = 37 ∧ ∃ r', r = hexU (d.toNat / 16) :: hexU (d.toNat % 16) :: r' ∧ wordBody o = r') ∨ (c ≠ 37 ∧ d = c ∧ wordBody o = r) := by
  rw [wordBody_cons, wordC] at h
  by_cases hp : plainC d = true
  · rw [if_pos hp] at h
    injection h with h1 h2
    exact .inr ⟨h1 ▸ plainC_ne hp, h1, h2⟩
  · rw [if_neg hp] at h
    injection h with h1 h2
    exact .inl ⟨h1.symm, _, h2.symm, rfl⟩
theorem hexU_inj : ∀ c d : UInt8, hexU (c.toNat / 16) = hexU (d.toNat / 16) → hexU (c.toNat % 16) = hexU (d.toNat % 16) → c = d := by
  have key : ∀ i j : Fin 16, hexU i.val = hexU j.val → i = j := by decide +kernel
  intro c d h1 h2
  have a := key ⟨c.toNat / 16, by have := c.toNat_lt; omega⟩ ⟨d.toNat / 16, by have := d.toNat_lt; omega⟩ h1
  have b := key ⟨c.toNat % 16, by omega⟩ ⟨d.toNat % 16, by omega⟩ h2
  simp only [Fin.mk.injEq] at a b
  exact UInt8.toNat_inj.1 (by omega)
theorem wordBody_inj : ∀ (a b : List UInt8), wordBody a = wordBody b → a = b
  | [], [], _ => rfl
  | [], d :: o, h => by
    have := wordBody_pos (d :: o) (by simp)
    rw [← h] at this; cases this
  | d :: o, [], h => by
    have := wordBody_pos (d :: o) (by simp)
    rw [h] at this; cases this
  | d :: o, c :: q, h => by
    rcases hw : wordBody (c :: q) with _ | ⟨x, r⟩
    · have := wordBody_pos (c :: q) (by simp)
      rw [hw] at this; cases this
    · rw [hw] at h
      rcases word_head h with ⟨h1, r1, e1, f1⟩ | ⟨h1, e1, f1⟩ <;> rcases word_head hw with ⟨h2, r2, e2, f2⟩ | ⟨h2, e2, f2⟩
      · rw [e1] at e2
        injection e2 with g1 g2
        injection g2 with g2 g3
        rw [hexU_inj _ _ g1 g2, wordBody_inj o q (by rw [f1, f2, g3])]
      · exact absurd h1 h2
      · exact absurd h2 h1
      · rw [e1, e2, wordBody_inj o q (by rw [f1, f2])]
theorem wordL_inj (a b : List UInt8) (h : wordL a = wordL b) : a = b := by
  have key : ∀ o, o ≠ [] → wordBody o ≠ [37] := by
    intro o ho e
    cases o with
    | nil => exact ho rfl
    | cons d o =>
      rcases word_head e with ⟨_, r, e1, _⟩ | ⟨h1, _⟩
      · cases e1
      · exact h1 rfl
  unfold wordL at h
  by_cases ha : a = [] <;> by_cases hb : b = []
  · rw [ha, hb]
  · rw [if_pos ha, if_neg hb] at h; exact absurd h.symm (key b hb)
  · rw [if_neg ha, if_pos hb] at h; exact absurd h (key a ha)
  · rw [if_neg ha, if_neg hb] at h; exact wordBody_inj a b h
/-- What both answers come to: the text whose word this is, if there is one. -/
def Unworded (s t : List UInt8) (ok : Bool) : Prop := (ok = true ∧ wordL t = s) ∨ (ok = false ∧ t = [] ∧ ∀ o, wordL o ≠ s)
theorem Unworded.one {s t t' : List UInt8} {ok ok' : Bool} (h : Unworded s t ok) (h' : Unworded s t' ok') : t = t' ∧ ok = ok' := by
  rcases h with ⟨rfl, e⟩ | ⟨rfl, rfl, n⟩ <;> rcases h' with ⟨rfl, e'⟩ | ⟨rfl, rfl, n'⟩
  · exact ⟨wordL_inj _ _ (e.trans e'.symm), rfl⟩
  · exact absurd e (n' _)
  · exact absurd e' (n _)
  · exact ⟨rfl, rfl⟩
def UnwordPost (l : List UInt8) (w : World) (e : Ending) (w' : World) : Prop := ∃ t ok, Unworded l t ok ∧ e = .returned (.tuple #[.string ⟨t.toArray⟩, .bool ok]) ∧ Below w.heap.size w w'
theorem word_last : ∀ o : List UInt8, (wordBody o).getLast? ≠ some 37
  | [] => by simp [wordBody]
  | d :: o => by
    rw [wordBody_cons, List.getLast?_append]
    have ih := word_last o
    cases hl : (wordBody o).getLast? with
    | some x => rw [hl] at ih; simpa using ih
    | none =>
      have key : ∀ i : Fin 16, hexU i.val ≠ 37 := by decide +kernel
      rw [wordC]
      by_cases hp : plainC d = true
      · rw [if_pos hp]
        simpa using plainC_ne hp
      · rw [if_neg hp]
        simpa using key ⟨d.toNat % 16, by omega⟩
theorem trim_word (o : List UInt8) : Lib.trimSuffix (wordBody o) [37] = wordBody o := by
  unfold Lib.trimSuffix Lib.hasSuffix
  refine if_neg fun h => ?_
  obtain ⟨t, ht⟩ := List.isSuffixOf_iff_suffix.1 h
  have := word_last o
  rw [← ht] at this
  simp at this
/-- What is left to read, and what was read of it. -/
theorem unword_start (s o : List UInt8) (h : wordL o = s) : wordBody o = Lib.trimSuffix s [37] := by
  subst h
  unfold wordL
  by_cases h0 : o = []
  · subst h0; rfl
  · rw [if_neg h0, trim_word]
theorem bytesAt_new1e (w : World) (x : UInt8) (t : TypeId) {b : Nat} (hb : b = w.heap.size) : bytesAt (w.alloc (.cells #[.int .u8 (x.toNat : Int)] t)) ⟨b, 0, none⟩ [x] := by
  subst hb; exact bytesAt_new1 w x t
/-- What the four bits and the four bits make. -/
def combI (x y : UInt8) : Int := bits .or .u8 (IntKind.u8.wrap (halfI x * 16)) (bits .and .u8 (halfI y) 15)
def halves : List Int := [0, 1, 2, 3, 4, 5, 6, 7, 8, 9, 10, 11, 12, 13, 14, 15, 255]
theorem half_mem (c : UInt8) : halfI c ∈ halves := by
  have key : ∀ i : Fin 256, halfI (UInt8.ofNat i.val) ∈ halves := by decide +kernel
  have := key ⟨c.toNat, c.toNat_lt⟩
  simpa using this
theorem comb_u8 (x y : UInt8) : ∃ d : UInt8, (d.toNat : Int) = combI x y := by
  have key : ∀ i ∈ halves, ∀ j ∈ halves, 0 ≤ bits .or .u8 (IntKind.u8.wrap (i * 16)) (bits .and .u8 j 15) ∧ bits .or .u8 (IntKind.u8.wrap (i * 16)) (bits .and .u8 j 15) < 256 := by decide +kernel
  obtain ⟨h1, h2⟩ := key _ (half_mem x) _ (half_mem y)
  refine ⟨UInt8.ofNat (combI x y).toNat, ?_⟩
  unfold combI
  rw [UInt8.toNat_ofNat']
  omega
theorem comb_hex (d : UInt8) : (d.toNat : Int) = combI (hexU (d.toNat / 16)) (hexU (d.toNat % 16)) := by
  have key : ∀ i : Fin 256, (i.val : Int) = combI (hexU (i.val / 16)) (hexU (i.val % 16)) := by decide +kernel
  exact key ⟨d.toNat, d.toNat_lt⟩
theorem trimSuffix_length (l p : List UInt8) : (Lib.trimSuffix l p).length ≤ l.length := by
  unfold Lib.trimSuffix
  split
  · rw [List.length_take]; omega
  · exact Nat.le_refl _
set_option maxRecDepth 20000 in
set_option maxHeartbeats 400000 in
theorem unword_any (l : List UInt8) (hl : l.length ≤ 1400000000) (w : World) :
    Calls Tryz.prog 137 #[.string ⟨l.toArray⟩] w (UnwordPost l w) := by
  go_enter Tryz.func137, Tryz.ntmps137
  go_wp2_with (go_at_call 51; refine (Tryz.strings_TrimSuffix ⟨l.toArray⟩ ⟨[37].toArray⟩ _ (by simp [ByteArray.size]; omega)).mono ?_; intro e w1 h; obtain ⟨rfl, h2⟩ := h; subst w1)
  go_loopw [4, 5] (fun out rest wr => ∃ A R : List UInt8, rest = .string ⟨R.toArray⟩ ∧ A.length + R.length ≤ l.length ∧ Below w.heap.size w wr ∧ OwnB w.heap.size wr out A ∧ ∀ o, wordL o = l → ∃ o', o = A ++ o' ∧ wordBody o' = R) (fun _ rest _ => strLen rest)
  case atStart => exact ⟨[], _, rfl, by simpa using trimSuffix_length l [37], Below.refl _ _, OwnB.nil _ _, fun o h => ⟨o, rfl, unword_start l o h⟩⟩
  case round =>
    obtain ⟨A, R, rfl, hlen, hb, ho, hw⟩ := hrel
    have hsz := hb.size
    have HB := Lib.hid hb
    have HO := Lib.hid ho
    have HW := Lib.hid hw
    clear hb ho hw
    by_cases h0 : R = []
    · subst h0
      have hs := HO.out.str
      have hWA := word_any A (by simp at hlen; omega) wr
      have hend : (wordL A == l) = false → ∀ o, wordL o ≠ l := fun hn o h => by
        obtain ⟨o', rfl, h2⟩ := HW.out o h
        have : o' = [] := by
          cases o' with
          | nil => rfl
          | cons d q => have := wordBody_pos (d :: q) (by simp); rw [h2] at this; cases this
        subst this
        rw [List.append_nil] at h
        simp [h] at hn
      have HEND := Lib.hid hend
      clear hend
      have HEQ := Lib.hid (show (wordL A == l) = true → wordL A = l from fun h => by simpa using h)
      cases hq : (wordL A == l)
      all_goals
        rcases HO.out.form with ⟨rfl, e⟩ | ⟨g, cap, rfl, _⟩
        all_goals
          try subst e
          go_wp2_with (go_at_call 163; refine hWA.mono ?_; rintro e w1 ⟨rfl, hb1⟩; have hs2 := (HO.out.below hb1).str; obtain ⟨p1, rfl⟩ := grown_of hb1; clear hb1)
          go_ret2
          first
            | exact ⟨[], false, .inr ⟨rfl, rfl, HEND.out hq⟩, rfl, below_grown HB.out HB.out.size _⟩
            | exact ⟨[], true, .inl ⟨rfl, HEQ.out hq⟩, rfl, below_grown HB.out HB.out.size _⟩
            | exact ⟨A, true, .inl ⟨rfl, HEQ.out hq⟩, rfl, below_grown HB.out HB.out.size _⟩
    · obtain ⟨c, r, hR⟩ : ∃ c r, R = c :: r := by cases R with
        | nil => exact absurd rfl h0
        | cons c r => exact ⟨c, r, rfl⟩
      have hlen0 : 0 < R.length := by rw [hR]; simp
      have hem : R.isEmpty = false := by rw [hR]; rfl
      have hem2 : (R == []) = false := by rw [hR]; rfl
      have hR0 : ∀ h, R[0]'h = c := fun h => by subst hR; rfl
      have HR := Lib.hid hR
      clear hR h0
      by_cases hc : c = 37
      · by_cases h3 : R.length < 3
        · have hno : ∀ o, wordL o ≠ l := fun o h => by
            obtain ⟨o', rfl, h2⟩ := HW.out o h
            rw [HR.out] at h2 h3
            cases o' with
            | nil => cases h2
            | cons d q =>
              rcases word_head h2 with ⟨_, r', e1, _⟩ | ⟨h1, _⟩
              · rw [e1] at h3; simp at h3; omega
              · exact h1 hc
          have HNO := Lib.hid hno
          have hc' : ((c.toNat : Int) == 37) = true := by rw [u8_lit c 37 37 rfl]; simpa using hc
          clear hno hc
          go_wp2
          go_ret2
          exact ⟨[], false, .inr ⟨rfl, rfl, HNO.out⟩, rfl, HB.out⟩
        · obtain ⟨x, hR1⟩ : ∃ x, ∀ h, R[1]'h = x := ⟨R[1]'(by omega), fun _ => rfl⟩
          obtain ⟨y, hR2⟩ : ∃ x, ∀ h, R[2]'h = x := ⟨R[2]'(by omega), fun _ => rfl⟩
          have hR3 : R = c :: x :: y :: R.drop 3 := by
            rw [← hR0 (by omega), ← hR1 (by omega), ← hR2 (by omega), ← List.drop_eq_getElem_cons, ← List.drop_eq_getElem_cons, ← List.drop_eq_getElem_cons, List.drop_zero]
          obtain ⟨d, hd⟩ := comb_u8 x y
          have hnew : ∀ o, wordL o = l → ∃ o', o = (A ++ [d]) ++ o' ∧ wordBody o' = R.drop 3 := fun o h => by
            obtain ⟨o', rfl, h2⟩ := HW.out o h
            rw [hR3] at h2
            cases o' with
            | nil => cases h2
            | cons d' q =>
              rcases word_head h2 with ⟨_, r', e1, e2⟩ | ⟨h1, _⟩
              · injection e1 with e3 e1
                injection e1 with e4 e1
                obtain rfl : d = d' := by rw [← UInt8.toNat_inj, ← Int.ofNat_inj, hd, e3, e4]; exact (comb_hex d').symm
                exact ⟨q, by simp, by rw [e2, ← e1]⟩
              · exact absurd hc h1
          have HNEW := Lib.hid hnew
          have HD := Lib.hid hd
          have hc' : ((c.toNat : Int) == 37) = true := by rw [u8_lit c 37 37 rfl]; simpa using hc
          have hi1 : (1 : Int) < R.length := by omega
          have hi2 : (2 : Int) < R.length := by omega
          have hi3 : 1 < R.length := by omega
          have hi4 : 2 < R.length := by omega
          clear hnew hd hR3 hc
          go_wp2
          refine wp_region_quiet_grown (by kernel_rfl) (by kernel_rfl) ?_
          repeat (quiet_step ((go_at_call 162; exact quiet_still (half_any _ _))))
          refine wpQuiet_nil ?_; intro _ hw'; obtain ⟨pq, hw''⟩ := hw'; subst hw''
          rw [show bits .or .u8 (IntKind.u8.wrap (halfI x * 16)) (bits .and .u8 (halfI y) 15) = (d.toNat : Int) from HD.out.symm]
          go_wp2_with (at_builtin; refine wpList_append_bytes rfl (.tmp 28) (.tmp 30) rfl w.heap.size _ _ A rfl ((HO.out.below (below_grown' _ _)).alloc _) _ _ _ [d] rfl rfl (bytesAt_new1e _ d _ (by simp [go_sem])) (by first | omega | (simp; done) | (simp; omega) | (simp [go_sem]; done) | (simp [go_sem]; omega)) (by first | omega | (simp; done) | (simp; omega) | (simp [go_sem]; done) | (simp [go_sem]; omega)) ?_; intro v' w1 ho1 hb1; have HO1 := Lib.hid ho1; have HB1 := Lib.hid hb1; clear ho1 hb1)
          go_roundw
          case rel => exact ⟨A ++ [d], R.drop 3, by simp, by simp; omega, ((below_grown HB.out HB.out.size _).alloc (by first | omega | (simp; done) | (simp; omega) | (simp [go_sem]; done) | (simp [go_sem]; omega)) _).trans HB1.out, HO1.out, HNEW.out⟩
          case measure => simp [strLen]; omega
      · have h1 : ((c.toNat : Int) == 37) = false := by
          rw [u8_lit c 37 37 rfl]; simpa using hc
        have hnew : ∀ o, wordL o = l → ∃ o', o = (A ++ [c]) ++ o' ∧ wordBody o' = R.drop 1 := fun o h => by
          obtain ⟨o', rfl, h2⟩ := HW.out o h
          rw [HR.out] at h2 ⊢
          cases o' with
          | nil => cases h2
          | cons d q =>
            rcases word_head h2 with ⟨h3, _⟩ | ⟨_, rfl, e2⟩
            · exact absurd h3 hc
            · exact ⟨q, by simp, e2⟩
        have HNEW := Lib.hid hnew
        clear hnew hc
        go_wp2_with (at_builtin; refine wpList_append_bytes rfl (.tmp 28) (.tmp 30) rfl w.heap.size _ _ A rfl (HO.out.alloc _) _ _ _ [c] rfl rfl (bytesAt_new1 _ c _) (by first | omega | (simp; done) | (simp; omega) | (simp [go_sem]; done) | (simp [go_sem]; omega)) (by first | omega | (simp; done) | (simp; omega) | (simp [go_sem]; done) | (simp [go_sem]; omega)) ?_; intro v' w1 ho1 hb1; have HO1 := Lib.hid ho1; have HB1 := Lib.hid hb1; clear ho1 hb1)
        go_roundw
        case rel => exact ⟨A ++ [c], R.drop 1, by simp, by simp; omega, (HB.out.alloc (by first | omega | (simp; done) | (simp; omega) | (simp [go_sem]; done) | (simp [go_sem]; omega)) _).trans HB1.out, HO1.out, HNEW.out⟩
        case measure => simp [strLen]; omega
end Go.Proofs.YthklfbakffaioaaGreatDoor
