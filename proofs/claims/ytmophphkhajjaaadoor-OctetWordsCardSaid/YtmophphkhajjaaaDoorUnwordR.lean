/- The walk of the document's Unword. -/
import Derived.Test.YtmophphkhajjaaaDoorUnword
namespace Go.Proofs.YtmophphkhajjaaaDoor
open Go Go.RowKit
set_option linter.unusedSimpArgs false
set_option linter.unusedVariables false

/-- A word that goes on behind a word: so does the text. -/
theorem wordBody_cons' (d : UInt8) (o : List UInt8) : wordBody (d :: o) = wordC d ++ wordBody o := wordBody_cons d o
theorem word_after : ∀ (A o R : List UInt8), wordBody o = wordBody A ++ R → ∃ o', o = A ++ o' ∧ wordBody o' = R
  | [], o, R, h => ⟨o, rfl, by simpa [wordBody] using h⟩
  | a :: A, [], R, h => by
    have h1 := wordBody_pos (a :: A) (by simp)
    have := congrArg List.length h
    rw [List.length_append] at this
    simp only [wordBody, List.flatMap_nil, List.length_nil] at this h1
    omega
  | a :: A, d :: o, R, h => by
    rcases hw : wordBody (a :: A) with _ | ⟨x, r⟩
    · have := wordBody_pos (a :: A) (by simp)
      rw [hw] at this; cases this
    · rw [hw] at h
      rcases word_head hw with ⟨h2, r2, e2, f2⟩ | ⟨h2, e2, f2⟩ <;> rcases word_head h with ⟨h1, r1, e1, f1⟩ | ⟨h1, e1, f1⟩
      · rw [e2] at e1
        have e3 : hexU (a.toNat / 16) :: hexU (a.toNat % 16) :: (r2 ++ R) = hexU (d.toNat / 16) :: hexU (d.toNat % 16) :: r1 := e1
        injection e3 with g1 e3
        injection e3 with g2 e3
        obtain rfl := hexU_inj _ _ g1 g2
        obtain ⟨o', h3, h4⟩ := word_after A o R (by rw [f1, ← e3, f2])
        exact ⟨o', by rw [h3]; rfl, h4⟩
      · exact absurd h2 h1
      · exact absurd h1 h2
      · obtain ⟨o', h3, h4⟩ := word_after A o R (by rw [f1, ← f2]; rfl)
        exact ⟨o', by rw [h3, e1, e2]; rfl, h4⟩
/-- The text so far, and what is left. -/
def UwInv (l A : List UInt8) (a : Nat) : Prop := wordBody A ++ l.drop a = l
theorem UwInv.start (l : List UInt8) : UwInv l [] 0 := rfl
theorem UwInv.step {l A : List UInt8} {a : Nat} {x : UInt8} (h : UwInv l A a) (hp : (l.drop a).take (wordC x).length = wordC x) : UwInv l (A ++ [x]) (a + (wordC x).length) := by
  unfold UwInv at *
  have e : wordBody (A ++ [x]) = wordBody A ++ wordC x := by simp [wordBody]
  rw [e, List.append_assoc]
  conv => rhs; rw [← h]
  congr 1
  conv => rhs; rw [← List.take_append_drop (wordC x).length (l.drop a), hp, List.drop_drop]
theorem UwInv.no {l A : List UInt8} {a : Nat} (h : UwInv l A a) (ha : a < l.length) (h37 : l ≠ [37]) (hn : ∀ x : UInt8, (l.drop a).take (wordC x).length ≠ wordC x) : ∀ o, wordL o ≠ l := by
  intro o ho
  have h0 : o ≠ [] := by rintro rfl; exact h37 ho.symm
  rw [wordL, if_neg h0] at ho
  obtain ⟨o', _, h2⟩ := word_after A o (l.drop a) (by rw [ho]; exact h.symm)
  cases o' with
  | nil =>
    have := congrArg List.length h2
    simp [wordBody] at this
    omega
  | cons d q =>
    rw [wordBody_cons] at h2
    refine hn d ?_
    rw [← h2, List.take_left]
theorem UwInv.done {l A : List UInt8} (h : UwInv l A l.length) : Unworded l A (decide (0 < A.length)) := by
  unfold UwInv at h
  rw [List.drop_length, List.append_nil] at h
  by_cases h0 : A = []
  · subst h0
    refine .inr ⟨rfl, rfl, fun o ho => ?_⟩
    obtain rfl : [] = l := h
    by_cases h1 : o = []
    · subst h1; cases ho
    · rw [wordL, if_neg h1] at ho
      have := wordBody_pos o h1
      rw [ho] at this; cases this
  · refine .inl ⟨by cases A <;> simp_all, ?_⟩
    rw [wordL, if_neg h0, h]
theorem wordC_pos (x : UInt8) : 0 < (wordC x).length := by unfold wordC; split <;> simp
theorem u8_nat (c : Nat) (h : c < 256) : (UInt8.ofNat c).toNat = c := by rw [UInt8.toNat_ofNat']; omega
theorem wordL_one (x : UInt8) : wordL [x] = wordC x := by simp [wordL, wordBody]
theorem bytesAt_new1n (w : World) (n : Nat) (hn : n < 256) (t : TypeId) {b : Nat} (hb : b = w.heap.size) : bytesAt (w.alloc (.cells #[.int .u8 (n : Int)] t)) ⟨b, 0, none⟩ [UInt8.ofNat n] := by
  have := bytesAt_new1e w (UInt8.ofNat n) t hb
  rwa [u8_nat n hn] at this
theorem all_u8 (p : UInt8 → Prop) (h : ∀ c : Nat, c < 256 → p (UInt8.ofNat c)) : ∀ x, p x := fun x => by
  have := h x.toNat x.toNat_lt
  rwa [UInt8.ofNat_toNat] at this

set_option maxRecDepth 20000 in
set_option maxHeartbeats 1000000 in
theorem refUnword_any (l : List UInt8) (hl : l.length ≤ 1400000000) (w : World) :
    Calls Tryd.prog 19 #[.string ⟨l.toArray⟩] w (UnwordPost l w) := by
  by_cases h37 : l = [37]
  · subst h37
    go_enter Tryd.func19, Tryd.ntmps19
    go_wp2
    go_ret2
    exact ⟨[], true, .inl ⟨rfl, rfl⟩, rfl, Below.refl _ _⟩
  · have h37' : (l == [37]) = false := by simpa using h37
    have H37 := Lib.hid h37
    clear h37
    go_enter Tryd.func19, Tryd.ntmps19
    go_wp2
    go_loopw [4, 5, 6, 7, 8] (fun out at' _ _ _ wr => ∃ (A : List UInt8) (a : Nat), a ≤ l.length ∧ A.length ≤ a ∧ at' = .int .i64 a ∧ Below w.heap.size w wr ∧ OwnB w.heap.size wr out A ∧ UwInv l A a) (fun _ at' _ _ _ _ => l.length - (intOf at').toNat)
    case atStart => exact ⟨[], 0, Nat.zero_le _, Nat.le_refl _, rfl, (by repeat (first | exact Below.refl _ _ | assumption | refine below_grown ?_ (by first | omega | (simp [go_sem]; done) | (simp [go_sem] <;> omega)) _ | refine Below.alloc ?_ (by first | omega | (simp [go_sem]; done) | (simp [go_sem] <;> omega)) _ | refine below_bytesW ?_ (by first | omega | (simp [go_sem]; done) | (simp [go_sem] <;> omega)) _ | refine Below.drew ?_ | refine below_drewN ?_ _)), OwnB.made0 _ _ (Nat.le_refl _), UwInv.start l⟩
    case round =>
      obtain ⟨A, a, ha, hA, rfl, hb, ho, hv⟩ := hrel
      have HB := Lib.hid hb
      have HO := Lib.hid ho
      have HV := Lib.hid hv
      clear hb ho hv
      by_cases hlt : a < l.length
      · go_wp2
        obtain ⟨wo, hwo⟩ : ∃ wo : World, wo = wr := ⟨_, rfl⟩
        go_loopw [4, 5, 6, 7, 8] (fun out at' fo c _ wr => ∃ (A' : List UInt8) (a' n : Nat) (f : Bool), n ≤ 256 ∧ a' ≤ l.length ∧ A'.length ≤ a' ∧ at' = .int .i64 a' ∧ fo = .bool f ∧ c = .int .i64 n ∧ Below w.heap.size w wr ∧ OwnB w.heap.size wr out A' ∧ UwInv l A' a' ∧ ((f = true ∧ a < a') ∨ (f = false ∧ a' = a ∧ ∀ j, j < n → (l.drop a).take (wordC (UInt8.ofNat j)).length ≠ wordC (UInt8.ofNat j)))) (fun _ _ _ c _ _ => 256 - (intOf c).toNat)
        case atStart => exact ⟨A, a, 0, false, Nat.zero_le _, ha, hA, rfl, rfl, rfl, HB.out, HO.out, HV.out, .inr ⟨rfl, rfl, fun j hj => by cases hj⟩⟩
        case round =>
          obtain ⟨A', a', n, f, hn, ha', hA', rfl, rfl, rfl, hb, ho, hv, hor⟩ := hrel
          have hsz := hb.size
          have HB' := Lib.hid hb
          have HO' := Lib.hid ho
          have HV' := Lib.hid hv
          clear hb ho hv
          rcases hor with ⟨rfl, hgt⟩ | ⟨rfl, rfl, hno⟩
          · go_wp2
            all_goals
              go_roundw
              case rel => exact ⟨A', a', ha', hA', rfl, HB'.out, HO'.out, HV'.out⟩
              case measure => simp [intOf]; omega
          · have HNO := Lib.hid hno
            clear hno
            by_cases hn' : n < 256
            · have HWD : Hid (∀ w, Calls Tryd.prog 20 #[.string ⟨[UInt8.ofNat n].toArray⟩] w fun e w' => e = .returned (.string ⟨(wordC (UInt8.ofNat n)).toArray⟩) ∧ Below w.heap.size w w') := fun w => by
                have := refWord_any [UInt8.ofNat n] (by simp) w
                rwa [wordL_one] at this
              have hWp := wordC_pos (UInt8.ofNat n)
              have hWl := wordC_length (UInt8.ofNat n)
              by_cases hm : (l.drop a').take (wordC (UInt8.ofNat n)).length = wordC (UInt8.ofNat n)
              · have hle : (wordC (UInt8.ofNat n)).length ≤ l.length - a' := by
                  have := congrArg List.length hm
                  rw [List.length_take, List.length_drop] at this
                  omega
                have HST := Lib.hid (HV'.out.step hm)
                have hq : ((l.drop a').take (wordC (UInt8.ofNat n)).length == wordC (UInt8.ofNat n)) = true := by simpa using hm
                have hle' : ((wordC (UInt8.ofNat n)).length : Int) ≤ (l.length : Int) - a' := by omega
                clear hm hle
                generalize wordC (UInt8.ofNat n) = W at *
                go_wp2_with (first
                  | (go_at_call 20; refine (HWD.out _).mono ?_; rintro e w1 ⟨rfl, hb1⟩; obtain ⟨p1, rfl⟩ := grown_of hb1; clear hb1)
                  | (at_builtin; refine wpList_append_bytes rfl (.tmp 47) (.tmp 50) rfl w.heap.size _ _ A' rfl ((HO'.out.alloc _).below (below_grown' _ _) |>.alloc _) _ _ _ [UInt8.ofNat n] rfl rfl (bytesAt_new1n _ n hn' _ (by simp [go_sem])) (by first | omega | (simp; done) | (simp; omega) | (simp [go_sem]; done) | (simp [go_sem]; omega)) (by first | omega | (simp; done) | (simp; omega) | (simp [go_sem]; done) | (simp [go_sem]; omega)) ?_; intro v' w1 ho1 hb1; have HO1 := Lib.hid ho1; have HB1 := Lib.hid hb1; clear ho1 hb1))
                go_roundw
                case rel => exact ⟨A' ++ [UInt8.ofNat n], a' + W.length, n + 1, true, by omega, by omega, by simp; omega, by go_num, rfl, by go_num, ((below_grown (HB'.out.alloc (by first | omega | (simp; done) | (simp; omega) | (simp [go_sem]; done) | (simp [go_sem]; omega)) _) (by first | omega | (simp; done) | (simp; omega) | (simp [go_sem]; done) | (simp [go_sem]; omega)) _).alloc (by first | omega | (simp; done) | (simp; omega) | (simp [go_sem]; done) | (simp [go_sem]; omega)) _).trans HB1.out, HO1.out, HST.out, .inl ⟨rfl, by omega⟩⟩
                case measure => simp [intOf]; omega
              · have HNN : Hid (∀ j, j < n + 1 → (l.drop a').take (wordC (UInt8.ofNat j)).length ≠ wordC (UInt8.ofNat j)) := fun j hj => by
                  by_cases e : j = n
                  · subst e; exact hm
                  · exact HNO.out j (by omega)
                have hq : ((l.drop a').take (wordC (UInt8.ofNat n)).length == wordC (UInt8.ofNat n)) = false := by simpa using hm
                clear hm
                generalize wordC (UInt8.ofNat n) = W at *
                by_cases hle' : (W.length : Int) ≤ (l.length : Int) - a'
                all_goals
                  go_wp2_with (go_at_call 20; refine (HWD.out _).mono ?_; rintro e w1 ⟨rfl, hb1⟩; obtain ⟨p1, rfl⟩ := grown_of hb1; clear hb1)
                  go_roundw
                  case rel => exact ⟨A', a', n + 1, false, by omega, ha', hA', rfl, rfl, by go_num, below_grown (HB'.out.alloc (by first | omega | (simp; done) | (simp; omega) | (simp [go_sem]; done) | (simp [go_sem]; omega)) _) (by first | omega | (simp; done) | (simp; omega) | (simp [go_sem]; done) | (simp [go_sem]; omega)) _, (HO'.out.alloc _).below (below_grown' _ _), HV'.out, .inr ⟨rfl, rfl, HNN.out⟩⟩
                  case measure => simp [intOf]; omega
            · have HN : Hid (∀ o, wordL o ≠ l) := HV'.out.no hlt H37.out (all_u8 _ fun c hc => HNO.out c (by omega))
              go_wp2
              go_ret2
              exact ⟨[], false, .inr ⟨rfl, rfl, HN.out⟩, rfl, HB'.out⟩
      · obtain rfl : a = l.length := by omega
        have HD := Lib.hid HV.out.done
        clear HV
        have hs := HO.out.str
        rcases HO.out.form with ⟨rfl, e⟩ | ⟨g, cap, rfl, _⟩
        all_goals
          try subst e
          go_wp2
          go_ret2
          exact ⟨_, _, HD.out, by simp, HB.out⟩
end Go.Proofs.YtmophphkhajjaaaDoor
