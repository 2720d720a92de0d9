/- The walks of the document's Lines, Words and Same. -/
import Derived.Test.YtmfjabpmhkechaaGreatDoorLines
import Derived.Test.YtmfjabpmhkechaaGreatDoorSplitR
import Derived.Test.YtmfjabpmhkechaaGreatDoorSplitG
namespace Go.Proofs.YtmfjabpmhkechaaGreatDoor
open Go Go.RowKit
set_option linter.unusedSimpArgs false
set_option linter.unusedVariables false

theorem cutCR_nil : cutCR [] = [] := rfl
theorem suffix_snoc (y : List UInt8) (d e : UInt8) : Lib.hasSuffix (y ++ [d]) [e] = (d == e) := by
  rw [Lib.hasSuffix, Bool.eq_iff_iff, List.isSuffixOf_iff_suffix, beq_iff_eq]
  constructor
  · rintro ⟨t, h⟩
    have := (List.append_inj' h rfl).2
    simpa using this.symm
  · rintro rfl
    exact ⟨y, rfl⟩
theorem cutCR_snoc (x : List UInt8) (h : 0 < x.length) : cutCR x = if x[x.length - 1]'(by omega) = 13 then x.take (x.length - 1) else x := by
  rcases List.eq_nil_or_concat x with e | ⟨y, d, e⟩
  · subst e; simp at h
  · rw [List.concat_eq_append] at e
    subst e
    simp only [cutCR, Lib.trimSuffix, suffix_snoc]
    simp
theorem getLast_of (L : List (List UInt8)) (k : Nat) (hk : k < L.length) (h : k = L.length - 1) : L.getLast? = Option.some (L[k]'hk) := by
  rw [List.getLast?_eq_getElem?, ← h, List.getElem?_eq_getElem hk]
def LinesInv (L : List (List UInt8)) (k : Nat) : Prop := k = L.length → L.getLast? ≠ Option.some []
set_option maxHeartbeats 1000000 in
theorem refLines_any (l : List UInt8) (hl : l.length ≤ 4294967280) (w : World) :
    Calls Tryz.prog 34 #[.string ⟨l.toArray⟩] w (Gives strCod (linesL l) w) := by
  have hn := splitL_length_le 10 l
  have hp := splitL_pos 10 l
  have hne := splitL_ne 10 l
  have hpl : ∀ p ∈ splitL 10 l, p.length ≤ l.length := splitL_piece_le 10 l
  have h10 : ((10 : UInt8).toNat : Int) = 10 := rfl
  have hcall := fun w => refSplit_any l 10 hl w
  rw [h10] at hcall
  unfold linesL
  generalize splitL 10 l = L at *
  have HC := Lib.hid hcall
  have HP := Lib.hid hpl
  have HN := Lib.hid hne
  clear hcall hpl hne h10
  go_enter Tryz.func34, Tryz.ntmps34
  go_wp2_with (go_at_call 28; refine (HC.out _).mono ?_; intro e w1 hg; obtain ⟨b, o, cap, rfl, hcap, hb1, hlo, hhi, hat⟩ := hg.some HN.out; have HBC := Lib.hid hb1; have HAT := Lib.hid hat; clear hg hb1 hat)
  have hs0 := HBC.out.size
  simp at hs0 hlo
  go_loopw [3, 12] (fun out i wr => ∃ (k : Nat), k ≤ L.length ∧ i = .int .i64 k ∧ Keeps (Also w.heap.size w1.heap.size) w1 wr ∧ Own strCod (Also w.heap.size w1.heap.size) wr out ((L.take k).map cutCR) ∧ LinesInv L k) (fun _ i _ => L.length - (intOf i).toNat)
  case atStart => exact ⟨0, Nat.zero_le _, rfl, Keeps.refl _ _, (Own.made0 (.inl rfl) rfl).below HBC.out, fun h => by omega⟩
  case round =>
    obtain ⟨k, hk, rfl, hb, ho, hinv⟩ := hrel
    have hsz := hb.size
    have HB := Lib.hid hb
    have HO := Lib.hid ho
    have HBE : Hid (Below w.heap.size w wr) := ((Below.refl _ _).alloc (Nat.le_refl _) _).trans ((HBC.out.mono (by first | omega | (simp; done) | (simp; omega) | (simp [go_sem]; done) | (simp [go_sem]; omega) | (simp [strCod]; omega))).trans (hb.below_also (by first | omega | (simp; done) | (simp; omega) | (simp [go_sem]; done) | (simp [go_sem]; omega) | (simp [strCod]; omega)) (Nat.le_refl _)))
    by_cases hlt : k < L.length
    · have hcell := strAt (HAT.out.keeps hb hhi (by intro hn; rcases hn with hn | hn <;> first | omega | (simp at hn; omega))) k hlt
      have hx := HP.out _ (List.getElem_mem hlt)
      have HE := Lib.hid (map_take_succ cutCR L k hlt)
      have HI : Hid (k = L.length - 1 → L.getLast? = some (L[k]'hlt)) := fun h => getLast_of L k hlt h
      have HI2 : Hid (L[k]'hlt ≠ [] → LinesInv L (k + 1)) := fun h h2 => by rw [getLast_of L k hlt (by omega)]; simpa using h
      clear hb ho hinv
      have HCS := Lib.hid (cutCR_snoc (L[k]'hlt))
      have hPk : (((L.take k).map cutCR)).length ≤ k := by simp; omega
      generalize L[k]'hlt = x at *
      generalize hPd : (L.take k).map cutCR = P at *
      have HPD := Lib.hid hPd
      clear hPd
      by_cases hx0 : x = []
      · subst hx0
        by_cases hq : k = L.length - 1
        · have hq' : ((k : Int) == (L.length : Int) - 1) = true := by simp; omega
          have HL : Hid ((dropEmpty L).map cutCR = P) := by
            show _ = _
            rw [dropEmpty, if_pos (HI.out hq), List.dropLast_eq_take, ← hq, HPD.out]
          clear hq
          go_wp2
          go_ret
          rw [HL.out]
          exact HO.out.gives (fun _ h => also_le (by first | omega | (simp; done) | (simp; omega) | (simp [go_sem]; done) | (simp [go_sem]; omega) | (simp [strCod]; omega)) h) HBE.out
        · have hq' : ((k : Int) == (L.length : Int) - 1) = false := by simp; omega
          have HV : Hid (LinesInv L (k + 1)) := fun h => by omega
          clear hq
          go_wp2_with (at_builtin; refine wpList_append_list rfl strCod (.tmp 42) (.tmp 44) 46 rfl rfl (Also w.heap.size w1.heap.size) _ _ (P) rfl (HO.out.alloc _) _ 0 _ _ [[]] rfl rfl (listAt_new _ _ [_] _ rfl (by first | rfl | (simp [go_sem]; done))) (by first | omega | (simp; done) | (simp; omega) | (simp [go_sem]; done) | (simp [go_sem]; omega) | (simp [strCod]; omega)) (by first | omega | (simp; done) | (simp; omega) | (simp [go_sem]; done) | (simp [go_sem]; omega) | (simp [strCod]; omega)) (by first | (show _ ≤ _; first | omega | (simp; omega) | (simp [go_sem]; omega)) | (show _ ∨ _; right; first | omega | (simp; omega) | (simp [go_sem]; omega))) ?_; intro v' w1 ho1 hb1; have HO1 := Lib.hid ho1; have HB1 := Lib.hid hb1; clear ho1 hb1)
          go_roundw
          case rel => exact ⟨k + 1, by omega, by go_num, (HB.out.alloc _).trans HB1.out, by rw [HE.out]; exact HO1.out, HV.out⟩
          case measure => simp [intOf]; omega
      · have HV := Lib.hid (HI2.out hx0)
        have h0 : 0 < x.length := List.length_pos_iff.2 hx0
        have hem : x.isEmpty = false := by cases x <;> simp_all
        have hem2 : (x == []) = false := by simpa using hx0
        obtain ⟨d, hxl⟩ : ∃ d, ∀ h, x[x.length - 1]'h = d := ⟨x[x.length - 1]'(by omega), fun _ => rfl⟩
        have HCS2 : Hid (cutCR x = if d = 13 then x.take (x.length - 1) else x) := by have := HCS.out h0; rw [hxl] at this; exact this
        clear HCS
        have hd := u8_lit d 13 13 rfl
        by_cases hdd : d = 13
        · have HCC : Hid (cutCR x = x.take (x.length - 1)) := HCS2.out.trans (if_pos hdd)
          have hd' : ((d.toNat : Int) == 13) = true := by rw [hd]; simpa using hdd
          clear hd hdd hx0
          cases hq : ((k : Int) == (L.length : Int) - 1)
          all_goals
            go_wp2_with (at_builtin; refine wpList_append_list rfl strCod (.tmp 42) (.tmp 44) 46 rfl rfl (Also w.heap.size w1.heap.size) _ _ (P) rfl (HO.out.alloc _) _ 0 _ _ [x.take (x.length - 1)] rfl rfl (listAt_new _ _ [_] _ rfl (by first | rfl | (simp [go_sem]; done))) (by first | omega | (simp; done) | (simp; omega) | (simp [go_sem]; done) | (simp [go_sem]; omega) | (simp [strCod]; omega)) (by first | omega | (simp; done) | (simp; omega) | (simp [go_sem]; done) | (simp [go_sem]; omega) | (simp [strCod]; omega)) (by first | (show _ ≤ _; first | omega | (simp; omega) | (simp [go_sem]; omega)) | (show _ ∨ _; right; first | omega | (simp; omega) | (simp [go_sem]; omega))) ?_; intro v' w1 ho1 hb1; have HO1 := Lib.hid ho1; have HB1 := Lib.hid hb1; clear ho1 hb1)
            go_roundw
            case rel => exact ⟨k + 1, by omega, by go_num, (HB.out.alloc _).trans HB1.out, by rw [HE.out, HCC.out]; exact HO1.out, HV.out⟩
            case measure => simp [intOf]; omega
        · have HCC : Hid (cutCR x = x) := HCS2.out.trans (if_neg hdd)
          have hd' : ((d.toNat : Int) == 13) = false := by rw [hd]; simpa using hdd
          clear hd hdd hx0
          cases hq : ((k : Int) == (L.length : Int) - 1)
          all_goals
            go_wp2_with (at_builtin; refine wpList_append_list rfl strCod (.tmp 42) (.tmp 44) 46 rfl rfl (Also w.heap.size w1.heap.size) _ _ (P) rfl (HO.out.alloc _) _ 0 _ _ [x] rfl rfl (listAt_new _ _ [_] _ rfl (by first | rfl | (simp [go_sem]; done))) (by first | omega | (simp; done) | (simp; omega) | (simp [go_sem]; done) | (simp [go_sem]; omega) | (simp [strCod]; omega)) (by first | omega | (simp; done) | (simp; omega) | (simp [go_sem]; done) | (simp [go_sem]; omega) | (simp [strCod]; omega)) (by first | (show _ ≤ _; first | omega | (simp; omega) | (simp [go_sem]; omega)) | (show _ ∨ _; right; first | omega | (simp; omega) | (simp [go_sem]; omega))) ?_; intro v' w1 ho1 hb1; have HO1 := Lib.hid ho1; have HB1 := Lib.hid hb1; clear ho1 hb1)
            go_roundw
            case rel => exact ⟨k + 1, by omega, by go_num, (HB.out.alloc _).trans HB1.out, by rw [HE.out, HCC.out]; exact HO1.out, HV.out⟩
            case measure => simp [intOf]; omega
    · obtain rfl : k = L.length := by omega
      have HL : Hid ((dropEmpty L).map cutCR = (L.take L.length).map cutCR) := by
        show _ = _
        rw [dropEmpty, if_neg (hinv rfl), List.take_length]
      clear hb ho hinv
      go_wp2
      go_ret
      rw [HL.out]
      exact HO.out.gives (fun _ h => also_le (by first | omega | (simp; done) | (simp; omega) | (simp [go_sem]; done) | (simp [go_sem]; omega) | (simp [strCod]; omega)) h) HBE.out
end Go.Proofs.YtmfjabpmhkechaaGreatDoor
