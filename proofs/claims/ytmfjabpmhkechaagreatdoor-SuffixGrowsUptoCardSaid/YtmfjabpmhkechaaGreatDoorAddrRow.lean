/- The walk of row: groups with colons between. -/
import Derived.Test.YtmfjabpmhkechaaGreatDoorAddrGroup
import Derived.Test.YtmfjabpmhkechaaGreatDoorSplitG
namespace Go.Proofs.YtmfjabpmhkechaaGreatDoor
open Go Go.RowKit
set_option maxRecDepth 20000
set_option linter.unusedSimpArgs false
set_option linter.unusedVariables false

def rowOk (s : List UInt8) : Bool := (rowL s).isSome
def rowV (s : List UInt8) : List UInt16 := (rowL s).getD []
theorem row_empty : rowOk [] = true ∧ rowV [] = [] := ⟨rfl, rfl⟩
theorem row_all {s : List UInt8} (h0 : s ≠ []) (h : (splitL 58 s).all grpOk = true) : rowOk s = true ∧ rowV s = (splitL 58 s).map grpR := by
  have e : (splitL 58 s).map grpR = (splitL 58 s).map grpV := List.map_congr_left fun x hx => grp_yes (List.all_eq_true.1 h x hx)
  rw [rowOk, rowV, rowL_some h0 h, e]; exact ⟨rfl, rfl⟩
theorem row_bad {s : List UInt8} (h0 : s ≠ []) (p : List UInt8) (hp : p ∈ splitL 58 s) (h : grpOk p = false) : rowOk s = false ∧ rowV s = [] := by
  have : rowL s = none := by
    rw [rowL, if_neg h0, if_neg]
    intro hall
    rw [List.all_eq_true.1 hall p hp] at h; cases h
  rw [rowOk, rowV, this]; exact ⟨rfl, rfl⟩
theorem all_take_grp (L : List (List UInt8)) (k : Nat) (h : k < L.length) : (L.take (k + 1)).all grpOk = ((L.take k).all grpOk && grpOk (L[k]'h)) := by
  rw [List.take_succ_eq_append_getElem h, List.all_append]; simp
set_option maxHeartbeats 1000000 in
theorem row_any (l : List UInt8) (hl : l.length ≤ 4294967280) (m : Int) (w : World) (hm : HasMax m w) :
    Calls Tryz.prog 102 #[.string ⟨l.toArray⟩] w (Gives2 u16Cod (rowV l) (rowOk l) w) := by
  by_cases h0 : l = []
  · subst h0
    go_enter Tryz.func102, Tryz.ntmps102
    go_wp2
    go_ret2
    exact ⟨none, 0, rfl, Nat.le_refl _, Below.refl _ _, .inl rfl⟩
  · have hem : l.isEmpty = false := by cases l <;> simp_all
    have hem2 : (l == []) = false := by simpa using h0
    have hn := splitL_length_le 58 l
    have HP := Lib.hid (splitL_piece_le 58 l)
    have HALL : Hid ((splitL 58 l).all grpOk = true → rowOk l = true ∧ rowV l = (splitL 58 l).map grpR) := fun h => row_all h0 h
    have HBAD : Hid (∀ p ∈ splitL 58 l, grpOk p = false → rowOk l = false ∧ rowV l = []) := fun p hp h => row_bad h0 p hp h
    have HC : Hid (Calls Tryz.prog 50 #[.string ⟨l.toArray⟩, .int .u8 58] w (Gives strCod (splitL 58 l) w)) := split_gives l 58 hl m w hm
    have HN := Lib.hid (splitL_ne 58 l)
    generalize splitL 58 l = L at *
    generalize rowV l = V at *
    generalize rowOk l = ok at *
    clear h0 hm
    go_enter Tryz.func102, Tryz.ntmps102
    go_wp2_with (go_at_call 50; refine (HC.out).mono ?_; intro e w1 hg; obtain ⟨b, o, cap, rfl, hcap, hb1, hlo, hhi, hat⟩ := hg.some HN.out; have HBC := Lib.hid hb1; have HAT := Lib.hid hat; clear hg hb1 hat)
    have hs0 := HBC.out.size
    go_loopw [4, 14] (fun out i wr => ∃ (k : Nat), k ≤ L.length ∧ i = .int .i64 k ∧ Keeps (From w1.heap.size) w1 wr ∧ Own u16Cod (From w1.heap.size) wr out ((L.take k).map grpR) ∧ Hid ((L.take k).all grpOk = true)) (fun _ i _ => L.length - (intOf i).toNat)
    case atStart => exact ⟨0, Nat.zero_le _, rfl, Keeps.refl _ _, Own.nil _ _, rfl⟩
    case round =>
      obtain ⟨k, hk, rfl, hb, ho, hinv⟩ := hrel
      have hsz := hb.size
      have HB := Lib.hid hb
      have HO := Lib.hid ho
      have HBE : Hid (Below w.heap.size w wr) := bel_up HBC.out (hb.below_from (Nat.le_refl _))
      by_cases hlt : k < L.length
      · have hcell := strAt (HAT.out.keeps hb hhi (by intro hn; exact absurd hhi (Nat.not_lt.2 hn))) k hlt
        have hx := HP.out _ (List.getElem_mem hlt)
        have HE := Lib.hid (map_take_succ grpR L k hlt)
        have HAS := Lib.hid (all_take_grp L k hlt)
        have HBK := Lib.hid (HBAD.out _ (List.getElem_mem hlt))
        have hPk : ((L.take k).map grpR).length ≤ k := by simp; omega
        clear hb ho
        generalize L[k]'hlt = x at *
        generalize (L.take k).map grpR = P at *
        have HG := Lib.hid (fun w => group_any x (by omega) w)
        cases hok : grpOk x
        · obtain ⟨rfl, rfl⟩ := HBK.out hok
          rw [hok] at HG
          go_wp2_with (go_at_call 120; refine (HG.out _).mono ?_; rintro e w1 ⟨rfl, hb1⟩; obtain ⟨p1, rfl⟩ := grown_of hb1; clear hb1)
          go_ret2
          exact ⟨none, 0, rfl, Nat.le_refl _, below_grown HBE.out HBE.out.size _, .inl rfl⟩
        · rw [hok] at HG HAS
          go_wp2_with (first | (go_at_call 120; refine (HG.out _).mono ?_; rintro e w1 ⟨rfl, hb1⟩; obtain ⟨p1, rfl⟩ := grown_of hb1; clear hb1) | (at_builtin; refine wpList_append_list rfl u16Cod (.tmp 25) (.tmp 27) 109 rfl rfl (From w1.heap.size) _ _ (P) rfl ((HO.out.grown _).alloc _) _ 0 _ _ [grpR x] rfl rfl (listAt_new _ _ [_] _ rfl (by first | rfl | (simp [go_sem]; done))) (by first | omega | (simp; done) | (simp; omega) | (simp [go_sem]; done) | (simp [go_sem]; omega) | (simp [u16Cod]; omega)) (by first | omega | (simp; done) | (simp; omega) | (simp [go_sem]; done) | (simp [go_sem]; omega) | (simp [u16Cod]; omega)) (by first | (show _ ≤ _; first | omega | (simp; omega) | (simp [go_sem]; omega)) | (show _ ∨ _; right; first | omega | (simp; omega) | (simp [go_sem]; omega))) ?_; intro v' w1 ho1 hb1; have HO1 := Lib.hid ho1; have HB1 := Lib.hid hb1; clear ho1 hb1))
          go_roundw
          case rel => exact ⟨k + 1, by omega, by go_num, ((HB.out.grown _).alloc _).trans HB1.out, by rw [HE.out]; exact HO1.out, show _ = true by rw [HAS.out, hinv.out]; rfl⟩
          case measure => simp [intOf]; omega
      · obtain rfl : k = L.length := by omega
        have hall := hinv.out
        rw [List.take_length] at hall ho
        obtain ⟨rfl, rfl⟩ := HALL.out hall
        have HO2 := Lib.hid ho
        obtain ⟨a, c, rfl, hc, hli⟩ := ho.slice (B := w.heap.size) (fun _ h => Nat.le_trans hs0 h)
        clear hall hinv HO
        have HLI := Lib.hid hli
        go_wp2
        go_ret2
        exact ⟨a, c, by rw [List.length_map]; rfl, hc, HBE.out, HLI.out⟩
end Go.Proofs.YtmfjabpmhkechaaGreatDoor
