/- Merged: Lines, SplitR, LinesR, SameR, OwnB, Word, WordR, Unword, OctetPlain. -/
import Derived.Test.YtnkckejbkbbdlaaGreatDoorTmC
import Derived.Test.YtnkckejbkbbdlaaGreatDoorTmA
import Derived.Deep.RegionLaw
import Derived.Test.YtnkckejbkbbdlaaGreatDoorShelf
namespace Go.Proofs.YtnkckejbkbbdlaaGreatDoor
section
open Go Go.RowKit

def dropEmpty (L : List (List UInt8)) : List (List UInt8) := if L.getLast? = some [] then L.dropLast else L
def cutCR (l : List UInt8) : List UInt8 := Lib.trimSuffix l [13]
def linesL (l : List UInt8) : List (List UInt8) := (dropEmpty (splitL 10 l)).map cutCR
def crTo (L : List (List UInt8)) (k : Nat) : List (List UInt8) := (L.take k).map cutCR ++ L.drop k
theorem crTo_length (L : List (List UInt8)) (k : Nat) : (crTo L k).length = L.length := by simp [crTo]; omega
theorem crTo_at (l : List (List UInt8)) (k : Nat) (hk : k ≤ l.length) (j : Nat) : (crTo l k)[j]? = if j < k then (l[j]?).map cutCR else l[j]? := by
  rw [crTo, List.getElem?_append, List.length_map, List.length_take, Nat.min_eq_left hk]
  split
  · rw [List.getElem?_map, List.getElem?_take, if_pos (by assumption)]
  · rw [List.getElem?_drop]
    congr 1
    omega
theorem crTo_get (l : List (List UInt8)) (k : Nat) (h : k < l.length) (h' : k < (crTo l k).length) : (crTo l k)[k]'h' = l[k]'h := by
  have := crTo_at l k (by omega) k
  rw [if_neg (by omega), List.getElem?_eq_getElem h', List.getElem?_eq_getElem h] at this
  exact Option.some.inj this
theorem crTo_succ (l : List (List UInt8)) (k : Nat) (h : k < l.length) : crTo l (k + 1) = (crTo l k).set k (cutCR (l[k]'h)) := by
  apply List.ext_getElem?
  intro j
  rw [crTo_at l (k + 1) (by omega), List.getElem?_set, crTo_length, crTo_at l k (by omega)]
  by_cases e : k = j
  · subst e
    rw [if_pos (by omega), if_pos rfl, if_pos h, List.getElem?_eq_getElem h]
    rfl
  · rw [if_neg e]
    by_cases hj : j < k
    · rw [if_pos (by omega), if_pos hj]
    · rw [if_neg (by omega), if_neg hj]
theorem crTo_zero (l : List (List UInt8)) : crTo l 0 = l := by simp [crTo]
theorem crTo_all (l : List (List UInt8)) : crTo l l.length = l.map cutCR := by simp [crTo]

/-- Texts in a row of cells. -/
def strsAt (w : World) (b : Nat) (L : List (List UInt8)) : Prop := ∀ j (h : j < L.length), w.cell? ⟨b, j, none⟩ = some (.string ⟨(L[j]'h).toArray⟩)
theorem strsAt_set {w : World} {b : Nat} {L : List (List UInt8)} (h : strsAt w b L) (k : Nat) (hk : k < L.length) (x : List UInt8) : strsAt (w.setCell ⟨b, k, none⟩ (.string ⟨x.toArray⟩)) b (L.set k x) := by
  intro j hj
  have hj' : j < L.length := by simpa using hj
  by_cases e : j = k
  · subst e
    rw [World.cell?_setCell_same _ _ _ (h j hj')]
    simp
  · rw [World.cell?_setCell_other _ _ _ _ (by intro e'; apply e; have := congrArg Addr.off e'; simp at this; omega), h j hj']
    rw [List.getElem_set_ne (by omega)]
theorem strsIn_owns {w : World} {base : Nat} {v : Value} {n : Nat} {L : List (List UInt8)} {t : TypeId} (hn : n = L.length) (h : w.ownsRow base t 1 v n (strsL L)) : ∃ a c, v = .slice a L.length c ∧ L.length ≤ c ∧ ListIn strCod w a L base := by
  subst hn
  obtain ⟨_, ⟨hv, h0⟩ | ⟨g, cap, cur, hv, hg, hh, hcap, hmax, hcur, hx⟩⟩ := h
  · exact ⟨none, 0, by rw [hv, h0], by omega, .inl (List.length_eq_zero_iff.1 h0)⟩
  · refine ⟨some ⟨g, 0, none⟩, cap, hv, hcap, .inr ⟨g, 0, rfl, hg, ?_, strAt_of fun j hj => ?_⟩⟩
    · rcases Nat.lt_or_ge g w.heap.size with h' | h'
      · exact h'
      · rw [Array.getElem?_eq_none h'] at hh; cases hh
    · have e : (strsL L)[j]? = some (.string ⟨(L[j]'hj).toArray⟩) := by simp [strsL, hj]
      rw [← hx, Nat.mul_one, List.getElem?_take, if_pos hj, Array.getElem?_toList] at e
      simp only [World.cell?, hh, Nat.zero_add]
      exact e

/-- What stands behind the loop: the copy that is handed out. -/
theorem lines_clone (m : List (List UInt8)) (hm : m.length ≤ 4294967290) (b n c : Nat) (hn : n = m.length) (wr : World) (h : strsAt wr b m) :
    Calls Tryz.prog 31 #[.slice (some ⟨b, 0, none⟩) n c] wr (Gives strCod m wr) := by
  subst hn
  by_cases h0 : m.length = 0
  · rw [h0]
    refine (Tryz.slices_Clone_string_zero ⟨b, 0, none⟩ c wr).mono fun e w' ⟨v, he, ho, _, hb⟩ => ?_
    obtain rfl : m = [] := List.length_eq_zero_iff.1 h0
    obtain ⟨a, c', hv, hc, hs⟩ := strsIn_owns (L := []) rfl ho
    exact ⟨a, c', by rw [he, hv], hc, hb, hs⟩
  · refine (Tryz.slices_Clone_string b 0 m.length c (m.map fun l => ByteArray.mk l.toArray) wr (by simp) (by omega) (fun j hj => ?_)).mono fun e w' ⟨v, he, ho, _, hb⟩ => ?_
    · have hj' : j < m.length := by simpa using hj
      rw [Nat.zero_add, h j hj']
      simp [List.getD, hj']
    · have e2 : ((m.map fun l => ByteArray.mk l.toArray).take m.length).map Value.string = strsL m := by
        rw [List.take_of_length_le (by simp), List.map_map]
        rfl
      rw [e2] at ho
      obtain ⟨a, c', hv, hc, hs⟩ := strsIn_owns rfl ho
      exact ⟨a, c', by rw [he, hv], hc, hb, hs⟩
theorem strsV_at (L : List (List UInt8)) (i : Nat) (p : List UInt8) (h : L[i]? = some p) : (strsV L)[i]? = some (.string ⟨p.toArray⟩) := by
  simp [strsV, strsL, h]
theorem last_split (c : UInt8) (l : List UInt8) : ∃ p, (splitL c l).getLast? = some p ∧ (splitL c l)[(splitL c l).length - 1]? = some p := by
  have h := splitL_pos c l
  exact ⟨_, by rw [List.getLast?_eq_getElem?, List.getElem?_eq_getElem], List.getElem?_eq_getElem (by omega)⟩

set_option maxHeartbeats 400000 in
theorem lines_any (l : List UInt8) (hl : l.length ≤ 4294967280) (m : Int) (w : World) (hm : HasMax m w) :
    Calls Tryz.prog 15 #[.string ⟨l.toArray⟩] w (Gives strCod (linesL l) w) := by
  have hn := splitL_length_le 10 l
  have hp := splitL_pos 10 l
  have hpl : ∀ p ∈ splitL 10 l, p.length ≤ l.length := splitL_piece_le 10 l
  obtain ⟨p, hlast, hpe⟩ := last_split 10 l
  have h10 : ((10 : UInt8).toNat : Int) = 10 := rfl
  have hs := split_any l 10 hl m w hm
  rw [h10] at hs
  unfold linesL
  generalize splitL 10 l = L at *
  have hget := strsV_at L _ p hpe
  have HS := Lib.hid hs
  have HP := Lib.hid hpl
  have HL := Lib.hid hlast
  clear hs h10 hm hpl hlast hpe
  cases hemp : p.isEmpty
  · have hd : dropEmpty L = L := by
      rw [dropEmpty, HL.out, if_neg]
      intro e; rw [Option.some.inj e] at hemp; cases hemp
    rw [hd]
    clear hd
    have HIN : Hid (∀ p, p ∈ L → p ∈ L) := fun p h => h
    have H0 : Hid (strsAt ((w.alloc (.cells #[.int .u8 10] 5)).alloc (.cells (strsV L) 9)) (w.heap.size + 1) L) := fun j hj => by
      rw [World.cell?_alloc_at _ _ _ _ (by simp), strsV_get L j hj]
    go_enter Tryz.func15, Tryz.ntmps15
    go_wp2_with (first | (go_at_call 29; refine (HS.out).mono ?_; rintro e w' ⟨rfl, rfl⟩))
    go_loopw [21] (fun i wr => ∃ k : Nat, k ≤ L.length ∧ i = .int .i64 k ∧ Below w.heap.size w wr ∧ isOld (w.heap.size + 1) wr = true ∧ strsAt wr (w.heap.size + 1) (crTo L k) ∧ (∀ j, j < L.length → wr.frozen? ⟨w.heap.size + 1, j, none⟩ = false)) (fun i _ => L.length - (intOf i).toNat)
    case atStart => exact ⟨0, Nat.zero_le _, rfl, (by repeat (first | exact Below.refl _ _ | assumption | refine below_grown ?_ (by first | omega | (simp [go_sem]; done) | (simp [go_sem] <;> omega)) _ | refine Below.alloc ?_ (by first | omega | (simp [go_sem]; done) | (simp [go_sem] <;> omega)) _ | refine below_bytesW ?_ (by first | omega | (simp [go_sem]; done) | (simp [go_sem] <;> omega)) _ | refine Below.drew ?_ | refine below_drewN ?_ _)), by simp [go_sem], by rw [crTo_zero]; exact H0.out, fun j _ => by simp [go_sem]⟩
    case round =>
      obtain ⟨k, hk, rfl, hb, hob, hby, hfr⟩ := hrel
      by_cases hlt : k < L.length
      · have hM : k < (L).length := hlt
        have hcell : wr.cell? ⟨w.heap.size + 1, k, none⟩ = some (.string ⟨((L)[k]'hM).toArray⟩) := by
          have := hby k (by rw [crTo_length]; exact hM)
          rwa [crTo_get _ k hM] at this
        have hz := hfr k hlt
        have hxl : ((L)[k]'hM).length ≤ l.length := HP.out _ (HIN.out _ (List.getElem_mem hM))
        have HB := Lib.hid hby
        have HF := Lib.hid hfr
        have HS2 := Lib.hid (crTo_succ _ k hM)
        clear hby hfr
        generalize (L)[k]'hM = x at *
        have hxs : (ByteArray.mk x.toArray).size ≤ 9223372036854775807 := by simp [ByteArray.size]; omega
        go_wp2_with (first | (go_at_call 30; refine (Tryz.strings_TrimSuffix _ _ _ hxs).mono ?_; rintro e w' ⟨rfl, rfl⟩))
        go_roundw
        case rel =>
          refine ⟨k + 1, by omega, by go_num, hb.setCell (by simp) _, by simp [go_sem, hob], ?_, fun j hj => ?_⟩
          · rw [HS2.out]; exact strsAt_set HB.out k (by rw [crTo_length]; exact hM) (cutCR x)
          · rw [World.frozen?_setCell]; exact HF.out j hj
        case measure => simp [intOf]; omega
      · obtain rfl : k = L.length := by omega
        have hc := lines_clone ((L).map cutCR) (by rw [List.length_map]; omega) (w.heap.size + 1) (L.length) L.length (by rw [List.length_map]) wr (by rw [← crTo_all]; exact hby)
        have HC := Lib.hid hc
        have HB := Lib.hid hb
        clear hc hby hfr
        go_wp2_with (first | (go_at_call 31; refine (HC.out).mono ?_; rintro e w' hg; obtain ⟨a, c, rfl, hc2, hb2, hs2⟩ := hg; have H2 := Lib.hid hb2; have H3 := Lib.hid hs2; clear hb2 hs2))
        go_ret
        exact Gives.of_below HB.out ⟨a, c, by simp, by simpa using hc2, H2.out, H3.out⟩
  · have hd : dropEmpty L = L.dropLast := by
      rw [dropEmpty, HL.out, if_pos]
      rw [List.isEmpty_iff.1 hemp]
    rw [hd]
    clear hd
    have HM : Hid (L.dropLast.length = L.length - 1) := List.length_dropLast
    have HIN : Hid (∀ p, p ∈ L.dropLast → p ∈ L) := fun p h => List.dropLast_subset _ h
    have H0 : Hid (strsAt ((w.alloc (.cells #[.int .u8 10] 5)).alloc (.cells (strsV L) 9)) (w.heap.size + 1) L.dropLast) := fun j hj => by
      rw [World.cell?_alloc_at _ _ _ _ (by simp), strsV_get L j (by rw [List.length_dropLast] at hj; omega), List.getElem_dropLast]
    go_enter Tryz.func15, Tryz.ntmps15
    go_wp2_with (first | (go_at_call 29; refine (HS.out).mono ?_; rintro e w' ⟨rfl, rfl⟩))
    go_loopw [21] (fun i wr => ∃ k : Nat, k ≤ (L.length - 1) ∧ i = .int .i64 k ∧ Below w.heap.size w wr ∧ isOld (w.heap.size + 1) wr = true ∧ strsAt wr (w.heap.size + 1) (crTo L.dropLast k) ∧ (∀ j, j < (L.length - 1) → wr.frozen? ⟨w.heap.size + 1, j, none⟩ = false)) (fun i _ => (L.length - 1) - (intOf i).toNat)
    case atStart => exact ⟨0, Nat.zero_le _, rfl, (by repeat (first | exact Below.refl _ _ | assumption | refine below_grown ?_ (by first | omega | (simp [go_sem]; done) | (simp [go_sem] <;> omega)) _ | refine Below.alloc ?_ (by first | omega | (simp [go_sem]; done) | (simp [go_sem] <;> omega)) _ | refine below_bytesW ?_ (by first | omega | (simp [go_sem]; done) | (simp [go_sem] <;> omega)) _ | refine Below.drew ?_ | refine below_drewN ?_ _)), by simp [go_sem], by rw [crTo_zero]; exact H0.out, fun j _ => by simp [go_sem]⟩
    case round =>
      obtain ⟨k, hk, rfl, hb, hob, hby, hfr⟩ := hrel
      by_cases hlt : k < (L.length - 1)
      · have hM : k < (L.dropLast).length := by rw [HM.out]; exact hlt
        have hcell : wr.cell? ⟨w.heap.size + 1, k, none⟩ = some (.string ⟨((L.dropLast)[k]'hM).toArray⟩) := by
          have := hby k (by rw [crTo_length]; exact hM)
          rwa [crTo_get _ k hM] at this
        have hz := hfr k hlt
        have hxl : ((L.dropLast)[k]'hM).length ≤ l.length := HP.out _ (HIN.out _ (List.getElem_mem hM))
        have HB := Lib.hid hby
        have HF := Lib.hid hfr
        have HS2 := Lib.hid (crTo_succ _ k hM)
        clear hby hfr
        generalize (L.dropLast)[k]'hM = x at *
        have hxs : (ByteArray.mk x.toArray).size ≤ 9223372036854775807 := by simp [ByteArray.size]; omega
        go_wp2_with (first | (go_at_call 30; refine (Tryz.strings_TrimSuffix _ _ _ hxs).mono ?_; rintro e w' ⟨rfl, rfl⟩))
        go_roundw
        case rel =>
          refine ⟨k + 1, by omega, by go_num, hb.setCell (by simp) _, by simp [go_sem, hob], ?_, fun j hj => ?_⟩
          · rw [HS2.out]; exact strsAt_set HB.out k (by rw [crTo_length]; exact hM) (cutCR x)
          · rw [World.frozen?_setCell]; exact HF.out j hj
        case measure => simp [intOf]; omega
      · obtain rfl : k = (L.length - 1) := by omega
        have hc := lines_clone ((L.dropLast).map cutCR) (by rw [List.length_map, HM.out]; omega) (w.heap.size + 1) ((L.length - 1)) L.length (by rw [List.length_map, HM.out]) wr (by rw [← crTo_all, HM.out]; exact hby)
        have HC := Lib.hid hc
        have HB := Lib.hid hb
        clear hc hby hfr
        go_wp2_with (first | (go_at_call 31; refine (HC.out).mono ?_; rintro e w' hg; obtain ⟨a, c, rfl, hc2, hb2, hs2⟩ := hg; have H2 := Lib.hid hb2; have H3 := Lib.hid hs2; clear hb2 hs2))
        go_ret
        exact Gives.of_below HB.out ⟨a, c, by simp, by simpa using hc2, H2.out, H3.out⟩
end

section
open Go Go.RowKit

theorem drop_at (c : UInt8) (l : List UInt8) (f k : Nat) (hf : f ≤ k) (hk : k < l.length) (hc : l[k]'hk = c) : l.drop f = (l.take k).drop f ++ c :: l.drop (k + 1) := by
  have e : l = l.take k ++ (c :: l.drop (k + 1)) := by
    rw [← hc, ← List.drop_eq_getElem_cons hk, List.take_append_drop]
  conv => lhs; rw [e]
  rw [List.drop_append]
  have : f - (l.take k).length = 0 := by rw [List.length_take]; omega
  rw [this, List.drop_zero]
theorem drop_take_swap (l : List UInt8) (f k : Nat) : (l.drop f).take (k - f) = (l.take k).drop f := by
  rw [List.drop_take]
theorem take_succ_drop (l : List UInt8) (f k : Nat) (hf : f ≤ k) (hk : k < l.length) : (l.take (k + 1)).drop f = (l.take k).drop f ++ [l[k]'hk] := by
  rw [List.take_succ_eq_append_getElem hk, List.drop_append]
  have : f - (l.take k).length = 0 := by rw [List.length_take]; omega
  rw [this, List.drop_zero]
def SplitInv (c : UInt8) (l : List UInt8) (P : List (List UInt8)) (f k : Nat) : Prop := splitL c l = P ++ splitL c (l.drop f) ∧ c ∉ (l.take k).drop f
theorem SplitInv.hit {c : UInt8} {l : List UInt8} {P : List (List UInt8)} {f k : Nat} (h : SplitInv c l P f k) (hf : f ≤ k) (hk : k < l.length) (hc : l[k]'hk = c) : SplitInv c l (P ++ [(l.drop f).take (k - f)]) (k + 1) (k + 1) := by
  obtain ⟨h1, h2⟩ := h
  refine ⟨?_, by simp⟩
  rw [drop_take_swap, h1, drop_at c l f k hf hk hc, splitL_append c _ _ h2]
  simp
theorem SplitInv.miss {c : UInt8} {l : List UInt8} {P : List (List UInt8)} {f k : Nat} (h : SplitInv c l P f k) (hf : f ≤ k) (hk : k < l.length) (hc : l[k]'hk ≠ c) : SplitInv c l P f (k + 1) := by
  obtain ⟨h1, h2⟩ := h
  refine ⟨h1, ?_⟩
  rw [take_succ_drop l f k hf hk, List.mem_append]
  rintro (h | h)
  · exact h2 h
  · exact hc (List.mem_singleton.1 h).symm
theorem SplitInv.done {c : UInt8} {l : List UInt8} {P : List (List UInt8)} {f : Nat} (h : SplitInv c l P f l.length) : P ++ [l.drop f] = splitL c l := by
  obtain ⟨h1, h2⟩ := h
  rw [List.take_length] at h2
  rw [h1, splitL_none c _ h2]

set_option maxHeartbeats 400000 in
theorem refSplit_any (l : List UInt8) (c : UInt8) (hl : l.length ≤ 4294967280) (w : World) :
    Calls Tryz.prog 37 #[.string ⟨l.toArray⟩, .int .u8 (c.toNat : Int)] w (Gives strCod (splitL c l) w) := by
  go_enter Tryz.func37, Tryz.ntmps37
  go_wp2
  go_loopw [5, 6, 7] (fun out fr i wr => ∃ (P : List (List UInt8)) (f k : Nat), f ≤ k ∧ k ≤ l.length ∧ P.length ≤ f ∧ fr = .int .i64 f ∧ i = .int .i64 k ∧ Below w.heap.size w wr ∧ Own strCod (From w.heap.size) wr out P ∧ SplitInv c l P f k) (fun _ _ i _ => l.length - (intOf i).toNat)
  case atStart => exact ⟨[], 0, 0, Nat.le_refl _, Nat.zero_le _, Nat.le_refl _, rfl, rfl, (by repeat (first | exact Below.refl _ _ | assumption | refine below_grown ?_ (by first | omega | (simp [go_sem]; done) | (simp [go_sem] <;> omega)) _ | refine Below.alloc ?_ (by first | omega | (simp [go_sem]; done) | (simp [go_sem] <;> omega)) _ | refine below_bytesW ?_ (by first | omega | (simp [go_sem]; done) | (simp [go_sem] <;> omega)) _ | refine Below.drew ?_ | refine below_drewN ?_ _)), Own.made0 (Nat.le_refl _) rfl, rfl, by simp⟩
  case round =>
    obtain ⟨P, f, k, hf, hk, hP, rfl, rfl, hb, ho, hv⟩ := hrel
    have hsz := hb.size
    have HB := Lib.hid hb
    have HO := Lib.hid ho
    clear hb ho
    by_cases hlt : k < l.length
    · by_cases hc : l[k]'hlt = c
      · have HV := Lib.hid (hv.hit hf hlt hc)
        have hc' : ∀ h, l[k]'h = c := fun _ => hc
        clear hv hc
        go_wp2_with (at_builtin; refine wpList_append_list rfl strCod (.tmp 20) (.tmp 25) 26 rfl rfl (From w.heap.size) _ _ (P) rfl (HO.out.alloc _) _ 0 _ _ [(l.drop f).take (k - f)] rfl rfl (listAt_new _ _ [_] _ rfl (by first | rfl | (simp [go_sem]; done))) (by first | omega | (simp; done) | (simp; omega) | (simp [go_sem]; done) | (simp [go_sem]; omega) | (simp [strCod]; omega)) (by first | omega | (simp; done) | (simp; omega) | (simp [go_sem]; done) | (simp [go_sem]; omega) | (simp [strCod]; omega)) (by first | (show _ ≤ _; first | omega | (simp; omega) | (simp [go_sem]; omega)) | (show _ ∨ _; right; first | omega | (simp; omega) | (simp [go_sem]; omega))) ?_; intro v' w1 ho1 hb1; have HO1 := Lib.hid ho1; have HB1 := Lib.hid hb1; clear ho1 hb1)
        go_roundw
        case rel => exact ⟨_, k + 1, k + 1, Nat.le_refl _, by omega, by simp; omega, by go_num, by go_num, (HB.out.alloc (by first | omega | (simp; done) | (simp; omega) | (simp [go_sem]; done) | (simp [go_sem]; omega) | (simp [strCod]; omega)) _).trans (HB1.out.below_from (by first | omega | (simp; done) | (simp; omega) | (simp [go_sem]; done) | (simp [go_sem]; omega) | (simp [strCod]; omega))), HO1.out, HV.out⟩
        case measure => simp [intOf]; omega
      · have HV := Lib.hid (hv.miss hf hlt hc)
        have hc' : ∀ h, (((l[k]'h).toNat : Int) == (c.toNat : Int)) = false := fun h => by
          rw [u8_lit _ c _ rfl]; simpa using hc
        clear hv hc
        go_wp2
        go_roundw
        case rel => exact ⟨P, f, k + 1, by omega, by omega, hP, rfl, by go_num, HB.out, HO.out, HV.out⟩
        case measure => simp [intOf]; omega
    · obtain rfl : k = l.length := by omega
      have HV := Lib.hid hv.done
      clear hv
      go_wp2_with (at_builtin; refine wpList_append_list rfl strCod (.tmp 29) (.tmp 33) 26 rfl rfl (From w.heap.size) _ _ (P) rfl (HO.out.alloc _) _ 0 _ _ [l.drop f] rfl rfl (listAt_new _ _ [_] _ rfl (by first | rfl | (simp [go_sem]; done))) (by first | omega | (simp; done) | (simp; omega) | (simp [go_sem]; done) | (simp [go_sem]; omega) | (simp [strCod]; omega)) (by first | omega | (simp; done) | (simp; omega) | (simp [go_sem]; done) | (simp [go_sem]; omega) | (simp [strCod]; omega)) (by first | (show _ ≤ _; first | omega | (simp; omega) | (simp [go_sem]; omega)) | (show _ ∨ _; right; first | omega | (simp; omega) | (simp [go_sem]; omega))) ?_; intro v' w1 ho1 hb1; have HO1 := Lib.hid ho1; have HB1 := Lib.hid hb1; clear ho1 hb1)
      go_ret
      rw [← HV.out]
      exact HO1.out.gives (fun _ h => h) ((HB.out.alloc (by first | omega | (simp; done) | (simp; omega) | (simp [go_sem]; done) | (simp [go_sem]; omega) | (simp [strCod]; omega)) _).trans (HB1.out.below_from (by first | omega | (simp; done) | (simp; omega) | (simp [go_sem]; done) | (simp [go_sem]; omega) | (simp [strCod]; omega))))
end

section
open Go Go.RowKit
set_option linter.unusedSimpArgs false
set_option linter.unusedVariables false

theorem cutCR_nil : cutCR [] = [] := rfl
theorem suffix_snoc (y : List UInt8) (d e : UInt8) : Lib.hasSuffix (y ++ [d]) [e] = (d == e) := by
  rw [Lib.hasSuffix, Bool.eq_iff_iff, List.isSuffixOf_iff_suffix, beq_iff_eq]
  constructor
  · rintro ⟨t, h⟩
    have := (List.append_inj' h rfl).2
    simpa using this.symm
  · rintro rfl
    exact ⟨y, rfl⟩
theorem cutCR_snoc (x : List UInt8) (h : 0 < x.length) : cutCR x = if x[x.length - 1]'(by omega) = 13 then x.take (x.length - 1) else x := by
  rcases List.eq_nil_or_concat x with e | ⟨y, d, e⟩
  · subst e; simp at h
  · rw [List.concat_eq_append] at e
    subst e
    simp only [cutCR, Lib.trimSuffix, suffix_snoc]
    simp
theorem getLast_of (L : List (List UInt8)) (k : Nat) (hk : k < L.length) (h : k = L.length - 1) : L.getLast? = Option.some (L[k]'hk) := by
  rw [List.getLast?_eq_getElem?, ← h, List.getElem?_eq_getElem hk]
def LinesInv (L : List (List UInt8)) (k : Nat) : Prop := k = L.length → L.getLast? ≠ Option.some []
set_option maxHeartbeats 1000000 in
theorem refLines_any (l : List UInt8) (hl : l.length ≤ 4294967280) (w : World) :
    Calls Tryz.prog 18 #[.string ⟨l.toArray⟩] w (Gives strCod (linesL l) w) := by
  have hn := splitL_length_le 10 l
  have hp := splitL_pos 10 l
  have hne := splitL_ne 10 l
  have hpl : ∀ p ∈ splitL 10 l, p.length ≤ l.length := splitL_piece_le 10 l
  have h10 : ((10 : UInt8).toNat : Int) = 10 := rfl
  have hcall := fun w => refSplit_any l 10 hl w
  rw [h10] at hcall
  unfold linesL
  generalize splitL 10 l = L at *
  have HC := Lib.hid hcall
  have HP := Lib.hid hpl
  have HN := Lib.hid hne
  clear hcall hpl hne h10
  go_enter Tryz.func18, Tryz.ntmps18
  go_wp2_with (go_at_call 37; refine (HC.out _).mono ?_; intro e w1 hg; obtain ⟨b, o, cap, rfl, hcap, hb1, hlo, hhi, hat⟩ := hg.some HN.out; have HBC := Lib.hid hb1; have HAT := Lib.hid hat; clear hg hb1 hat)
  have hs0 := HBC.out.size
  simp at hs0 hlo
  go_loopw [3, 12] (fun out i wr => ∃ (k : Nat), k ≤ L.length ∧ i = .int .i64 k ∧ Keeps (Also w.heap.size w1.heap.size) w1 wr ∧ Own strCod (Also w.heap.size w1.heap.size) wr out ((L.take k).map cutCR) ∧ LinesInv L k) (fun _ i _ => L.length - (intOf i).toNat)
  case atStart => exact ⟨0, Nat.zero_le _, rfl, Keeps.refl _ _, (Own.made0 (.inl rfl) rfl).below HBC.out, fun h => by omega⟩
  case round =>
    obtain ⟨k, hk, rfl, hb, ho, hinv⟩ := hrel
    have hsz := hb.size
    have HB := Lib.hid hb
    have HO := Lib.hid ho
    have HBE : Hid (Below w.heap.size w wr) := ((Below.refl _ _).alloc (Nat.le_refl _) _).trans ((HBC.out.mono (by first | omega | (simp; done) | (simp; omega) | (simp [go_sem]; done) | (simp [go_sem]; omega) | (simp [strCod]; omega))).trans (hb.below_also (by first | omega | (simp; done) | (simp; omega) | (simp [go_sem]; done) | (simp [go_sem]; omega) | (simp [strCod]; omega)) (Nat.le_refl _)))
    by_cases hlt : k < L.length
    · have hcell := strAt (HAT.out.keeps hb hhi (by intro hn; rcases hn with hn | hn <;> first | omega | (simp at hn; omega))) k hlt
      have hx := HP.out _ (List.getElem_mem hlt)
      have HE := Lib.hid (map_take_succ cutCR L k hlt)
      have HI : Hid (k = L.length - 1 → L.getLast? = some (L[k]'hlt)) := fun h => getLast_of L k hlt h
      have HI2 : Hid (L[k]'hlt ≠ [] → LinesInv L (k + 1)) := fun h h2 => by rw [getLast_of L k hlt (by omega)]; simpa using h
      clear hb ho hinv
      have HCS := Lib.hid (cutCR_snoc (L[k]'hlt))
      have hPk : (((L.take k).map cutCR)).length ≤ k := by simp; omega
      generalize L[k]'hlt = x at *
      generalize hPd : (L.take k).map cutCR = P at *
      have HPD := Lib.hid hPd
      clear hPd
      by_cases hx0 : x = []
      · subst hx0
        by_cases hq : k = L.length - 1
        · have hq' : ((k : Int) == (L.length : Int) - 1) = true := by simp; omega
          have HL : Hid ((dropEmpty L).map cutCR = P) := by
            show _ = _
            rw [dropEmpty, if_pos (HI.out hq), List.dropLast_eq_take, ← hq, HPD.out]
          clear hq
          go_wp2
          go_ret
          rw [HL.out]
          exact HO.out.gives (fun _ h => also_le (by first | omega | (simp; done) | (simp; omega) | (simp [go_sem]; done) | (simp [go_sem]; omega) | (simp [strCod]; omega)) h) HBE.out
        · have hq' : ((k : Int) == (L.length : Int) - 1) = false := by simp; omega
          have HV : Hid (LinesInv L (k + 1)) := fun h => by omega
          clear hq
          go_wp2_with (at_builtin; refine wpList_append_list rfl strCod (.tmp 42) (.tmp 44) 26 rfl rfl (Also w.heap.size w1.heap.size) _ _ (P) rfl (HO.out.alloc _) _ 0 _ _ [[]] rfl rfl (listAt_new _ _ [_] _ rfl (by first | rfl | (simp [go_sem]; done))) (by first | omega | (simp; done) | (simp; omega) | (simp [go_sem]; done) | (simp [go_sem]; omega) | (simp [strCod]; omega)) (by first | omega | (simp; done) | (simp; omega) | (simp [go_sem]; done) | (simp [go_sem]; omega) | (simp [strCod]; omega)) (by first | (show _ ≤ _; first | omega | (simp; omega) | (simp [go_sem]; omega)) | (show _ ∨ _; right; first | omega | (simp; omega) | (simp [go_sem]; omega))) ?_; intro v' w1 ho1 hb1; have HO1 := Lib.hid ho1; have HB1 := Lib.hid hb1; clear ho1 hb1)
          go_roundw
          case rel => exact ⟨k + 1, by omega, by go_num, (HB.out.alloc _).trans HB1.out, by rw [HE.out]; exact HO1.out, HV.out⟩
          case measure => simp [intOf]; omega
      · have HV := Lib.hid (HI2.out hx0)
        have h0 : 0 < x.length := List.length_pos_iff.2 hx0
        have hem : x.isEmpty = false := by cases x <;> simp_all
        have hem2 : (x == []) = false := by simpa using hx0
        obtain ⟨d, hxl⟩ : ∃ d, ∀ h, x[x.length - 1]'h = d := ⟨x[x.length - 1]'(by omega), fun _ => rfl⟩
        have HCS2 : Hid (cutCR x = if d = 13 then x.take (x.length - 1) else x) := by have := HCS.out h0; rw [hxl] at this; exact this
        clear HCS
        have hd := u8_lit d 13 13 rfl
        by_cases hdd : d = 13
        · have HCC : Hid (cutCR x = x.take (x.length - 1)) := HCS2.out.trans (if_pos hdd)
          have hd' : ((d.toNat : Int) == 13) = true := by rw [hd]; simpa using hdd
          clear hd hdd hx0
          cases hq : ((k : Int) == (L.length : Int) - 1)
          all_goals
            go_wp2_with (at_builtin; refine wpList_append_list rfl strCod (.tmp 42) (.tmp 44) 26 rfl rfl (Also w.heap.size w1.heap.size) _ _ (P) rfl (HO.out.alloc _) _ 0 _ _ [x.take (x.length - 1)] rfl rfl (listAt_new _ _ [_] _ rfl (by first | rfl | (simp [go_sem]; done))) (by first | omega | (simp; done) | (simp; omega) | (simp [go_sem]; done) | (simp [go_sem]; omega) | (simp [strCod]; omega)) (by first | omega | (simp; done) | (simp; omega) | (simp [go_sem]; done) | (simp [go_sem]; omega) | (simp [strCod]; omega)) (by first | (show _ ≤ _; first | omega | (simp; omega) | (simp [go_sem]; omega)) | (show _ ∨ _; right; first | omega | (simp; omega) | (simp [go_sem]; omega))) ?_; intro v' w1 ho1 hb1; have HO1 := Lib.hid ho1; have HB1 := Lib.hid hb1; clear ho1 hb1)
            go_roundw
            case rel => exact ⟨k + 1, by omega, by go_num, (HB.out.alloc _).trans HB1.out, by rw [HE.out, HCC.out]; exact HO1.out, HV.out⟩
            case measure => simp [intOf]; omega
        · have HCC : Hid (cutCR x = x) := HCS2.out.trans (if_neg hdd)
          have hd' : ((d.toNat : Int) == 13) = false := by rw [hd]; simpa using hdd
          clear hd hdd hx0
          cases hq : ((k : Int) == (L.length : Int) - 1)
          all_goals
            go_wp2_with (at_builtin; refine wpList_append_list rfl strCod (.tmp 42) (.tmp 44) 26 rfl rfl (Also w.heap.size w1.heap.size) _ _ (P) rfl (HO.out.alloc _) _ 0 _ _ [x] rfl rfl (listAt_new _ _ [_] _ rfl (by first | rfl | (simp [go_sem]; done))) (by first | omega | (simp; done) | (simp; omega) | (simp [go_sem]; done) | (simp [go_sem]; omega) | (simp [strCod]; omega)) (by first | omega | (simp; done) | (simp; omega) | (simp [go_sem]; done) | (simp [go_sem]; omega) | (simp [strCod]; omega)) (by first | (show _ ≤ _; first | omega | (simp; omega) | (simp [go_sem]; omega)) | (show _ ∨ _; right; first | omega | (simp; omega) | (simp [go_sem]; omega))) ?_; intro v' w1 ho1 hb1; have HO1 := Lib.hid ho1; have HB1 := Lib.hid hb1; clear ho1 hb1)
            go_roundw
            case rel => exact ⟨k + 1, by omega, by go_num, (HB.out.alloc _).trans HB1.out, by rw [HE.out, HCC.out]; exact HO1.out, HV.out⟩
            case measure => simp [intOf]; omega
    · obtain rfl : k = L.length := by omega
      have HL : Hid ((dropEmpty L).map cutCR = (L.take L.length).map cutCR) := by
        show _ = _
        rw [dropEmpty, if_neg (hinv rfl), List.take_length]
      clear hb ho hinv
      go_wp2
      go_ret
      rw [HL.out]
      exact HO.out.gives (fun _ h => also_le (by first | omega | (simp; done) | (simp; omega) | (simp [go_sem]; done) | (simp [go_sem]; omega) | (simp [strCod]; omega)) h) HBE.out
end

section
open Go Go.RowKit
set_option linter.unusedSimpArgs false
set_option linter.unusedVariables false

def wordsL (l : List UInt8) : List (List UInt8) := if wordsOk l = true then splitL 32 l else []
theorem any_take (L : List (List UInt8)) (k : Nat) (h : k < L.length) : (L.take (k + 1)).any (·.isEmpty) = ((L.take k).any (·.isEmpty) || (L[k]'h).isEmpty) := by
  rw [List.take_succ_eq_append_getElem h, List.any_append]
  simp
theorem any_of_get (L : List (List UInt8)) (k : Nat) (h : k < L.length) (he : (L[k]'h).isEmpty = true) : L.any (·.isEmpty) = true :=
  List.any_eq_true.2 ⟨_, List.getElem_mem h, he⟩
set_option maxHeartbeats 400000 in
theorem refWords_any (l : List UInt8) (hl : l.length ≤ 4294967280) (w : World) :
    Calls Tryz.prog 19 #[.string ⟨l.toArray⟩] w (Gives2 strCod (wordsL l) (wordsOk l) w) := by
  have hn := splitL_length_le 32 l
  have hne := splitL_ne 32 l
  have h10 : ((32 : UInt8).toNat : Int) = 32 := rfl
  have hcall := fun w => refSplit_any l 32 hl w
  rw [h10] at hcall
  have hT : (splitL 32 l).any (·.isEmpty) = true → wordsL l = [] ∧ wordsOk l = false := fun h => by simp [wordsL, wordsOk, h]
  have hF : (splitL 32 l).any (·.isEmpty) = false → wordsL l = splitL 32 l ∧ wordsOk l = true := fun h => by simp [wordsL, wordsOk, h]
  generalize splitL 32 l = L at *
  generalize wordsL l = W at *
  generalize wordsOk l = ok at *
  have HT := Lib.hid hT
  have HF := Lib.hid hF
  clear hT hF
  have HC := Lib.hid hcall
  have HN := Lib.hid hne
  clear hcall hne h10
  go_enter Tryz.func19, Tryz.ntmps19
  go_wp2_with (go_at_call 37; refine (HC.out _).mono ?_; intro e w1 hg; obtain ⟨b, o, cap, rfl, hcap, hb1, hlo, hhi, hat⟩ := hg.some HN.out; have HBC := Lib.hid hb1; have HAT := Lib.hid hat; clear hg hb1 hat)
  go_loop [11] (fun i => ∃ (k : Nat), k ≤ L.length ∧ i = .int .i64 k ∧ Hid ((L.take k).any (·.isEmpty) = false)) (fun i => L.length - (intOf i).toNat)
  case atStart => exact ⟨0, Nat.zero_le _, rfl, rfl⟩
  case round =>
    obtain ⟨k, hk, rfl, hinv⟩ := hrel
    by_cases hlt : k < L.length
    · have hcell := strAt HAT.out k hlt
      have HE := Lib.hid (any_take L k hlt)
      have HI := Lib.hid (any_of_get L k hlt)
      generalize L[k]'hlt = x at *
      by_cases hx0 : x = []
      · have HL : Hid (L.any (·.isEmpty) = true) := HI.out (by rw [hx0]; rfl)
        subst hx0
        go_wp2
        go_ret2
        obtain ⟨rfl, rfl⟩ := HT.out HL.out
        exact ⟨none, 0, rfl, Nat.le_refl _, HBC.out, .inl rfl⟩
      · have hem : x.isEmpty = false := by cases x <;> simp_all
        have hem2 : (x == []) = false := by simpa using hx0
        have HV : Hid ((L.take (k + 1)).any (·.isEmpty) = false) := show _ = false by rw [HE.out, hinv.out, hem]; rfl
        clear hx0
        go_wp2
        go_round
        case rel => exact ⟨k + 1, by omega, by go_num, HV⟩
        case measure => simp [intOf]; omega
    · obtain rfl : k = L.length := by omega
      have HL : Hid (L.any (·.isEmpty) = false) := by have := hinv.out; rw [List.take_length] at this; exact this
      clear hinv
      go_wp2
      go_ret2
      obtain ⟨rfl, rfl⟩ := HF.out HL.out
      exact ⟨some ⟨b, o, none⟩, cap, rfl, hcap, HBC.out, .inr ⟨b, o, rfl, hlo, hhi, HAT.out⟩⟩
theorem words_gives (l : List UInt8) (hl : l.length ≤ 4294967280) (m : Int) (w : World) (hm : HasMax m w) :
    Calls Tryz.prog 33 #[.string ⟨l.toArray⟩] w (Gives2 strCod (wordsL l) (wordsOk l) w) := by
  refine (words_any l hl m w hm).mono fun e w' ⟨he, hw⟩ => ?_
  have hb : Below w.heap.size w w' := by rw [hw]; exact ((Below.refl _ _).alloc (Nat.le_refl _) _).alloc (by simp) _
  have hat : ListAt strCod w' (w.heap.size + 1) 0 (splitL 32 l) := by
    rw [hw]; exact listAt_new _ _ _ _ (by rw [strEncs]; rfl) (by simp)
  unfold wordsL
  cases hok : wordsOk l
  · rw [hok] at he
    exact ⟨none, 0, he, Nat.le_refl _, hb, .inl rfl⟩
  · rw [hok] at he
    rw [he]
    exact Gives2.of_some (Nat.le_refl _) hb (Nat.le_succ _) (by rw [hw]; simp) hat
theorem wordsL_le (l : List UInt8) : (wordsL l).length ≤ l.length + 1 := by
  unfold wordsL
  split
  · exact splitL_length_le 32 l
  · simp
theorem linesL_le (l : List UInt8) : (linesL l).length ≤ l.length + 1 := by
  have := splitL_length_le 10 l
  unfold linesL dropEmpty
  rw [List.length_map]
  split
  · rw [List.length_dropLast]; omega
  · exact this
theorem take_succ_same (A B : List (List UInt8)) (k : Nat) (ha : k < A.length) (hb : k < B.length) (h : A.take k = B.take k) (he : A[k]'ha = B[k]'hb) : A.take (k + 1) = B.take (k + 1) := by
  rw [List.take_succ_eq_append_getElem ha, List.take_succ_eq_append_getElem hb, h, he]
theorem ne_of_get (A B : List (List UInt8)) (k : Nat) (ha : k < A.length) (hb : k < B.length) (he : A[k]'ha ≠ B[k]'hb) : (A == B) = false := by
  rw [beq_eq_false_iff_ne]; rintro rfl; exact he rfl
theorem ne_of_len (A B : List (List UInt8)) (he : A.length ≠ B.length) : (A == B) = false := by
  rw [beq_eq_false_iff_ne]; rintro rfl; exact he rfl
set_option maxHeartbeats 400000 in
theorem refSame_any (A B : List (List UInt8)) (a b : Option Addr) (ca cb la lb : Nat) (hA : A.length ≤ 4294967290) (hB : B.length ≤ 4294967290) (w : World) (ha : ListIn strCod w a A la) (hb : ListIn strCod w b B lb) :
    Calls Tryz.prog 13 #[.slice a A.length ca, .slice b B.length cb] w fun e w' => e = .returned (.bool (A == B)) ∧ Below w.heap.size w w' := by
  by_cases hlen : A.length = B.length
  · rcases ha with rfl | ⟨ba, oa, rfl, _, hba, ha⟩
    · obtain rfl : B = [] := List.length_eq_zero_iff.1 hlen.symm
      clear hlen hb
      go_enter Tryz.func13, Tryz.ntmps13
      go_wp2
      go_loop [13] (fun i => i = .int .i64 0) (fun i => 0)
      case atStart => rfl
      case round =>
        subst hrel
        go_wp2
        go_ret
        exact ⟨rfl, Below.refl _ _⟩
    · rcases hb with rfl | ⟨bb, ob, rfl, _, hbb, hb⟩
      · obtain rfl : A = [] := List.length_eq_zero_iff.1 hlen
        clear hlen ha
        go_enter Tryz.func13, Tryz.ntmps13
        go_wp2
        go_loop [13] (fun i => i = .int .i64 0) (fun i => 0)
        case atStart => rfl
        case round =>
          subst hrel
          go_wp2
          go_ret
          exact ⟨rfl, Below.refl _ _⟩
      · have HA := Lib.hid ha
        have HB := Lib.hid hb
        have hl' : ((A.length : Int) != B.length) = false := by rw [hlen]; simp
        have hle : A.length ≤ B.length := by omega
        have HEQ : Hid (A.take A.length = B.take A.length → (A == B) = true) := fun h => by
          rw [List.take_length, hlen, List.take_length] at h
          simp [h]
        clear ha hb hlen
        go_enter Tryz.func13, Tryz.ntmps13
        go_wp2
        go_loopw [13] (fun i wr => ∃ (k : Nat), k ≤ A.length ∧ i = .int .i64 k ∧ Below w.heap.size w wr ∧ Hid (A.take k = B.take k)) (fun i _ => A.length - (intOf i).toNat)
        case atStart => exact ⟨0, Nat.zero_le _, rfl, Below.refl _ _, rfl⟩
        case round =>
          obtain ⟨k, hk, rfl, hbl, hinv⟩ := hrel
          have HBL := Lib.hid hbl
          by_cases hlt : k < A.length
          · have hlt2 : k < B.length := by omega
            have hca := strAt (HA.out.below hbl) k hlt
            have hcb := strAt (HB.out.below hbl) k hlt2
            have hoa : isOld ba wr = true := isOld_iff.2 (Nat.lt_of_lt_of_le hba hbl.size)
            have hob : isOld bb wr = true := isOld_iff.2 (Nat.lt_of_lt_of_le hbb hbl.size)
            have HE := Lib.hid (take_succ_same A B k hlt hlt2 hinv.out)
            have HF := Lib.hid (ne_of_get A B k hlt hlt2)
            clear hinv hbl
            generalize A[k]'hlt = x at *
            generalize B[k]'hlt2 = y at *
            by_cases hxy : x = y
            · have HV : Hid (A.take (k + 1) = B.take (k + 1)) := HE.out hxy
              subst hxy
              go_wp2
              refine wp_region_quiet_grown (by kernel_rfl) (by kernel_rfl) ?_
              repeat (quiet_step (fail))
              refine wpQuiet_nil ?_; intro _ hw'; obtain ⟨pq, hw''⟩ := hw'; subst hw''
              go_wp2
              go_roundw
              case rel => exact ⟨k + 1, by omega, by go_num, below_grown HBL.out HBL.out.size _, HV⟩
              case measure => simp [intOf]; omega
            · have HV := Lib.hid (HF.out hxy)
              have hxy' : (x == y) = false := by simpa using hxy
              clear hxy
              go_wp2
              refine wp_region_quiet_grown (by kernel_rfl) (by kernel_rfl) ?_
              repeat (quiet_step (fail))
              refine wpQuiet_nil ?_; intro _ hw'; obtain ⟨pq, hw''⟩ := hw'; subst hw''
              go_wp2
              go_ret
              exact ⟨ret_bool HV.out.symm, below_grown HBL.out HBL.out.size _⟩
          · obtain rfl : k = A.length := by omega
            have HV := Lib.hid (HEQ.out hinv.out)
            go_wp2
            go_ret
            exact ⟨ret_bool HV.out.symm, HBL.out⟩
  · have hl' : ((A.length : Int) != B.length) = true := by simp; omega
    rw [ne_of_len A B hlen]
    clear ha hb hlen
    go_enter Tryz.func13, Tryz.ntmps13
    go_wp2
    go_ret
    exact ⟨rfl, Below.refl _ _⟩
end

section
open Go Go.RowKit

def u8s (l : List UInt8) : List Value := l.map fun x => .int .u8 (x.toNat : Int)
/-- A slice of bytes of one's own, in blocks from B on, holds this text. -/
def OwnB (B : Nat) (w : World) (v : Value) (l : List UInt8) : Prop := w.ownsRow B 5 1 v l.length (u8s l)
theorem OwnB.nil (B : Nat) (w : World) : OwnB B w (.slice none 0 0) [] := World.ownsRow_nil w B _ 1
theorem OwnB.below {B : Nat} {w w' : World} {v : Value} {l : List UInt8} (h : OwnB B w v l) (hb : Below w.heap.size w w') : OwnB B w' v l := by
  obtain ⟨h1, h2⟩ := h
  refine ⟨h1, ?_⟩
  rcases h2 with h2 | ⟨g, cap, cur, hv, hg, hh, r⟩
  · exact .inl h2
  · refine .inr ⟨g, cap, cur, hv, hg, ?_, r⟩
    rw [hb.block g ?_]; exact hh
    rcases Nat.lt_or_ge g w.heap.size with h' | h'
    · exact h'
    · rw [Array.getElem?_eq_none h'] at hh; cases hh
theorem OwnB.alloc {B : Nat} {w : World} {v : Value} {l : List UInt8} (h : OwnB B w v l) (o : Obj) : OwnB B (w.alloc o) v l := h.below ((Below.refl _ _).alloc (Nat.le_refl _) o)
theorem OwnB.drew {B : Nat} {w : World} {v : Value} {l : List UInt8} (h : OwnB B w v l) : OwnB B w.drew v l := h
theorem OwnB.form {B : Nat} {w : World} {v : Value} {l : List UInt8} (h : OwnB B w v l) : (v = .slice none 0 0 ∧ l = []) ∨ ∃ g cap, v = .slice (some ⟨g, 0, none⟩) l.length cap ∧ B ≤ g ∧ g < w.heap.size ∧ bytesAt w ⟨g, 0, none⟩ l ∧ ∀ j, w.frozen? ⟨g, j, none⟩ = false := by
  obtain ⟨h1, ⟨hv, h0⟩ | ⟨g, cap, cur, hv, hg, hh, _, _, hcur, hx⟩⟩ := h
  · exact .inl ⟨hv, List.length_eq_zero_iff.1 h0⟩
  · refine .inr ⟨g, cap, hv, hg, ?_, fun j hj => ?_, fun j => ?_⟩
    · rcases Nat.lt_or_ge g w.heap.size with h' | h'
      · exact h'
      · rw [Array.getElem?_eq_none h'] at hh; cases hh
    · have e : (u8s l)[j]? = some (.int .u8 ((l[j]'hj).toNat : Int)) := by simp [u8s, hj]
      rw [← hx, Nat.mul_one, List.getElem?_take, if_pos hj, Array.getElem?_toList] at e
      rw [add_mk]
      simp only [World.cell?, hh, Nat.zero_add]
      exact e
    · simp [World.frozen?, hh]
theorem OwnB.str {B : Nat} {w : World} {v : Value} {l : List UInt8} (h : OwnB B w v l) : strOf w v = some l := by
  rcases h.form with ⟨rfl, rfl⟩ | ⟨g, cap, rfl, _, _, hb, _⟩
  · rfl
  · exact strOf_bytes hb cap
theorem bytesAt_new1 (w : World) (x : UInt8) (t : TypeId) : bytesAt (w.alloc (.cells #[.int .u8 (x.toNat : Int)] t)) ⟨w.heap.size, 0, none⟩ [x] := by
  intro j hj
  obtain rfl : j = 0 := by simpa using hj
  rw [add_mk, World.cell?_alloc_at _ _ _ _ rfl]
  rfl
theorem bytesAt_new3 (w : World) (x y z : UInt8) (t : TypeId) : bytesAt (w.alloc (.cells #[.int .u8 (x.toNat : Int), .int .u8 (y.toNat : Int), .int .u8 (z.toNat : Int)] t)) ⟨w.heap.size, 0, none⟩ [x, y, z] := by
  intro j hj
  rw [add_mk, World.cell?_alloc_at _ _ _ _ rfl]
  match j, hj with
  | 0, _ => rfl
  | 1, _ => rfl
  | 2, _ => rfl
theorem u8_info : ∃ i0, Tryz.prog.info? 5 = some i0 ∧ i0.zero = some (.int .u8 0) ∧ i0.size = 1 ∧ i0.bytes = 1 := by
  have h : (Tryz.prog.info? 5).map (fun i => (i.zero, i.size, i.bytes)) = some (some (.int .u8 0), 1, 1) := by kernel_rfl
  cases hi : Tryz.prog.info? 5 with
  | none => rw [hi] at h; cases h
  | some i0 =>
    rw [hi] at h
    simp only [Option.map_some, Option.some.injEq, Prod.mk.injEq] at h
    exact ⟨i0, rfl, h⟩
theorem wp_append_bytes {o : Oper} {a : Act} {K : Act → World → Prop} {Q : Exit → Act → World → Prop} (s x : Operand)
    (ho : o.op = .call { callee := .builtin .append, args := #[s, x], argTypes := #[72, 72] }) (B : Nat) (w : World) (v : Value) (l : List UInt8) (hs : a.eval s = v) (hown : OwnB B w v l)
    (b n c : Nat) (news : List UInt8) (hx : a.eval x = .slice (some ⟨b, 0, none⟩) n c) (hn : n = news.length) (hnew : bytesAt w ⟨b, 0, none⟩ news) (hlen : l.length + news.length ≤ 140737488355328) (hB : B ≤ w.heap.size)
    (h : ∀ v' w', OwnB B w' v' (l ++ news) → Below B w w' → K (a.put o.dst v') w') : Oper.wp Tryz.prog o a w K Q := by
  obtain ⟨i0, hi, hz, hsz, hby⟩ := u8_info
  subst hn
  refine wp_append_own w s x 72 ho B 5 i0 (.int .u8 0) 1 1 Tryz.underlying72 hi hz hsz hby rfl (by decide) v l.length (u8s l) hs hown ⟨b, 0, none⟩ news.length c (u8s news) hx (by simp [u8s]) (fun j u hu => ?_) (fun u hu => ?_) (by unfold maxLen; omega) (by omega) hB (fun v' w' h1 h2 _ => h v' w' ?_ ?_)
  · simp only [u8s, List.getElem?_map, Option.map_eq_some_iff] at hu
    obtain ⟨y, hy, rfl⟩ := hu
    obtain ⟨hj, rfl⟩ := List.getElem?_eq_some_iff.1 hy
    exact hnew j hj
  · simp only [u8s, List.mem_map] at hu
    obtain ⟨y, _, rfl⟩ := hu
    rfl
  · have e : u8s l ++ u8s news = u8s (l ++ news) := by simp [u8s]
    rw [e] at h1
    show w'.ownsRow B 5 1 v' (l ++ news).length (u8s (l ++ news))
    rwa [List.length_append]
  · exact (Below.refl B w).grown h2 hB (fun k hk => (hown.lt k hk).1)
/-- .. as one step of a region that draws its order. -/
theorem step_append_bytes {ops : Array Oper} {o : Oper} {a : Act} {K : Act → World → Prop} {Q : Exit → Act → World → Prop} {E : Prop} (hgd : o.guard = none) (s x : Operand)
    (ho : o.op = .call { callee := .builtin .append, args := #[s, x], argTypes := #[72, 72] }) (B : Nat) (w : World) (v : Value) (l : List UInt8) (hs : a.eval s = v) (hown : OwnB B w v l)
    (b n c : Nat) (news : List UInt8) (hx : a.eval x = .slice (some ⟨b, 0, none⟩) n c) (hn : n = news.length) (hnew : bytesAt w ⟨b, 0, none⟩ news) (hlen : l.length + news.length ≤ 140737488355328) (hB : B ≤ w.heap.size)
    (h : ∀ v' w', OwnB B w' v' (l ++ news) → Below B w w' → K (a.put o.dst v') w') : if Region.wanted o (yielded ops a.tmps) = true then Oper.wp Tryz.prog o a w K Q else E := by
  have hw : Region.wanted o (yielded ops a.tmps) = true := by simp [Region.wanted, hgd]
  rw [if_pos hw]
  exact wp_append_bytes s x ho B w v l hs hown b n c news hx hn hnew hlen hB h
/-- 'append(b, news...)' on bytes of one's own. -/
theorem wpList_append_bytes {ops : Array Oper} {rest : List Oper} {o : Oper} {a : Act} {Q : Exit → Act → World → Prop} (hgd : o.guard = none) (s x : Operand)
    (ho : o.op = .call { callee := .builtin .append, args := #[s, x], argTypes := #[72, 72] }) (B : Nat) (w : World) (v : Value) (l : List UInt8) (hs : a.eval s = v) (hown : OwnB B w v l)
    (b n c : Nat) (news : List UInt8) (hx : a.eval x = .slice (some ⟨b, 0, none⟩) n c) (hn : n = news.length) (hnew : bytesAt w ⟨b, 0, none⟩ news) (hlen : l.length + news.length ≤ 140737488355328) (hB : B ≤ w.heap.size)
    (h : ∀ v' w', OwnB B w' v' (l ++ news) → Below B w w' → wpList Tryz.prog ops Q rest (a.put o.dst v') w') : wpList Tryz.prog ops Q (o :: rest) a w := by
  exact wpList_plain hgd fun _ hK => wp_append_bytes s x ho B w v l hs hown b n c news hx hn hnew hlen hB fun v' w' h1 h2 => hK _ _ (h v' w' h1 h2)
end

section
open Go Go.RowKit

def hexCs : List UInt8 := [48, 49, 50, 51, 52, 53, 54, 55, 56, 57, 65, 66, 67, 68, 69, 70]
def hexU (n : Nat) : UInt8 := hexCs.getD n 0
def plainC (c : UInt8) : Bool := decide ((33 : Int) ≤ c.toNat) && (decide ((c.toNat : Int) ≤ 126) && !(c == 37))
def wordC (c : UInt8) : List UInt8 := if plainC c = true then [c] else [37, hexU (c.toNat / 16), hexU (c.toNat % 16)]
def wordBody (l : List UInt8) : List UInt8 := l.flatMap wordC
def wordL (l : List UInt8) : List UInt8 := if l = [] then [37] else wordBody l
theorem bytesAt.drew {w : World} {p : Addr} {l : List UInt8} (h : bytesAt w p l) : bytesAt w.drew p l := h
theorem wordBody_take (l : List UInt8) (k : Nat) (h : k < l.length) : wordBody (l.take (k + 1)) = wordBody (l.take k) ++ wordC (l[k]'h) := by
  rw [wordBody, List.take_succ_eq_append_getElem h, List.flatMap_append]
  simp [wordBody]
theorem hex_at (n : Nat) (h : ((n : Int)).toNat < hexCs.length) : hexCs[((n : Int)).toNat]'h = hexU n := by
  simp only [Int.toNat_natCast] at h ⊢
  rw [hexU, List.getD_eq_getElem?_getD, List.getElem?_eq_getElem h, Option.getD_some]
theorem low_nibble (c : UInt8) : bits .and .u8 (c.toNat : Int) 15 = (c.toNat : Int) % 16 := by
  have : ∀ i : Fin 256, bits .and .u8 (i.val : Int) 15 = (i.val : Int) % 16 := by decide +kernel
  exact this ⟨c.toNat, c.toNat_lt⟩
theorem wordC_length (c : UInt8) : (wordC c).length ≤ 3 := by unfold wordC; split <;> simp
theorem wordBody_length (l : List UInt8) : (wordBody l).length ≤ 3 * l.length := by
  induction l with
  | nil => simp [wordBody]
  | cons c l ih =>
    have : wordBody (c :: l) = wordC c ++ wordBody l := by simp [wordBody]
    rw [this, List.length_append, List.length_cons]
    have := wordC_length c
    omega

set_option maxRecDepth 20000 in
set_option maxHeartbeats 400000 in
theorem word_any (l : List UInt8) (hl : l.length ≤ 4294967280) (w : World) :
    Calls Tryz.prog 97 #[.string ⟨l.toArray⟩] w fun e w' => e = .returned (.string ⟨(wordL l).toArray⟩) ∧ Below w.heap.size w w' := by
  by_cases h0 : l = []
  · subst h0
    go_enter Tryz.func97, Tryz.ntmps97
    go_wp2
    go_ret
    exact ⟨rfl, (by repeat (first | exact Below.refl _ _ | assumption | refine below_grown ?_ (by first | omega | (simp [go_sem]; done) | (simp [go_sem] <;> omega)) _ | refine Below.alloc ?_ (by first | omega | (simp [go_sem]; done) | (simp [go_sem] <;> omega)) _ | refine below_bytesW ?_ (by first | omega | (simp [go_sem]; done) | (simp [go_sem] <;> omega)) _ | refine Below.drew ?_ | refine below_drewN ?_ _))⟩
  · have he : l.isEmpty = false := by cases l <;> simp_all
    have hw : wordL l = wordBody l := if_neg h0
    rw [hw]
    clear hw
    go_enter Tryz.func97, Tryz.ntmps97
    go_wp2
    go_loopw [3, 11] (fun out i wr => ∃ k : Nat, k ≤ l.length ∧ i = .int .i64 k ∧ Below (w.heap.size + 1) (bytesW w l) wr ∧ OwnB (w.heap.size + 1) wr out (wordBody (l.take k))) (fun _ i _ => l.length - (intOf i).toNat)
    case atStart => exact ⟨0, Nat.zero_le _, rfl, Below.refl _ _, OwnB.nil _ _⟩
    case round =>
      obtain ⟨k, hk, rfl, hb, ho⟩ := hrel
      by_cases hlt : k < l.length
      · have hcell : wr.cell? ⟨w.heap.size, k, none⟩ = some (.int .u8 ((l[k]'hlt).toNat : Int)) := by
          rw [hb.cell (p := ⟨w.heap.size, k, none⟩) (Nat.lt_succ_self _)]
          exact cell_bytesW w l k hlt
        have e := wordBody_take l k hlt
        have hlen := wordBody_length (l.take k)
        rw [List.length_take] at hlen
        have hsz := hb.size
        rw [bytesW_size] at hsz
        have HB := Lib.hid hb
        have HO := Lib.hid ho
        have HE := Lib.hid e
        clear hb ho e
        generalize l[k]'hlt = c at *
        generalize hA : wordBody (l.take k) = A at *
        clear hA
        cases hp : plainC c
        · have hcase : (c.toNat : Int) ≤ 32 ∨ ((33 : Int) ≤ c.toNat ∧ (127 : Int) ≤ c.toNat) ∨ ((33 : Int) ≤ c.toNat ∧ (c.toNat : Int) ≤ 126 ∧ ((c.toNat : Int) != 37) = false) := by
            rw [u8_lit_ne c 37 37 rfl]
            by_cases h1 : (33 : Int) ≤ c.toNat
            · by_cases h2 : (c.toNat : Int) ≤ 126
              · refine .inr (.inr ⟨h1, h2, ?_⟩)
                simp [plainC, h1, h2] at hp
                simp [hp]
              · exact .inr (.inl ⟨h1, by omega⟩)
            · exact .inl (by omega)
          have HH := Lib.hid hp
          clear hp
          have hq0 : (0 : Int) ≤ (c.toNat : Int) / 16 := by omega
          have hq1 : (c.toNat : Int) / 16 < 16 := by have := c.toNat_lt; omega
          have hqx : ∀ h, ([48, 49, 50, 51, 52, 53, 54, 55, 56, 57, 65, 66, 67, 68, 69, 70] : List UInt8)[((c.toNat : Int) / 16).toNat]'h = hexU (c.toNat / 16) := fun h => hex_at _ h
          have ha : bits .and .u8 (c.toNat : Int) 15 = (c.toNat : Int) % 16 := low_nibble c
          have hr0 : (0 : Int) ≤ (c.toNat : Int) % 16 := by omega
          have hr1 : (c.toNat : Int) % 16 < 16 := by omega
          have hrx : ∀ h, ([48, 49, 50, 51, 52, 53, 54, 55, 56, 57, 65, 66, 67, 68, 69, 70] : List UInt8)[((c.toNat : Int) % 16).toNat]'h = hexU (c.toNat % 16) := fun h => hex_at _ h
          rcases hcase with h1 | ⟨h1, h2⟩ | ⟨h1, h2, h3⟩
          all_goals
            go_wp2
            go_region_law (refine step_append_bytes rfl (.tmp 29) (.tmp 36) rfl (w.heap.size + 1) _ _ A rfl (HO.out.alloc _).drew _ _ _ [37, hexU (c.toNat / 16), hexU (c.toNat % 16)] rfl rfl (bytesAt_new3 _ _ _ _ _).drew (by first | omega | (simp; done) | (simp; omega) | (simp [go_sem]; done) | (simp [go_sem]; omega)) (by first | omega | (simp; done) | (simp; omega) | (simp [go_sem]; done) | (simp [go_sem]; omega)) ?_; intro v' w1 ho1 hb1; have HO1 := Lib.hid ho1; have HB1 := Lib.hid hb1; clear ho1 hb1)
            all_goals
              go_wp2
              go_roundw
              case rel => exact ⟨k + 1, by omega, by go_num, (below_drew (HB.out.alloc (by first | omega | (simp; done) | (simp; omega) | (simp [go_sem]; done) | (simp [go_sem]; omega)) _)).trans HB1.out, by rw [HE.out, wordC, if_neg (by rw [HH.out]; decide)]; exact HO1.out⟩
              case measure => simp [intOf]; omega
        · have h1 : (33 : Int) ≤ c.toNat := by simp [plainC] at hp; omega
          have h2 : (c.toNat : Int) ≤ 126 := by simp [plainC] at hp; omega
          have h3 : ((c.toNat : Int) != 37) = true := by
            rw [u8_lit_ne c 37 37 rfl]
            simp [plainC] at hp
            simp [hp.2.2]
          go_wp2_with (at_builtin; refine wpList_append_bytes rfl (.tmp 25) (.tmp 27) rfl (w.heap.size + 1) _ _ A rfl (HO.out.alloc _) _ _ _ [c] rfl rfl (bytesAt_new1 _ c _) (by first | omega | (simp; done) | (simp; omega) | (simp [go_sem]; done) | (simp [go_sem]; omega)) (by first | omega | (simp; done) | (simp; omega) | (simp [go_sem]; done) | (simp [go_sem]; omega)) ?_; intro v' w1 ho1 hb1; have HO1 := Lib.hid ho1; have HB1 := Lib.hid hb1; clear ho1 hb1)
          go_roundw
          case rel => exact ⟨k + 1, by omega, by go_num, (HB.out.alloc (by first | omega | (simp; done) | (simp; omega) | (simp [go_sem]; done) | (simp [go_sem]; omega)) _).trans HB1.out, by rw [HE.out, wordC, if_pos hp]; exact HO1.out⟩
          case measure => simp [intOf]; omega
      · obtain rfl : k = l.length := by omega
        rw [List.take_length] at ho
        have hs := ho.str
        have HB := Lib.hid hb
        rcases ho.form with ⟨rfl, e⟩ | ⟨g, cap, rfl, _⟩
        all_goals
          clear hb ho
          go_wp2
          go_ret
          first
            | exact ⟨rfl, (below_bytesW' w l).trans (HB.out.mono (Nat.le_succ _))⟩
            | exact ⟨ret_str e.symm, (below_bytesW' w l).trans (HB.out.mono (Nat.le_succ _))⟩
end

section
open Go Go.RowKit

theorem OwnB.made0 (B : Nat) (w : World) (h : B ≤ w.heap.size) : OwnB B (w.alloc (.cells #[] 5)) (.slice (some ⟨w.heap.size, 0, none⟩) 0 0) [] := by
  exact ⟨rfl, .inr ⟨w.heap.size, 0, #[], rfl, h, Array.getElem?_push_size, Nat.le_refl _, by decide, rfl, rfl⟩⟩
theorem wordBody_pos (l : List UInt8) (h : l ≠ []) : 0 < (wordBody l).length := by
  cases l with
  | nil => exact absurd rfl h
  | cons c l => 
    have : wordBody (c :: l) = wordC c ++ wordBody l := by simp [wordBody]
    rw [this, List.length_append]
    have : 0 < (wordC c).length := by unfold wordC; split <;> simp
    omega
theorem digit_any (n : Nat) (hn : n < 16) (w : World) :
    Calls Tryz.prog 86 #[.int .i64 (n : Int)] w fun e w' => e = .returned (.int .u8 ((hexU n).toNat : Int)) ∧ w = w' := by
  have h : n = 0 ∨ n = 1 ∨ n = 2 ∨ n = 3 ∨ n = 4 ∨ n = 5 ∨ n = 6 ∨ n = 7 ∨ n = 8 ∨ n = 9 ∨ n = 10 ∨ n = 11 ∨ n = 12 ∨ n = 13 ∨ n = 14 ∨ n = 15 := by omega
  rcases h with rfl | rfl | rfl | rfl | rfl | rfl | rfl | rfl | rfl | rfl | rfl | rfl | rfl | rfl | rfl | rfl
  all_goals
    go_enter Tryz.func86, Tryz.ntmps86
    go_wp2
    go_ret
    exact ⟨rfl, rfl⟩

theorem digit_of {x : Int} {n : Nat} (hx : x = (n : Int)) (hn : n < 16) (w : World) :
    Calls Tryz.prog 86 #[.int .i64 x] w fun e w' => e = .returned (.int .u8 ((hexU n).toNat : Int)) ∧ w = w' := hx ▸ digit_any n hn w
theorem wrap_quo (c : UInt8) : IntKind.i64.wrap ((IntKind.i64.wrap (c.toNat : Int)).tdiv 16) = ((c.toNat / 16 : Nat) : Int) := by
  have : ∀ i : Fin 256, IntKind.i64.wrap ((IntKind.i64.wrap (i.val : Int)).tdiv 16) = ((i.val / 16 : Nat) : Int) := by decide +kernel
  exact this ⟨c.toNat, c.toNat_lt⟩
theorem wrap_rem (c : UInt8) : (IntKind.i64.wrap (c.toNat : Int)).tmod 16 = ((c.toNat % 16 : Nat) : Int) := by
  have : ∀ i : Fin 256, (IntKind.i64.wrap (i.val : Int)).tmod 16 = ((i.val % 16 : Nat) : Int) := by decide +kernel
  exact this ⟨c.toNat, c.toNat_lt⟩
set_option maxRecDepth 20000 in
set_option maxHeartbeats 1000000 in
theorem refWord_any (l : List UInt8) (hl : l.length ≤ 4294967280) (w : World) :
    Calls Tryz.prog 64 #[.string ⟨l.toArray⟩] w fun e w' => e = .returned (.string ⟨(wordL l).toArray⟩) ∧ Below w.heap.size w w' := by
  generalize hW : wordL l = W
  go_enter Tryz.func64, Tryz.ntmps64
  go_wp2
  go_loopw [3, 4] (fun out i wr => ∃ k : Nat, k ≤ l.length ∧ i = .int .i64 k ∧ Below w.heap.size w wr ∧ OwnB w.heap.size wr out (wordBody (l.take k))) (fun _ i _ => l.length - (intOf i).toNat)
  case atStart => exact ⟨0, Nat.zero_le _, rfl, (by repeat (first | exact Below.refl _ _ | assumption | refine below_grown ?_ (by first | omega | (simp [go_sem]; done) | (simp [go_sem] <;> omega)) _ | refine Below.alloc ?_ (by first | omega | (simp [go_sem]; done) | (simp [go_sem] <;> omega)) _ | refine below_bytesW ?_ (by first | omega | (simp [go_sem]; done) | (simp [go_sem] <;> omega)) _ | refine Below.drew ?_ | refine below_drewN ?_ _)), OwnB.made0 _ _ (Nat.le_refl _)⟩
  case round =>
    obtain ⟨k, hk, rfl, hb, ho⟩ := hrel
    by_cases hlt : k < l.length
    · have e := wordBody_take l k hlt
      have hc' : ∀ h, l[k]'h = l[k]'hlt := fun _ => rfl
      have hlen := wordBody_length (l.take k)
      rw [List.length_take] at hlen
      have hsz := hb.size
      have HB := Lib.hid hb
      have HO := Lib.hid ho
      have HE := Lib.hid e
      clear hb ho e
      generalize l[k]'hlt = c at *
      generalize hA : wordBody (l.take k) = A at *
      clear hA
      cases hp : plainC c
      · have hcase : (c.toNat : Int) < 33 ∨ ((33 : Int) ≤ c.toNat ∧ (126 : Int) < c.toNat) ∨ ((33 : Int) ≤ c.toNat ∧ (c.toNat : Int) ≤ 126 ∧ ((c.toNat : Int) != 37) = false) := by
          rw [u8_lit_ne c 37 37 rfl]
          by_cases h1 : (33 : Int) ≤ c.toNat
          · by_cases h2 : (c.toNat : Int) ≤ 126
            · refine .inr (.inr ⟨h1, h2, ?_⟩)
              simp [plainC, h1, h2] at hp
              simp [hp]
            · exact .inr (.inl ⟨h1, by omega⟩)
          · exact .inl (by omega)
        have HH := Lib.hid hp
        clear hp
        obtain ⟨q, hqd⟩ : ∃ q : Nat, q = c.toNat / 16 := ⟨_, rfl⟩
        obtain ⟨r, hrd⟩ : ∃ r : Nat, r = c.toNat % 16 := ⟨_, rfl⟩
        have hq := wrap_quo c
        have hr := wrap_rem c
        have hq1 : c.toNat / 16 < 16 := by have := c.toNat_lt; omega
        have hr1 : c.toNat % 16 < 16 := by omega
        rw [← hqd] at hq hq1
        rw [← hrd] at hr hr1
        have HQ := Lib.hid hqd
        have HR := Lib.hid hrd
        clear hqd hrd
        rcases hcase with h1 | ⟨h1, h2⟩ | ⟨h1, h2, h3⟩
        all_goals
          go_wp2
          go_region_law (first | (refine step_append_bytes rfl (.tmp 34) (.tmp 47) rfl w.heap.size _ _ A rfl (HO.out.alloc _).drew _ _ _ [37, hexU q, hexU r] rfl rfl (bytesAt_new3 _ _ _ _ _).drew (by first | omega | (simp; done) | (simp; omega) | (simp [go_sem]; done) | (simp [go_sem]; omega)) (by first | omega | (simp; done) | (simp; omega) | (simp [go_sem]; done) | (simp [go_sem]; omega)) ?_; intro v' w1 ho1 hb1; have HO1 := Lib.hid ho1; have HB1 := Lib.hid hb1; clear ho1 hb1) | (go_simp; (first | with_reducible refine (digit_any q hq1 _).mono ?_ | with_reducible refine (digit_any r hr1 _).mono ?_); rintro e w1 ⟨rfl, rfl⟩; dsimp only))
          all_goals
            go_wp2
            go_roundw
            case rel => exact ⟨k + 1, by omega, by go_num, (below_drew (HB.out.alloc (by first | omega | (simp; done) | (simp; omega) | (simp [go_sem]; done) | (simp [go_sem]; omega)) _)).trans HB1.out, by rw [HE.out, wordC, if_neg (by rw [HH.out]; decide), ← HQ.out, ← HR.out]; exact HO1.out⟩
            case measure => simp [intOf]; omega
      · have h1 : (33 : Int) ≤ c.toNat := by simp [plainC] at hp; omega
        have h2 : (c.toNat : Int) ≤ 126 := by simp [plainC] at hp; omega
        have h3 : ((c.toNat : Int) != 37) = true := by
          rw [u8_lit_ne c 37 37 rfl]
          simp [plainC] at hp
          simp [hp.2.2]
        go_wp2_with (at_builtin; refine wpList_append_bytes rfl (.tmp 28) (.tmp 32) rfl w.heap.size _ _ A rfl (HO.out.alloc _) _ _ _ [c] rfl rfl (bytesAt_new1 _ c _) (by first | omega | (simp; done) | (simp; omega) | (simp [go_sem]; done) | (simp [go_sem]; omega)) (by first | omega | (simp; done) | (simp; omega) | (simp [go_sem]; done) | (simp [go_sem]; omega)) ?_; intro v' w1 ho1 hb1; have HO1 := Lib.hid ho1; have HB1 := Lib.hid hb1; clear ho1 hb1)
        go_roundw
        case rel => exact ⟨k + 1, by omega, by go_num, (HB.out.alloc (by first | omega | (simp; done) | (simp; omega) | (simp [go_sem]; done) | (simp [go_sem]; omega)) _).trans HB1.out, by rw [HE.out, wordC, if_pos hp]; exact HO1.out⟩
        case measure => simp [intOf]; omega
    · obtain rfl : k = l.length := by omega
      rw [List.take_length] at ho
      have hs := ho.str
      have HB := Lib.hid hb
      by_cases h0 : l = []
      · subst h0
        obtain rfl : W = [37] := hW.symm
        rcases ho.form with ⟨rfl, e⟩ | ⟨g, cap, rfl, _⟩
        all_goals
          clear hb ho
          go_wp2
          go_ret
          exact ⟨rfl, HB.out⟩
      · obtain rfl : W = wordBody l := hW.symm.trans (if_neg h0)
        have hne : 0 < (wordBody l).length := wordBody_pos l h0
        have hz : (((wordBody l).length : Int) == 0) = false := by rw [beq_eq_false_iff_ne]; omega
        rcases ho.form with ⟨rfl, e⟩ | ⟨g, cap, rfl, _⟩
        · rw [e] at hne; cases hne
        · clear hb ho
          generalize hA : wordBody l = A at *
          go_wp2
          go_ret
          exact ⟨ret_str (by first | exact hA.symm | rfl), HB.out⟩
end

section
open Go Go.RowKit

def halfI (c : UInt8) : Int := Lib.indexByte hexCs c % 256
theorem half_any (c : UInt8) (w : World) :
    Calls Tryz.prog 96 #[.int .u8 (c.toNat : Int)] w fun e w' => e = .returned (.int .u8 (halfI c)) ∧ w = w' := by
  go_enter Tryz.func96, Tryz.ntmps96
  go_wp2_with (go_at_call 114; refine (Tryz.strings_IndexByte ⟨hexCs.toArray⟩ _ _).mono ?_; intro e w1 h; obtain ⟨rfl, h2⟩ := h; subst w1)
  go_ret
  exact ⟨by simp [halfI], rfl⟩
theorem wordBody_cons (d : UInt8) (o : List UInt8) : wordBody (d :: o) = wordC d ++ wordBody o := by simp [wordBody]
theorem plainC_ne {d : UInt8} (h : plainC d = true) : d ≠ 37 := by
  rintro rfl
  revert h; decide
/-- What a word's beginning tells of the text's. -/
theorem word_head {d c : UInt8} {o r : List UInt8} (h : wordBody (d :: o) = c :: r) :
    (c = 37 ∧ ∃ r', r = hexU (d.toNat / 16) :: hexU (d.toNat % 16) :: r' ∧ wordBody o = r') ∨ (c ≠ 37 ∧ d = c ∧ wordBody o = r) := by
  rw [wordBody_cons, wordC] at h
  by_cases hp : plainC d = true
  · rw [if_pos hp] at h
    injection h with h1 h2
    exact .inr ⟨h1 ▸ plainC_ne hp, h1, h2⟩
  · rw [if_neg hp] at h
    injection h with h1 h2
    exact .inl ⟨h1.symm, _, h2.symm, rfl⟩
theorem hexU_inj : ∀ c d : UInt8, hexU (c.toNat / 16) = hexU (d.toNat / 16) → hexU (c.toNat % 16) = hexU (d.toNat % 16) → c = d := by
  have key : ∀ i j : Fin 16, hexU i.val = hexU j.val → i = j := by decide +kernel
  intro c d h1 h2
  have a := key ⟨c.toNat / 16, by have := c.toNat_lt; omega⟩ ⟨d.toNat / 16, by have := d.toNat_lt; omega⟩ h1
  have b := key ⟨c.toNat % 16, by omega⟩ ⟨d.toNat % 16, by omega⟩ h2
  simp only [Fin.mk.injEq] at a b
  exact UInt8.toNat_inj.1 (by omega)
theorem wordBody_inj : ∀ (a b : List UInt8), wordBody a = wordBody b → a = b
  | [], [], _ => rfl
  | [], d :: o, h => by
    have := wordBody_pos (d :: o) (by simp)
    rw [← h] at this; cases this
  | d :: o, [], h => by
    have := wordBody_pos (d :: o) (by simp)
    rw [h] at this; cases this
  | d :: o, c :: q, h => by
    rcases hw : wordBody (c :: q) with _ | ⟨x, r⟩
    · have := wordBody_pos (c :: q) (by simp)
      rw [hw] at this; cases this
    · rw [hw] at h
      rcases word_head h with ⟨h1, r1, e1, f1⟩ | ⟨h1, e1, f1⟩ <;> rcases word_head hw with ⟨h2, r2, e2, f2⟩ | ⟨h2, e2, f2⟩
      · rw [e1] at e2
        injection e2 with g1 g2
        injection g2 with g2 g3
        rw [hexU_inj _ _ g1 g2, wordBody_inj o q (by rw [f1, f2, g3])]
      · exact absurd h1 h2
      · exact absurd h2 h1
      · rw [e1, e2, wordBody_inj o q (by rw [f1, f2])]
theorem wordL_inj (a b : List UInt8) (h : wordL a = wordL b) : a = b := by
  have key : ∀ o, o ≠ [] → wordBody o ≠ [37] := by
    intro o ho e
    cases o with
    | nil => exact ho rfl
    | cons d o =>
      rcases word_head e with ⟨_, r, e1, _⟩ | ⟨h1, _⟩
      · cases e1
      · exact h1 rfl
  unfold wordL at h
  by_cases ha : a = [] <;> by_cases hb : b = []
  · rw [ha, hb]
  · rw [if_pos ha, if_neg hb] at h; exact absurd h.symm (key b hb)
  · rw [if_neg ha, if_pos hb] at h; exact absurd h (key a ha)
  · rw [if_neg ha, if_neg hb] at h; exact wordBody_inj a b h
/-- What both answers come to: the text whose word this is, if there is one. -/
def Unworded (s t : List UInt8) (ok : Bool) : Prop := (ok = true ∧ wordL t = s) ∨ (ok = false ∧ t = [] ∧ ∀ o, wordL o ≠ s)
theorem Unworded.one {s t t' : List UInt8} {ok ok' : Bool} (h : Unworded s t ok) (h' : Unworded s t' ok') : t = t' ∧ ok = ok' := by
  rcases h with ⟨rfl, e⟩ | ⟨rfl, rfl, n⟩ <;> rcases h' with ⟨rfl, e'⟩ | ⟨rfl, rfl, n'⟩
  · exact ⟨wordL_inj _ _ (e.trans e'.symm), rfl⟩
  · exact absurd e (n' _)
  · exact absurd e' (n _)
  · exact ⟨rfl, rfl⟩
def UnwordPost (l : List UInt8) (w : World) (e : Ending) (w' : World) : Prop := ∃ t ok, Unworded l t ok ∧ e = .returned (.tuple #[.string ⟨t.toArray⟩, .bool ok]) ∧ Below w.heap.size w w'
theorem word_last : ∀ o : List UInt8, (wordBody o).getLast? ≠ some 37
  | [] => by simp [wordBody]
  | d :: o => by
    rw [wordBody_cons, List.getLast?_append]
    have ih := word_last o
    cases hl : (wordBody o).getLast? with
    | some x => rw [hl] at ih; simpa using ih
    | none =>
      have key : ∀ i : Fin 16, hexU i.val ≠ 37 := by decide +kernel
      rw [wordC]
      by_cases hp : plainC d = true
      · rw [if_pos hp]
        simpa using plainC_ne hp
      · rw [if_neg hp]
        simpa using key ⟨d.toNat % 16, by omega⟩
theorem trim_word (o : List UInt8) : Lib.trimSuffix (wordBody o) [37] = wordBody o := by
  unfold Lib.trimSuffix Lib.hasSuffix
  refine if_neg fun h => ?_
  obtain ⟨t, ht⟩ := List.isSuffixOf_iff_suffix.1 h
  have := word_last o
  rw [← ht] at this
  simp at this
/-- What is left to read, and what was read of it. -/
theorem unword_start (s o : List UInt8) (h : wordL o = s) : wordBody o = Lib.trimSuffix s [37] := by
  subst h
  unfold wordL
  by_cases h0 : o = []
  · subst h0; rfl
  · rw [if_neg h0, trim_word]
theorem bytesAt_new1e (w : World) (x : UInt8) (t : TypeId) {b : Nat} (hb : b = w.heap.size) : bytesAt (w.alloc (.cells #[.int .u8 (x.toNat : Int)] t)) ⟨b, 0, none⟩ [x] := by
  subst hb; exact bytesAt_new1 w x t
/-- What the four bits and the four bits make. -/
def combI (x y : UInt8) : Int := bits .or .u8 (IntKind.u8.wrap (halfI x * 16)) (bits .and .u8 (halfI y) 15)
def halves : List Int := [0, 1, 2, 3, 4, 5, 6, 7, 8, 9, 10, 11, 12, 13, 14, 15, 255]
theorem half_mem (c : UInt8) : halfI c ∈ halves := by
  have key : ∀ i : Fin 256, halfI (UInt8.ofNat i.val) ∈ halves := by decide +kernel
  have := key ⟨c.toNat, c.toNat_lt⟩
  simpa using this
theorem comb_u8 (x y : UInt8) : ∃ d : UInt8, (d.toNat : Int) = combI x y := by
  have key : ∀ i ∈ halves, ∀ j ∈ halves, 0 ≤ bits .or .u8 (IntKind.u8.wrap (i * 16)) (bits .and .u8 j 15) ∧ bits .or .u8 (IntKind.u8.wrap (i * 16)) (bits .and .u8 j 15) < 256 := by decide +kernel
  obtain ⟨h1, h2⟩ := key _ (half_mem x) _ (half_mem y)
  refine ⟨UInt8.ofNat (combI x y).toNat, ?_⟩
  unfold combI
  rw [UInt8.toNat_ofNat']
  omega
theorem comb_hex (d : UInt8) : (d.toNat : Int) = combI (hexU (d.toNat / 16)) (hexU (d.toNat % 16)) := by
  have key : ∀ i : Fin 256, (i.val : Int) = combI (hexU (i.val / 16)) (hexU (i.val % 16)) := by decide +kernel
  exact key ⟨d.toNat, d.toNat_lt⟩
theorem trimSuffix_length (l p : List UInt8) : (Lib.trimSuffix l p).length ≤ l.length := by
  unfold Lib.trimSuffix
  split
  · rw [List.length_take]; omega
  · exact Nat.le_refl _
set_option maxRecDepth 20000 in
set_option maxHeartbeats 400000 in
theorem unword_any (l : List UInt8) (hl : l.length ≤ 1400000000) (w : World) :
    Calls Tryz.prog 79 #[.string ⟨l.toArray⟩] w (UnwordPost l w) := by
  go_enter Tryz.func79, Tryz.ntmps79
  go_wp2_with (go_at_call 30; refine (Tryz.strings_TrimSuffix ⟨l.toArray⟩ ⟨[37].toArray⟩ _ (by simp [ByteArray.size]; omega)).mono ?_; intro e w1 h; obtain ⟨rfl, h2⟩ := h; subst w1)
  go_loopw [4, 5] (fun out rest wr => ∃ A R : List UInt8, rest = .string ⟨R.toArray⟩ ∧ A.length + R.length ≤ l.length ∧ Below w.heap.size w wr ∧ OwnB w.heap.size wr out A ∧ ∀ o, wordL o = l → ∃ o', o = A ++ o' ∧ wordBody o' = R) (fun _ rest _ => strLen rest)
  case atStart => exact ⟨[], _, rfl, by simpa using trimSuffix_length l [37], Below.refl _ _, OwnB.nil _ _, fun o h => ⟨o, rfl, unword_start l o h⟩⟩
  case round =>
    obtain ⟨A, R, rfl, hlen, hb, ho, hw⟩ := hrel
    have hsz := hb.size
    have HB := Lib.hid hb
    have HO := Lib.hid ho
    have HW := Lib.hid hw
    clear hb ho hw
    by_cases h0 : R = []
    · subst h0
      have hs := HO.out.str
      have hWA := word_any A (by simp at hlen; omega) wr
      have hend : (wordL A == l) = false → ∀ o, wordL o ≠ l := fun hn o h => by
        obtain ⟨o', rfl, h2⟩ := HW.out o h
        have : o' = [] := by
          cases o' with
          | nil => rfl
          | cons d q => have := wordBody_pos (d :: q) (by simp); rw [h2] at this; cases this
        subst this
        rw [List.append_nil] at h
        simp [h] at hn
      have HEND := Lib.hid hend
      clear hend
      have HEQ := Lib.hid (show (wordL A == l) = true → wordL A = l from fun h => by simpa using h)
      cases hq : (wordL A == l)
      all_goals
        rcases HO.out.form with ⟨rfl, e⟩ | ⟨g, cap, rfl, _⟩
        all_goals
          try subst e
          go_wp2_with (go_at_call 97; refine hWA.mono ?_; rintro e w1 ⟨rfl, hb1⟩; have hs2 := (HO.out.below hb1).str; obtain ⟨p1, rfl⟩ := grown_of hb1; clear hb1)
          go_ret2
          first
            | exact ⟨[], false, .inr ⟨rfl, rfl, HEND.out hq⟩, rfl, below_grown HB.out HB.out.size _⟩
            | exact ⟨[], true, .inl ⟨rfl, HEQ.out hq⟩, rfl, below_grown HB.out HB.out.size _⟩
            | exact ⟨A, true, .inl ⟨rfl, HEQ.out hq⟩, rfl, below_grown HB.out HB.out.size _⟩
    · obtain ⟨c, r, hR⟩ : ∃ c r, R = c :: r := by cases R with
        | nil => exact absurd rfl h0
        | cons c r => exact ⟨c, r, rfl⟩
      have hlen0 : 0 < R.length := by rw [hR]; simp
      have hem : R.isEmpty = false := by rw [hR]; rfl
      have hem2 : (R == []) = false := by rw [hR]; rfl
      have hR0 : ∀ h, R[0]'h = c := fun h => by subst hR; rfl
      have HR := Lib.hid hR
      clear hR h0
      by_cases hc : c = 37
      · by_cases h3 : R.length < 3
        · have hno : ∀ o, wordL o ≠ l := fun o h => by
            obtain ⟨o', rfl, h2⟩ := HW.out o h
            rw [HR.out] at h2 h3
            cases o' with
            | nil => cases h2
            | cons d q =>
              rcases word_head h2 with ⟨_, r', e1, _⟩ | ⟨h1, _⟩
              · rw [e1] at h3; simp at h3; omega
              · exact h1 hc
          have HNO := Lib.hid hno
          have hc' : ((c.toNat : Int) == 37) = true := by rw [u8_lit c 37 37 rfl]; simpa using hc
          clear hno hc
          go_wp2
          go_ret2
          exact ⟨[], false, .inr ⟨rfl, rfl, HNO.out⟩, rfl, HB.out⟩
        · obtain ⟨x, hR1⟩ : ∃ x, ∀ h, R[1]'h = x := ⟨R[1]'(by omega), fun _ => rfl⟩
          obtain ⟨y, hR2⟩ : ∃ x, ∀ h, R[2]'h = x := ⟨R[2]'(by omega), fun _ => rfl⟩
          have hR3 : R = c :: x :: y :: R.drop 3 := by
            rw [← hR0 (by omega), ← hR1 (by omega), ← hR2 (by omega), ← List.drop_eq_getElem_cons, ← List.drop_eq_getElem_cons, ← List.drop_eq_getElem_cons, List.drop_zero]
          obtain ⟨d, hd⟩ := comb_u8 x y
          have hnew : ∀ o, wordL o = l → ∃ o', o = (A ++ [d]) ++ o' ∧ wordBody o' = R.drop 3 := fun o h => by
            obtain ⟨o', rfl, h2⟩ := HW.out o h
            rw [hR3] at h2
            cases o' with
            | nil => cases h2
            | cons d' q =>
              rcases word_head h2 with ⟨_, r', e1, e2⟩ | ⟨h1, _⟩
              · injection e1 with e3 e1
                injection e1 with e4 e1
                obtain rfl : d = d' := by rw [← UInt8.toNat_inj, ← Int.ofNat_inj, hd, e3, e4]; exact (comb_hex d').symm
                exact ⟨q, by simp, by rw [e2, ← e1]⟩
              · exact absurd hc h1
          have HNEW := Lib.hid hnew
          have HD := Lib.hid hd
          have hc' : ((c.toNat : Int) == 37) = true := by rw [u8_lit c 37 37 rfl]; simpa using hc
          have hi1 : (1 : Int) < R.length := by omega
          have hi2 : (2 : Int) < R.length := by omega
          have hi3 : 1 < R.length := by omega
          have hi4 : 2 < R.length := by omega
          clear hnew hd hR3 hc
          go_wp2
          refine wp_region_quiet_grown (by kernel_rfl) (by kernel_rfl) ?_
          repeat (quiet_step ((go_at_call 96; exact quiet_still (half_any _ _))))
          refine wpQuiet_nil ?_; intro _ hw'; obtain ⟨pq, hw''⟩ := hw'; subst hw''
          rw [show bits .or .u8 (IntKind.u8.wrap (halfI x * 16)) (bits .and .u8 (halfI y) 15) = (d.toNat : Int) from HD.out.symm]
          go_wp2_with (at_builtin; refine wpList_append_bytes rfl (.tmp 28) (.tmp 30) rfl w.heap.size _ _ A rfl ((HO.out.below (below_grown' _ _)).alloc _) _ _ _ [d] rfl rfl (bytesAt_new1e _ d _ (by simp [go_sem])) (by first | omega | (simp; done) | (simp; omega) | (simp [go_sem]; done) | (simp [go_sem]; omega)) (by first | omega | (simp; done) | (simp; omega) | (simp [go_sem]; done) | (simp [go_sem]; omega)) ?_; intro v' w1 ho1 hb1; have HO1 := Lib.hid ho1; have HB1 := Lib.hid hb1; clear ho1 hb1)
          go_roundw
          case rel => exact ⟨A ++ [d], R.drop 3, by simp, by simp; omega, ((below_grown HB.out HB.out.size _).alloc (by first | omega | (simp; done) | (simp; omega) | (simp [go_sem]; done) | (simp [go_sem]; omega)) _).trans HB1.out, HO1.out, HNEW.out⟩
          case measure => simp [strLen]; omega
      · have h1 : ((c.toNat : Int) == 37) = false := by
          rw [u8_lit c 37 37 rfl]; simpa using hc
        have hnew : ∀ o, wordL o = l → ∃ o', o = (A ++ [c]) ++ o' ∧ wordBody o' = R.drop 1 := fun o h => by
          obtain ⟨o', rfl, h2⟩ := HW.out o h
          rw [HR.out] at h2 ⊢
          cases o' with
          | nil => cases h2
          | cons d q =>
            rcases word_head h2 with ⟨h3, _⟩ | ⟨_, rfl, e2⟩
            · exact absurd h3 hc
            · exact ⟨q, by simp, e2⟩
        have HNEW := Lib.hid hnew
        clear hnew hc
        go_wp2_with (at_builtin; refine wpList_append_bytes rfl (.tmp 28) (.tmp 30) rfl w.heap.size _ _ A rfl (HO.out.alloc _) _ _ _ [c] rfl rfl (bytesAt_new1 _ c _) (by first | omega | (simp; done) | (simp; omega) | (simp [go_sem]; done) | (simp [go_sem]; omega)) (by first | omega | (simp; done) | (simp; omega) | (simp [go_sem]; done) | (simp [go_sem]; omega)) ?_; intro v' w1 ho1 hb1; have HO1 := Lib.hid ho1; have HB1 := Lib.hid hb1; clear ho1 hb1)
        go_roundw
        case rel => exact ⟨A ++ [c], R.drop 1, by simp, by simp; omega, (HB.out.alloc (by first | omega | (simp; done) | (simp; omega) | (simp [go_sem]; done) | (simp [go_sem]; omega)) _).trans HB1.out, HO1.out, HNEW.out⟩
        case measure => simp [strLen]; omega
end

section
open Go Go.RowKit
set_option linter.unusedSimpArgs false
set_option linter.unusedVariables false

theorem wordC_vis (c x : UInt8) (h : x ∈ wordC c) : (33 : Int) ≤ x.toNat ∧ (x.toNat : Int) ≤ 126 := by
  have key : ∀ i : Fin 16, (33 : Int) ≤ (hexU i.val).toNat ∧ ((hexU i.val).toNat : Int) ≤ 126 := by decide +kernel
  rw [wordC] at h
  by_cases hp : plainC c = true
  · rw [if_pos hp, List.mem_singleton] at h
    subst h
    simp [plainC] at hp
    exact ⟨by omega, by omega⟩
  · rw [if_neg hp] at h
    simp only [List.mem_cons, List.not_mem_nil, or_false] at h
    rcases h with rfl | rfl | rfl
    · decide
    · exact key ⟨c.toNat / 16, by have := c.toNat_lt; omega⟩
    · exact key ⟨c.toNat % 16, by omega⟩
theorem word_vis (l : List UInt8) (x : UInt8) (h : x ∈ wordL l) : (33 : Int) ≤ x.toNat ∧ (x.toNat : Int) ≤ 126 := by
  unfold wordL at h
  by_cases h0 : l = []
  · rw [if_pos h0, List.mem_singleton] at h
    subst h; decide
  · rw [if_neg h0] at h
    simp only [wordBody, List.mem_flatMap] at h
    obtain ⟨c, _, hc⟩ := h
    exact wordC_vis c x hc
theorem wordL_le (l : List UInt8) : (wordL l).length ≤ 3 * l.length + 1 := by
  unfold wordL
  have := wordBody_length l
  split
  · simp
  · omega
theorem wordL_pos (l : List UInt8) : 0 < (wordL l).length := by
  unfold wordL
  by_cases h0 : l = []
  · rw [if_pos h0]; decide
  · rw [if_neg h0]; exact wordBody_pos l h0
theorem lowC_lowC (c : UInt8) : lowC (lowC c) = lowC c := by
  have key : ∀ i : Fin 256, lowC (lowC (UInt8.ofNat i.val)) = lowC (UInt8.ofNat i.val) := by decide +kernel
  have := key ⟨c.toNat, c.toNat_lt⟩
  simpa using this
theorem lowerL_lowerL (l : List UInt8) : lowerL (lowerL l) = lowerL l := by
  simp [lowerL, lowC_lowC]
theorem lowerL_length (l : List UInt8) : (lowerL l).length = l.length := by simp [lowerL]
theorem joinL_snoc (c : UInt8) : ∀ (P : List (List UInt8)) (x : List UInt8), P ≠ [] → joinL c (P ++ [x]) = joinL c P ++ [c] ++ x
  | [], x, h => absurd rfl h
  | [p], x, _ => by simp [joinL]
  | p :: q :: P, x, _ => by
    have ih := joinL_snoc c (q :: P) x (by simp)
    show p ++ c :: joinL c ((q :: P) ++ [x]) = p ++ c :: joinL c (q :: P) ++ [c] ++ x
    rw [ih]; simp
theorem joinL_take (c : UInt8) (L : List (List UInt8)) (k : Nat) (hk : k < L.length) (h0 : 0 < k) : joinL c (L.take (k + 1)) = joinL c (L.take k) ++ [c] ++ L[k]'hk := by
  rw [List.take_succ_eq_append_getElem hk, joinL_snoc]
  intro h
  have := congrArg List.length h
  rw [List.length_take, List.length_nil] at this
  omega
theorem joinL_one (c : UInt8) (L : List (List UInt8)) (hk : 0 < L.length) : joinL c (L.take 1) = L[0]'hk := by
  cases L with
  | nil => simp at hk
  | cons x L => rfl
theorem joinL_le (c : UInt8) : ∀ (L : List (List UInt8)) (n : Nat), (∀ p ∈ L, p.length ≤ n) → (joinL c L).length ≤ L.length * (n + 1)
  | [], n, _ => by simp [joinL]
  | [p], n, h => by have := h p (by simp); simp [joinL]; omega
  | p :: q :: L, n, h => by
    have ih := joinL_le c (q :: L) n (fun x hx => h x (by simp only [List.mem_cons] at hx ⊢; exact .inr hx))
    have := h p (by simp)
    rw [joinL, List.length_append, List.length_cons, List.length_cons, Nat.succ_mul]
    omega

theorem splitL_two (x y : List UInt8) (hx : (32 : UInt8) ∉ x) (hy : (32 : UInt8) ∉ y) : splitL 32 (x ++ [32] ++ y) = [x, y] := by
  rw [List.append_assoc, List.singleton_append, splitL_append 32 x y hx, splitL_none 32 y hy]
theorem word_no32 (l : List UInt8) : (32 : UInt8) ∉ wordL l := fun h => by
  have := (word_vis l 32 h).1
  revert this; decide
theorem words_two (a b : List UInt8) : wordsOk (wordL a ++ [32] ++ wordL b) = true ∧ wordsL (wordL a ++ [32] ++ wordL b) = [wordL a, wordL b] := by
  have e := splitL_two _ _ (word_no32 a) (word_no32 b)
  have ha := wordL_pos a
  have hb := wordL_pos b
  have hok : wordsOk (wordL a ++ [32] ++ wordL b) = true := by
    rw [wordsOk, e]
    cases h1 : wordL a with
    | nil => rw [h1] at ha; cases ha
    | cons _ _ => cases h2 : wordL b with
      | nil => rw [h2] at hb; cases hb
      | cons _ _ => rfl
  exact ⟨hok, by rw [wordsL, if_pos hok, e]⟩
end
end Go.Proofs.YtnkckejbkbbdlaaGreatDoor
