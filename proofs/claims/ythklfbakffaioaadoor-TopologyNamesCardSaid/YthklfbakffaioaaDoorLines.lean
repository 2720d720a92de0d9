/- The walk of Lines: a text's lines, without the line ends. -/
import Derived.Test.YthklfbakffaioaaDoorSplit
import Derived.Test.YthklfbakffaioaaDoorCod
namespace Go.Proofs.YthklfbakffaioaaDoor
open Go Go.RowKit

def dropEmpty (L : List (List UInt8)) : List (List UInt8) := if L.getLast? = some [] then L.dropLast else L
def cutCR (l : List UInt8) : List UInt8 := Lib.trimSuffix l [13]
def linesL (l : List UInt8) : List (List UInt8) := (dropEmpty (splitL 10 l)).map cutCR
def crTo (L : List (List UInt8)) (k : Nat) : List (List UInt8) := (L.take k).map cutCR ++ L.drop k
theorem crTo_length (L : List (List UInt8)) (k : Nat) : (crTo L k).length = L.length := by simp [crTo]; omega
theorem crTo_at (l : List (List UInt8)) (k : Nat) (hk : k ≤ l.length) (j : Nat) : (crTo l k)[j]? = if j < k then (l[j]?).map cutCR else l[j]? := by
  rw [crTo, List.getElem?_append, List.length_map, List.length_take, Nat.min_eq_left hk]
  split
  · rw [List.getElem?_map, List.getElem?_take, if_pos (by assumption)]
  · rw [List.getElem?_drop]
    congr 1
    omega
theorem crTo_get (l : List (List UInt8)) (k : Nat) (h : k < l.length) (h' : k < (crTo l k).length) : (crTo l k)[k]'h' = l[k]'h := by
  have := crTo_at l k (by omega) k
  rw [if_neg (by omega), List.getElem?_eq_getElem h', List.getElem?_eq_getElem h] at this
  exact Option.some.inj this
theorem crTo_succ (l : List (List UInt8)) (k : Nat) (h : k < l.length) : crTo l (k + 1) = (crTo l k).set k (cutCR (l[k]'h)) := by
  apply List.ext_getElem?
  intro j
  rw [crTo_at l (k + 1) (by omega), List.getElem?_set, crTo_length, crTo_at l k (by omega)]
  by_cases e : k = j
  · subst e
    rw [if_pos (by omega), if_pos rfl, if_pos h, List.getElem?_eq_getElem h]
    rfl
  · rw [if_neg e]
    by_cases hj : j < k
    · rw [if_pos (by omega), if_pos hj]
    · rw [if_neg (by omega), if_neg hj]
theorem crTo_zero (l : List (List UInt8)) : crTo l 0 = l := by simp [crTo]
theorem crTo_all (l : List (List UInt8)) : crTo l l.length = l.map cutCR := by simp [crTo]

/-- Texts in a row of cells. -/
def strsAt (w : World) (b : Nat) (L : List (List UInt8)) : Prop := ∀ j (h : j < L.length), w.cell? ⟨b, j, none⟩ = some (.string ⟨(L[j]'h).toArray⟩)
theorem strsAt_set {w : World} {b : Nat} {L : List (List UInt8)} (h : strsAt w b L) (k : Nat) (hk : k < L.length) (x : List UInt8) : strsAt (w.setCell ⟨b, k, none⟩ (.string ⟨x.toArray⟩)) b (L.set k x) := by
  intro j hj
  have hj' : j < L.length := by simpa using hj
  by_cases e : j = k
  · subst e
    rw [World.cell?_setCell_same _ _ _ (h j hj')]
    simp
  · rw [World.cell?_setCell_other _ _ _ _ (by intro e'; apply e; have := congrArg Addr.off e'; simp at this; omega), h j hj']
    rw [List.getElem_set_ne (by omega)]
theorem strsIn_owns {w : World} {base : Nat} {v : Value} {n : Nat} {L : List (List UInt8)} {t : TypeId} (hn : n = L.length) (h : w.ownsRow base t 1 v n (strsL L)) : ∃ a c, v = .slice a L.length c ∧ L.length ≤ c ∧ ListIn strCod w a L base := by
  subst hn
  obtain ⟨_, ⟨hv, h0⟩ | ⟨g, cap, cur, hv, hg, hh, hcap, hmax, hcur, hx⟩⟩ := h
  · exact ⟨none, 0, by rw [hv, h0], by omega, .inl (List.length_eq_zero_iff.1 h0)⟩
  · refine ⟨some ⟨g, 0, none⟩, cap, hv, hcap, .inr ⟨g, 0, rfl, hg, ?_, strAt_of fun j hj => ?_⟩⟩
    · rcases Nat.lt_or_ge g w.heap.size with h' | h'
      · exact h'
      · rw [Array.getElem?_eq_none h'] at hh; cases hh
    · have e : (strsL L)[j]? = some (.string ⟨(L[j]'hj).toArray⟩) := by simp [strsL, hj]
      rw [← hx, Nat.mul_one, List.getElem?_take, if_pos hj, Array.getElem?_toList] at e
      simp only [World.cell?, hh, Nat.zero_add]
      exact e

/-- What stands behind the loop: the copy that is handed out. -/
theorem lines_clone (m : List (List UInt8)) (hm : m.length ≤ 4294967290) (b n c : Nat) (hn : n = m.length) (wr : World) (h : strsAt wr b m) :
    Calls Tryd.prog 18 #[.slice (some ⟨b, 0, none⟩) n c] wr (Gives strCod m wr) := by
  subst hn
  by_cases h0 : m.length = 0
  · rw [h0]
    refine (Tryd.slices_Clone_string_zero ⟨b, 0, none⟩ c wr).mono fun e w' ⟨v, he, ho, _, hb⟩ => ?_
    obtain rfl : m = [] := List.length_eq_zero_iff.1 h0
    obtain ⟨a, c', hv, hc, hs⟩ := strsIn_owns (L := []) rfl ho
    exact ⟨a, c', by rw [he, hv], hc, hb, hs⟩
  · refine (Tryd.slices_Clone_string b 0 m.length c (m.map fun l => ByteArray.mk l.toArray) wr (by simp) (by omega) (fun j hj => ?_)).mono fun e w' ⟨v, he, ho, _, hb⟩ => ?_
    · have hj' : j < m.length := by simpa using hj
      rw [Nat.zero_add, h j hj']
      simp [List.getD, hj']
    · have e2 : ((m.map fun l => ByteArray.mk l.toArray).take m.length).map Value.string = strsL m := by
        rw [List.take_of_length_le (by simp), List.map_map]
        rfl
      rw [e2] at ho
      obtain ⟨a, c', hv, hc, hs⟩ := strsIn_owns rfl ho
      exact ⟨a, c', by rw [he, hv], hc, hb, hs⟩
theorem strsV_at (L : List (List UInt8)) (i : Nat) (p : List UInt8) (h : L[i]? = some p) : (strsV L)[i]? = some (.string ⟨p.toArray⟩) := by
  simp [strsV, strsL, h]
theorem last_split (c : UInt8) (l : List UInt8) : ∃ p, (splitL c l).getLast? = some p ∧ (splitL c l)[(splitL c l).length - 1]? = some p := by
  have h := splitL_pos c l
  exact ⟨_, by rw [List.getLast?_eq_getElem?, List.getElem?_eq_getElem], List.getElem?_eq_getElem (by omega)⟩

set_option maxHeartbeats 400000 in
theorem lines_any (l : List UInt8) (hl : l.length ≤ 4294967280) (m : Int) (w : World) (hm : HasMax m w) :
    Calls Tryd.prog 9 #[.string ⟨l.toArray⟩] w (Gives strCod (linesL l) w) := by
  have hn := splitL_length_le 10 l
  have hp := splitL_pos 10 l
  have hpl : ∀ p ∈ splitL 10 l, p.length ≤ l.length := splitL_piece_le 10 l
  obtain ⟨p, hlast, hpe⟩ := last_split 10 l
  have h10 : ((10 : UInt8).toNat : Int) = 10 := rfl
  have hs := split_any l 10 hl m w hm
  rw [h10] at hs
  unfold linesL
  generalize splitL 10 l = L at *
  have hget := strsV_at L _ p hpe
  have HS := Lib.hid hs
  have HP := Lib.hid hpl
  have HL := Lib.hid hlast
  clear hs h10 hm hpl hlast hpe
  cases hemp : p.isEmpty
  · have hd : dropEmpty L = L := by
      rw [dropEmpty, HL.out, if_neg]
      intro e; rw [Option.some.inj e] at hemp; cases hemp
    rw [hd]
    clear hd
    have HIN : Hid (∀ p, p ∈ L → p ∈ L) := fun p h => h
    have H0 : Hid (strsAt ((w.alloc (.cells #[.int .u8 10] 5)).alloc (.cells (strsV L) 9)) (w.heap.size + 1) L) := fun j hj => by
      rw [World.cell?_alloc_at _ _ _ _ (by simp), strsV_get L j hj]
    go_enter Tryd.func9, Tryd.ntmps9
    go_wp2_with (first | (go_at_call 16; refine (HS.out).mono ?_; rintro e w' ⟨rfl, rfl⟩))
    go_loopw [21] (fun i wr => ∃ k : Nat, k ≤ L.length ∧ i = .int .i64 k ∧ Below w.heap.size w wr ∧ isOld (w.heap.size + 1) wr = true ∧ strsAt wr (w.heap.size + 1) (crTo L k) ∧ (∀ j, j < L.length → wr.frozen? ⟨w.heap.size + 1, j, none⟩ = false)) (fun i _ => L.length - (intOf i).toNat)
    case atStart => exact ⟨0, Nat.zero_le _, rfl, (by repeat (first | exact Below.refl _ _ | assumption | refine below_grown ?_ (by first | omega | (simp [go_sem]; done) | (simp [go_sem] <;> omega)) _ | refine Below.alloc ?_ (by first | omega | (simp [go_sem]; done) | (simp [go_sem] <;> omega)) _ | refine below_bytesW ?_ (by first | omega | (simp [go_sem]; done) | (simp [go_sem] <;> omega)) _ | refine Below.drew ?_ | refine below_drewN ?_ _)), by simp [go_sem], by rw [crTo_zero]; exact H0.out, fun j _ => by simp [go_sem]⟩
    case round =>
      obtain ⟨k, hk, rfl, hb, hob, hby, hfr⟩ := hrel
      by_cases hlt : k < L.length
      · have hM : k < (L).length := hlt
        have hcell : wr.cell? ⟨w.heap.size + 1, k, none⟩ = some (.string ⟨((L)[k]'hM).toArray⟩) := by
          have := hby k (by rw [crTo_length]; exact hM)
          rwa [crTo_get _ k hM] at this
        have hz := hfr k hlt
        have hxl : ((L)[k]'hM).length ≤ l.length := HP.out _ (HIN.out _ (List.getElem_mem hM))
        have HB := Lib.hid hby
        have HF := Lib.hid hfr
        have HS2 := Lib.hid (crTo_succ _ k hM)
        clear hby hfr
        generalize (L)[k]'hM = x at *
        have hxs : (ByteArray.mk x.toArray).size ≤ 9223372036854775807 := by simp [ByteArray.size]; omega
        go_wp2_with (first | (go_at_call 17; refine (Tryd.strings_TrimSuffix _ _ _ hxs).mono ?_; rintro e w' ⟨rfl, rfl⟩))
        go_roundw
        case rel =>
          refine ⟨k + 1, by omega, by go_num, hb.setCell (by simp) _, by simp [go_sem, hob], ?_, fun j hj => ?_⟩
          · rw [HS2.out]; exact strsAt_set HB.out k (by rw [crTo_length]; exact hM) (cutCR x)
          · rw [World.frozen?_setCell]; exact HF.out j hj
        case measure => simp [intOf]; omega
      · obtain rfl : k = L.length := by omega
        have hc := lines_clone ((L).map cutCR) (by rw [List.length_map]; omega) (w.heap.size + 1) (L.length) L.length (by rw [List.length_map]) wr (by rw [← crTo_all]; exact hby)
        have HC := Lib.hid hc
        have HB := Lib.hid hb
        clear hc hby hfr
        go_wp2_with (first | (go_at_call 18; refine (HC.out).mono ?_; rintro e w' hg; obtain ⟨a, c, rfl, hc2, hb2, hs2⟩ := hg; have H2 := Lib.hid hb2; have H3 := Lib.hid hs2; clear hb2 hs2))
        go_ret
        exact Gives.of_below HB.out ⟨a, c, by simp, by simpa using hc2, H2.out, H3.out⟩
  · have hd : dropEmpty L = L.dropLast := by
      rw [dropEmpty, HL.out, if_pos]
      rw [List.isEmpty_iff.1 hemp]
    rw [hd]
    clear hd
    have HM : Hid (L.dropLast.length = L.length - 1) := List.length_dropLast
    have HIN : Hid (∀ p, p ∈ L.dropLast → p ∈ L) := fun p h => List.dropLast_subset _ h
    have H0 : Hid (strsAt ((w.alloc (.cells #[.int .u8 10] 5)).alloc (.cells (strsV L) 9)) (w.heap.size + 1) L.dropLast) := fun j hj => by
      rw [World.cell?_alloc_at _ _ _ _ (by simp), strsV_get L j (by rw [List.length_dropLast] at hj; omega), List.getElem_dropLast]
    go_enter Tryd.func9, Tryd.ntmps9
    go_wp2_with (first | (go_at_call 16; refine (HS.out).mono ?_; rintro e w' ⟨rfl, rfl⟩))
    go_loopw [21] (fun i wr => ∃ k : Nat, k ≤ (L.length - 1) ∧ i = .int .i64 k ∧ Below w.heap.size w wr ∧ isOld (w.heap.size + 1) wr = true ∧ strsAt wr (w.heap.size + 1) (crTo L.dropLast k) ∧ (∀ j, j < (L.length - 1) → wr.frozen? ⟨w.heap.size + 1, j, none⟩ = false)) (fun i _ => (L.length - 1) - (intOf i).toNat)
    case atStart => exact ⟨0, Nat.zero_le _, rfl, (by repeat (first | exact Below.refl _ _ | assumption | refine below_grown ?_ (by first | omega | (simp [go_sem]; done) | (simp [go_sem] <;> omega)) _ | refine Below.alloc ?_ (by first | omega | (simp [go_sem]; done) | (simp [go_sem] <;> omega)) _ | refine below_bytesW ?_ (by first | omega | (simp [go_sem]; done) | (simp [go_sem] <;> omega)) _ | refine Below.drew ?_ | refine below_drewN ?_ _)), by simp [go_sem], by rw [crTo_zero]; exact H0.out, fun j _ => by simp [go_sem]⟩
    case round =>
      obtain ⟨k, hk, rfl, hb, hob, hby, hfr⟩ := hrel
      by_cases hlt : k < (L.length - 1)
      · have hM : k < (L.dropLast).length := by rw [HM.out]; exact hlt
        have hcell : wr.cell? ⟨w.heap.size + 1, k, none⟩ = some (.string ⟨((L.dropLast)[k]'hM).toArray⟩) := by
          have := hby k (by rw [crTo_length]; exact hM)
          rwa [crTo_get _ k hM] at this
        have hz := hfr k hlt
        have hxl : ((L.dropLast)[k]'hM).length ≤ l.length := HP.out _ (HIN.out _ (List.getElem_mem hM))
        have HB := Lib.hid hby
        have HF := Lib.hid hfr
        have HS2 := Lib.hid (crTo_succ _ k hM)
        clear hby hfr
        generalize (L.dropLast)[k]'hM = x at *
        have hxs : (ByteArray.mk x.toArray).size ≤ 9223372036854775807 := by simp [ByteArray.size]; omega
        go_wp2_with (first | (go_at_call 17; refine (Tryd.strings_TrimSuffix _ _ _ hxs).mono ?_; rintro e w' ⟨rfl, rfl⟩))
        go_roundw
        case rel =>
          refine ⟨k + 1, by omega, by go_num, hb.setCell (by simp) _, by simp [go_sem, hob], ?_, fun j hj => ?_⟩
          · rw [HS2.out]; exact strsAt_set HB.out k (by rw [crTo_length]; exact hM) (cutCR x)
          · rw [World.frozen?_setCell]; exact HF.out j hj
        case measure => simp [intOf]; omega
      · obtain rfl : k = (L.length - 1) := by omega
        have hc := lines_clone ((L.dropLast).map cutCR) (by rw [List.length_map, HM.out]; omega) (w.heap.size + 1) ((L.length - 1)) L.length (by rw [List.length_map, HM.out]) wr (by rw [← crTo_all, HM.out]; exact hby)
        have HC := Lib.hid hc
        have HB := Lib.hid hb
        clear hc hby hfr
        go_wp2_with (first | (go_at_call 18; refine (HC.out).mono ?_; rintro e w' hg; obtain ⟨a, c, rfl, hc2, hb2, hs2⟩ := hg; have H2 := Lib.hid hb2; have H3 := Lib.hid hs2; clear hb2 hs2))
        go_ret
        exact Gives.of_below HB.out ⟨a, c, by simp, by simpa using hc2, H2.out, H3.out⟩
end Go.Proofs.YthklfbakffaioaaDoor
