/- The walk of V6: the address of eight groups. -/
import Derived.Test.YtmfjabpmhkechaaGreatDoorAddrRow
import Derived.Laws.CopyOwn
namespace Go.Proofs.YtmfjabpmhkechaaGreatDoor
open Go Go.RowKit
set_option maxRecDepth 20000
set_option linter.unusedSimpArgs false
set_option linter.unusedVariables false

def cutF (l : List UInt8) : List UInt8 := if gapAt l = -1 then l else l.take (gapAt l).toNat
def cutB (l : List UInt8) : List UInt8 := if gapAt l = -1 then [] else l.drop ((gapAt l).toNat + 2)
def cutG (l : List UInt8) : Bool := !(gapAt l == -1)
theorem cut_eq (l : List UInt8) : Lib.cut l [58, 58] = (cutF l, cutB l, cutG l) := by
  have hge := Lib.index_ge l [58, 58]
  unfold Lib.cut cutF cutB cutG gapAt
  by_cases h : Lib.index l [58, 58] = -1
  · simp [h]
  · have h' : 0 ≤ Lib.index l [58, 58] := by omega
    simp [h, h']
theorem cut_none {l : List UInt8} (h : gapAt l = -1) : cutF l = l ∧ cutB l = [] ∧ cutG l = false := by simp [cutF, cutB, cutG, h]
theorem cut_some {l : List UInt8} (h : gapAt l ≠ -1) : cutF l = l.take (gapAt l).toNat ∧ cutB l = l.drop ((gapAt l).toNat + 2) ∧ cutG l = true := by simp [cutF, cutB, cutG, h]
theorem cut_any (l : List UInt8) (hl : l.length ≤ 4294967280) (m : Int) (w : World) (hm : HasMax m w) :
    Calls Tryz.prog 101 #[.string ⟨l.toArray⟩, .string ⟨[58, 58].toArray⟩] w fun e w' => e = .returned (.tuple #[.string ⟨(cutF l).toArray⟩, .string ⟨(cutB l).toArray⟩, .bool (cutG l)]) ∧ Below w.heap.size w w' := by
  refine (Tryz.strings_Cut ⟨l.toArray⟩ ⟨[58, 58].toArray⟩ m w (by simp [ByteArray.size]; omega) hm).mono fun e w' ⟨he, n, hw⟩ => ⟨?_, ?_⟩
  · rw [he]
    have := cut_eq l
    simp [this]
  · rw [hw]; exact below_drewN (Below.refl _ _) n
def v6Ok (l : List UInt8) : Bool := (v6L l).isSome
def v6G (l : List UInt8) : GGroups := match h : v6L l with
  | some g => ⟨g, v6L_length l g h⟩
  | none => zeroG
def v6A (l : List UInt8) : GAddr := if v6Ok l = true then fromG (v6G l) else zeroA
theorem v6_no {l : List UInt8} (h : v6L l = none) : v6Ok l = false ∧ v6A l = zeroA := by
  have : v6Ok l = false := by rw [v6Ok, h]; rfl
  exact ⟨this, by simp [v6A, this]⟩
theorem v6_yes {l : List UInt8} {g : List UInt16} (h : v6L l = some g) (hg : g.length = 8) : v6Ok l = true ∧ v6A l = fromG ⟨g, hg⟩ := by
  have h1 : v6Ok l = true := by rw [v6Ok, h]; rfl
  have h2 : v6G l = ⟨g, hg⟩ := by
    apply groups_ext
    unfold v6G
    split
    · rename_i g' h'
      rw [h] at h'; cases h'; rfl
    · rename_i h'
      rw [h] at h'; cases h'
  exact ⟨h1, by rw [v6A, if_pos h1, h2]⟩
theorem rowOk_some {x : List UInt8} (h : rowOk x = true) : rowL x = some (rowV x) := by
  unfold rowOk at h; unfold rowV
  cases hr : rowL x with
  | none => rw [hr] at h; cases h
  | some a => rfl
theorem rowOk_none {x : List UInt8} (h : rowOk x = false) : rowL x = none := by
  unfold rowOk at h
  cases hr : rowL x with
  | none => rfl
  | some a => rw [hr] at h; cases h
theorem v6_fail1 {l : List UInt8} (h : rowOk (cutF l) = false) : v6L l = none := by
  have h' := rowOk_none h
  unfold v6L cutF at *
  by_cases hg : gapAt l = -1
  · rw [if_pos hg] at h' ⊢; rw [h']
  · rw [if_neg hg] at h' ⊢; rw [h']
theorem v6_fail2 {l : List UInt8} (h : rowOk (cutB l) = false) : v6L l = none := by
  have h' := rowOk_none h
  unfold v6L cutB at *
  by_cases hg : gapAt l = -1
  · rw [if_pos hg] at h'; cases h'
  · rw [if_neg hg] at h' ⊢; rw [h']; cases rowL (l.take (gapAt l).toNat) <;> rfl
theorem v6_fail3 {l : List UInt8} (h1 : rowOk (cutF l) = true) (h2 : rowOk (cutB l) = true) (h : (cutG l = true ∧ 8 ≤ (rowV (cutF l)).length + (rowV (cutB l)).length) ∨ (cutG l = false ∧ (rowV (cutF l)).length + (rowV (cutB l)).length ≠ 8)) : v6L l = none := by
  have h1' := rowOk_some h1
  have h2' := rowOk_some h2
  unfold v6L cutF cutB cutG at *
  by_cases hg : gapAt l = -1
  · rw [if_pos hg] at *
    rcases h with ⟨hc, _⟩ | ⟨_, hn⟩
    · simp [hg] at hc
    · rw [if_pos hg] at hn
      rw [h1']
      have : rowV [] = [] := rfl
      rw [this] at hn
      simp at hn
      simp [hn]
  · rw [if_neg hg] at *
    rcases h with ⟨_, hn⟩ | ⟨hc, _⟩
    · rw [if_neg hg] at hn
      rw [h1', h2']
      simp
      omega
    · simp [hg] at hc
theorem v6_good {l : List UInt8} (h1 : rowOk (cutF l) = true) (h2 : rowOk (cutB l) = true) (h : (cutG l = true ∧ (rowV (cutF l)).length + (rowV (cutB l)).length ≤ 7) ∨ (cutG l = false ∧ (rowV (cutF l)).length + (rowV (cutB l)).length = 8)) :
    v6L l = some (rowV (cutF l) ++ List.replicate (8 - (rowV (cutF l)).length - (rowV (cutB l)).length) 0 ++ rowV (cutB l)) := by
  have h1' := rowOk_some h1
  have h2' := rowOk_some h2
  by_cases hg : gapAt l = -1
  · obtain ⟨eF, eB, eG⟩ := cut_none hg
    have e0 : rowV [] = [] := rfl
    rw [eF] at h h1' ⊢
    rw [eB, e0] at h ⊢
    rw [eG] at h
    rcases h with ⟨hc, _⟩ | ⟨_, hn⟩
    · cases hc
    · simp only [List.length_nil, Nat.add_zero] at hn
      rw [v6L, if_pos hg, h1']
      simp [hn]
  · obtain ⟨eF, eB, eG⟩ := cut_some hg
    rw [eF] at h1' h ⊢
    rw [eB] at h2' h ⊢
    rw [eG] at h
    rcases h with ⟨_, hn⟩ | ⟨hc, _⟩
    · rw [v6L, if_neg hg, h1', h2']
      simp only
      rw [if_pos hn]
    · cases hc
/-- The groups laid into eight, the front ones and the back ones. -/
theorem lay_groups (A B : List UInt16) (h : A.length + B.length ≤ 8) : splice (splice (List.replicate 8 (0 : UInt16)) 0 A) (8 - B.length) B = A ++ List.replicate (8 - A.length - B.length) 0 ++ B := by
  unfold splice
  simp only [List.take_zero, List.nil_append, Nat.zero_add, List.drop_replicate]
  rw [List.take_append, List.drop_append, List.take_of_length_le (by omega), List.drop_of_length_le (by omega), List.take_replicate, List.drop_replicate]
  have e1 : min (8 - B.length - A.length) (8 - A.length) = 8 - A.length - B.length := by omega
  have e2 : 8 - A.length - (8 - B.length + B.length - A.length) = 0 := by omega
  rw [e1, e2]
  simp
theorem encs_splice (L : List UInt16) (off : Nat) (cs : List UInt16) : splice (u16Cod.encs L) off (u16Cod.encs cs) = u16Cod.encs (splice L off cs) := by
  simp [splice, u16Encs, List.map_append, List.map_take, List.map_drop]
theorem cut_le (l : List UInt8) : (cutF l).length ≤ l.length ∧ (cutB l).length ≤ l.length := by
  unfold cutF cutB
  split
  · simp
  · rw [List.length_take, List.length_drop]; omega
theorem rowV_le (x : List UInt8) : (rowV x).length ≤ x.length + 1 := by
  unfold rowV rowL
  have := splitL_length_le 58 x
  split
  · simp
  · split
    · simpa using this
    · simp
theorem copy_src {α : Type} {c : Cod α} {w : World} {a : Option Addr} {xs : List α} {lo : Nat} (h : ListIn c w a xs lo) (h0 : 0 < (c.encs xs).length) : ∃ ad, a = some ad ∧ ∀ j v, (c.encs xs)[j]? = some v → w.cell? (ad.add j) = some v := by
  rcases h with rfl | ⟨b, o, rfl, _, _, h⟩
  · simp [Cod.encs] at h0
  · exact ⟨_, rfl, fun j v hj => by rw [add_mk]; exact h j v hj⟩
theorem ListIn.alloc {α : Type} {c : Cod α} {w : World} {a : Option Addr} {xs : List α} {lo : Nat} (h : ListIn c w a xs lo) (o : Obj) : ListIn c (w.alloc o) a xs lo := h.below ((Below.refl _ _).alloc (Nat.le_refl _) o)
/-- Where the last n of eight groups begin, as the walk spells it. -/
def lastAddr (b n : Nat) : Addr := if n = 0 then ⟨b, 0, none⟩ else ⟨b, 8 - n, none⟩
theorem last_slice (b n : Nat) (hn : n ≤ 8) (w : World) : (Instr.sliceAt 104 (.pointer (some ⟨b, 0, none⟩)) (some (.int .i64 (8 - (n : Int)))) none none).run Tryz.prog w = .ok (.slice (some (lastAddr b n)) n n) w := by
  have ht : Tryz.prog.underlying 104 = some (.array (Tryz.prog.arrayLen 104) (Tryz.prog.elem 104)) := by kernel_rfl
  have hl : Tryz.prog.arrayLen 104 = 8 := by kernel_rfl
  have he : Tryz.prog.elem 104 = 103 := by kernel_rfl
  have hs : ∀ w, (sizeOf 103).run Tryz.prog w = .ok 1 w := fun w => by kernel_rfl
  rw [run_sliceAt_array_l w _ _ ht .i64 _ (by omega) (by rw [hl]; omega), he, hs, hl]
  have e : (8 - (n : Int)).toNat = 8 - n := by omega
  show Result.ok (slicedAt _ _ 8 8 1) w = _
  rw [e, slicedAt]
  unfold lastAddr
  have e2 : 8 - (8 - n) = n := by omega
  by_cases h : n = 0
  · subst h; rfl
  · rw [if_neg (by omega), if_neg h, e2, add_mk]
    simp
theorem v6_split (l : List UInt8) : (rowOk (cutF l) = false) ∨ (rowOk (cutF l) = true ∧ rowOk (cutB l) = false) ∨
    (rowOk (cutF l) = true ∧ rowOk (cutB l) = true ∧ ((cutG l = true ∧ 8 ≤ (rowV (cutF l)).length + (rowV (cutB l)).length) ∨ (cutG l = false ∧ (rowV (cutF l)).length + (rowV (cutB l)).length ≠ 8))) ∨
    (rowOk (cutF l) = true ∧ rowOk (cutB l) = true ∧ ((cutG l = true ∧ (rowV (cutF l)).length + (rowV (cutB l)).length ≤ 7) ∨ (cutG l = false ∧ (rowV (cutF l)).length + (rowV (cutB l)).length = 8))) := by
  cases h1 : rowOk (cutF l)
  · exact .inl rfl
  · cases h2 : rowOk (cutB l)
    · exact .inr (.inl ⟨rfl, rfl⟩)
    · cases h3 : cutG l
      · by_cases h : (rowV (cutF l)).length + (rowV (cutB l)).length = 8
        · exact .inr (.inr (.inr ⟨rfl, rfl, .inr ⟨rfl, h⟩⟩))
        · exact .inr (.inr (.inl ⟨rfl, rfl, .inr ⟨rfl, h⟩⟩))
      · by_cases h : (rowV (cutF l)).length + (rowV (cutB l)).length ≤ 7
        · exact .inr (.inr (.inr ⟨rfl, rfl, .inl ⟨rfl, h⟩⟩))
        · exact .inr (.inr (.inl ⟨rfl, rfl, .inl ⟨rfl, by omega⟩⟩))
set_option maxHeartbeats 1000000 in
theorem v6_any (l : List UInt8) (hl : l.length ≤ 4294967280) (m : Int) (w : World) (hm : HasMax m w) :
    Calls Tryz.prog 70 #[.string ⟨l.toArray⟩] w fun e w' => e = .returned (.tuple #[.agg (addrC (v6A l)), .bool (v6Ok l)]) ∧ Below w.heap.size w w' := by
  have hcl := cut_le l
  have hla := rowV_le (cutF l)
  have hlb := rowV_le (cutB l)
  have HC : Hid (∀ w, HasMax m w → Calls Tryz.prog 101 #[.string ⟨l.toArray⟩, .string ⟨[58, 58].toArray⟩] w fun e w' => e = .returned (.tuple #[.string ⟨(cutF l).toArray⟩, .string ⟨(cutB l).toArray⟩, .bool (cutG l)]) ∧ Below w.heap.size w w') := fun w hm => cut_any l hl m w hm
  have HRF : Hid (∀ w, HasMax m w → Calls Tryz.prog 102 #[.string ⟨(cutF l).toArray⟩] w (Gives2 u16Cod (rowV (cutF l)) (rowOk (cutF l)) w)) := fun w hm => row_any _ (by omega) m w hm
  have HRB : Hid (∀ w, HasMax m w → Calls Tryz.prog 102 #[.string ⟨(cutB l).toArray⟩] w (Gives2 u16Cod (rowV (cutB l)) (rowOk (cutB l)) w)) := fun w hm => row_any _ (by omega) m w hm
  rcases v6_split l with h1 | ⟨h1, h2⟩ | ⟨h1, h2, h3⟩ | ⟨h1, h2, h3⟩
  · obtain ⟨e1, e2⟩ := v6_no (v6_fail1 h1)
    rw [e1, e2]
    rw [h1] at HRF
    clear e1 e2 h1
    generalize cutF l = F at *
    generalize cutB l = B at *
    generalize cutG l = G at *
    generalize rowV F = VF at *
    generalize rowV B = VB at *
    generalize rowOk B = okB at *
    go_enter Tryz.func70, Tryz.ntmps70
    go_wp2_with (first
      | (go_at_call 101; refine (HC.out _ (by repeat (first | exact hm | apply HasMax.grown | apply HasMax.alloc | apply HasMax.drew))).mono ?_; rintro e w1 ⟨rfl, hb1⟩; obtain ⟨p1, rfl⟩ := grown_of hb1; clear hb1)
      | (go_at_call 102; (with_reducible refine (HRF.out _ (by repeat (first | exact hm | apply HasMax.grown | apply HasMax.alloc | apply HasMax.drew))).mono ?_); intro e w1 hg; obtain ⟨a1, c1, rfl, hc1, hb1, hl1⟩ := hg; obtain ⟨p1, rfl⟩ := grown_of hb1; clear hb1)
      | (go_at_call 102; (with_reducible refine (HRB.out _ (by repeat (first | exact hm | apply HasMax.grown | apply HasMax.alloc | apply HasMax.drew))).mono ?_); intro e w1 hg; obtain ⟨a1, c1, rfl, hc1, hb1, hl1⟩ := hg; obtain ⟨p1, rfl⟩ := grown_of hb1; clear hb1))
    exact ret_cell_tmp w.heap.size (addrC zeroA) (.bool false) rfl rfl rfl agg_addr (by simp [go_sem]) (by simp [go_sem]) rfl ⟨rfl, below_setRow (by repeat (first | exact Below.refl _ _ | assumption | refine below_grown ?_ (by first | omega | (simp [go_sem]; done) | (simp [go_sem] <;> omega)) _ | refine Below.alloc ?_ (by first | omega | (simp [go_sem]; done) | (simp [go_sem] <;> omega)) _ | refine below_bytesW ?_ (by first | omega | (simp [go_sem]; done) | (simp [go_sem] <;> omega)) _ | refine Below.drew ?_ | refine below_drewN ?_ _)) (Nat.le_refl _) _⟩
  · obtain ⟨e1, e2⟩ := v6_no (v6_fail2 h2)
    rw [e1, e2]
    rw [h1] at HRF
    rw [h2] at HRB
    clear e1 e2 h1 h2
    generalize cutF l = F at *
    generalize cutB l = B at *
    generalize cutG l = G at *
    generalize rowV F = VF at *
    generalize rowV B = VB at *
    go_enter Tryz.func70, Tryz.ntmps70
    go_wp2_with (first
      | (go_at_call 101; refine (HC.out _ (by repeat (first | exact hm | apply HasMax.grown | apply HasMax.alloc | apply HasMax.drew))).mono ?_; rintro e w1 ⟨rfl, hb1⟩; obtain ⟨p1, rfl⟩ := grown_of hb1; clear hb1)
      | (go_at_call 102; (with_reducible refine (HRF.out _ (by repeat (first | exact hm | apply HasMax.grown | apply HasMax.alloc | apply HasMax.drew))).mono ?_); intro e w1 hg; obtain ⟨a1, c1, rfl, hc1, hb1, hl1⟩ := hg; obtain ⟨p1, rfl⟩ := grown_of hb1; clear hb1)
      | (go_at_call 102; (with_reducible refine (HRB.out _ (by repeat (first | exact hm | apply HasMax.grown | apply HasMax.alloc | apply HasMax.drew))).mono ?_); intro e w1 hg; obtain ⟨a1, c1, rfl, hc1, hb1, hl1⟩ := hg; obtain ⟨p1, rfl⟩ := grown_of hb1; clear hb1))
    exact ret_cell_tmp w.heap.size (addrC zeroA) (.bool false) rfl rfl rfl agg_addr (by simp [go_sem]) (by simp [go_sem]) rfl ⟨rfl, below_setRow (by repeat (first | exact Below.refl _ _ | assumption | refine below_grown ?_ (by first | omega | (simp [go_sem]; done) | (simp [go_sem] <;> omega)) _ | refine Below.alloc ?_ (by first | omega | (simp [go_sem]; done) | (simp [go_sem] <;> omega)) _ | refine below_bytesW ?_ (by first | omega | (simp [go_sem]; done) | (simp [go_sem] <;> omega)) _ | refine Below.drew ?_ | refine below_drewN ?_ _)) (Nat.le_refl _) _⟩
  · obtain ⟨e1, e2⟩ := v6_no (v6_fail3 h1 h2 h3)
    rw [e1, e2]
    rw [h1] at HRF
    rw [h2] at HRB
    clear e1 e2 h1 h2
    generalize cutF l = F at *
    generalize cutB l = B at *
    generalize cutG l = G at *
    generalize rowV F = VF at *
    generalize rowV B = VB at *
    rcases h3 with ⟨rfl, h3⟩ | ⟨rfl, h3⟩
    · go_enter Tryz.func70, Tryz.ntmps70
      go_wp2_with (first
        | (go_at_call 101; refine (HC.out _ (by repeat (first | exact hm | apply HasMax.grown | apply HasMax.alloc | apply HasMax.drew))).mono ?_; rintro e w1 ⟨rfl, hb1⟩; obtain ⟨p1, rfl⟩ := grown_of hb1; clear hb1)
        | (go_at_call 102; (with_reducible refine (HRF.out _ (by repeat (first | exact hm | apply HasMax.grown | apply HasMax.alloc | apply HasMax.drew))).mono ?_); intro e w1 hg; obtain ⟨a1, c1, rfl, hc1, hb1, hl1⟩ := hg; obtain ⟨p1, rfl⟩ := grown_of hb1; clear hb1)
        | (go_at_call 102; (with_reducible refine (HRB.out _ (by repeat (first | exact hm | apply HasMax.grown | apply HasMax.alloc | apply HasMax.drew))).mono ?_); intro e w1 hg; obtain ⟨a1, c1, rfl, hc1, hb1, hl1⟩ := hg; obtain ⟨p1, rfl⟩ := grown_of hb1; clear hb1))
      exact ret_cell_tmp w.heap.size (addrC zeroA) (.bool false) rfl rfl rfl agg_addr (by simp [go_sem]) (by simp [go_sem]) rfl ⟨rfl, below_setRow (by repeat (first | exact Below.refl _ _ | assumption | refine below_grown ?_ (by first | omega | (simp [go_sem]; done) | (simp [go_sem] <;> omega)) _ | refine Below.alloc ?_ (by first | omega | (simp [go_sem]; done) | (simp [go_sem] <;> omega)) _ | refine below_bytesW ?_ (by first | omega | (simp [go_sem]; done) | (simp [go_sem] <;> omega)) _ | refine Below.drew ?_ | refine below_drewN ?_ _)) (Nat.le_refl _) _⟩
    · have h3' : ((VF.length : Int) + (VB.length : Int) != 8) = true := by simp; omega
      clear h3
      go_enter Tryz.func70, Tryz.ntmps70
      go_wp2_with (first
        | (go_at_call 101; refine (HC.out _ (by repeat (first | exact hm | apply HasMax.grown | apply HasMax.alloc | apply HasMax.drew))).mono ?_; rintro e w1 ⟨rfl, hb1⟩; obtain ⟨p1, rfl⟩ := grown_of hb1; clear hb1)
        | (go_at_call 102; (with_reducible refine (HRF.out _ (by repeat (first | exact hm | apply HasMax.grown | apply HasMax.alloc | apply HasMax.drew))).mono ?_); intro e w1 hg; obtain ⟨a1, c1, rfl, hc1, hb1, hl1⟩ := hg; obtain ⟨p1, rfl⟩ := grown_of hb1; clear hb1)
        | (go_at_call 102; (with_reducible refine (HRB.out _ (by repeat (first | exact hm | apply HasMax.grown | apply HasMax.alloc | apply HasMax.drew))).mono ?_); intro e w1 hg; obtain ⟨a1, c1, rfl, hc1, hb1, hl1⟩ := hg; obtain ⟨p1, rfl⟩ := grown_of hb1; clear hb1))
      exact ret_cell_tmp w.heap.size (addrC zeroA) (.bool false) rfl rfl rfl agg_addr (by simp [go_sem]) (by simp [go_sem]) rfl ⟨rfl, below_setRow (by repeat (first | exact Below.refl _ _ | assumption | refine below_grown ?_ (by first | omega | (simp [go_sem]; done) | (simp [go_sem] <;> omega)) _ | refine Below.alloc ?_ (by first | omega | (simp [go_sem]; done) | (simp [go_sem] <;> omega)) _ | refine below_bytesW ?_ (by first | omega | (simp [go_sem]; done) | (simp [go_sem] <;> omega)) _ | refine Below.drew ?_ | refine below_drewN ?_ _)) (Nat.le_refl _) _⟩
  · have hv := v6_good h1 h2 h3
    have hl8 : (rowV (cutF l) ++ List.replicate (8 - (rowV (cutF l)).length - (rowV (cutB l)).length) 0 ++ rowV (cutB l)).length = 8 := by simp; omega
    obtain ⟨e1, e2⟩ := v6_yes hv hl8
    obtain ⟨G8, hG8, e3⟩ : ∃ G8 : GGroups, G8.g = rowV (cutF l) ++ List.replicate (8 - (rowV (cutF l)).length - (rowV (cutB l)).length) 0 ++ rowV (cutB l) ∧ v6A l = fromG G8 := ⟨⟨_, hl8⟩, rfl, e2⟩
    rw [e1, e3]
    rw [h1] at HRF
    rw [h2] at HRB
    clear e1 e2 e3 h1 h2 hv hl8
    have HLG := Lib.hid (lay_groups (rowV (cutF l)) (rowV (cutB l)) (by omega))
    generalize cutF l = F at *
    generalize cutB l = B at *
    generalize cutG l = G at *
    generalize rowV F = VF at *
    generalize rowV B = VB at *
    have hsum : VF.length + VB.length ≤ 8 := by omega
    have hvb : VB.length ≤ 8 := by omega
    have HGE : Hid (groupsL G8 = splice (splice (u16Cod.encs (List.replicate 8 0)) 0 (u16Cod.encs VF)) (8 - VB.length) (u16Cod.encs VB)) := by
      show u16Cod.encs G8.g = _
      rw [encs_splice, encs_splice, HLG.out, hG8]
    clear hG8
    have HSP : Hid ((splice (u16Cod.encs (List.replicate 8 0)) 0 (u16Cod.encs VF)).length = 8) := (length_splice _ 0 _ (by rw [u16Len, u16Len]; simp; omega)).trans (by rw [u16Len]; rfl)
    have hsl : ∀ (b : Nat) (w : World), (Instr.sliceAt 104 (.pointer (some ⟨b, 0, none⟩)) (some (.int .i64 (8 - (VB.length : Int)))) none none).run Tryz.prog w = .ok (.slice (some (lastAddr b VB.length)) VB.length VB.length) w := fun b w => last_slice b VB.length hvb w
    rcases h3 with ⟨rfl, h3⟩ | ⟨rfl, h3⟩
    · go_enter Tryz.func70, Tryz.ntmps70
      go_wp2_with (first
        | (go_at_call 101; refine (HC.out _ (by repeat (first | exact hm | apply HasMax.grown | apply HasMax.alloc | apply HasMax.drew))).mono ?_; rintro e w1 ⟨rfl, hb1⟩; obtain ⟨p1, rfl⟩ := grown_of hb1; clear hb1)
        | (go_at_call 102; (with_reducible refine (HRF.out _ (by repeat (first | exact hm | apply HasMax.grown | apply HasMax.alloc | apply HasMax.drew))).mono ?_); intro e w1 hg; obtain ⟨aF, cF, rfl, hcF, hb1, hlF⟩ := hg; have hbF := bel_up (w := w) (by repeat (first | exact Below.refl _ _ | assumption | refine below_grown ?_ (by first | omega | (simp [go_sem]; done) | (simp [go_sem] <;> omega)) _ | refine Below.alloc ?_ (by first | omega | (simp [go_sem]; done) | (simp [go_sem] <;> omega)) _ | refine below_bytesW ?_ (by first | omega | (simp [go_sem]; done) | (simp [go_sem] <;> omega)) _ | refine Below.drew ?_ | refine below_drewN ?_ _)) hb1; have hbFs := hbF.size; have hvr1 : Var w1 w.heap.size (u8Cod.encs (List.replicate 16 0)) := (Var.grown (Var.new _ _ _ rfl rfl) _).below hb1; clear hb1)
        | (go_at_call 102; (with_reducible refine (HRB.out _ (HasMax.below hm hbF)).mono ?_); intro e w2 hg; obtain ⟨aB, cB, rfl, hcB, hb2, hlB⟩ := hg; have hlF2 := hlF.below hb2; have hbB := bel_up (w := w) hbF hb2; have hbBs := hbB.size; have hvr2 := hvr1.below hb2; clear hb2)
        | (refine wpList_copy_splice rfl (.tmp 56) (.tmp 57) 109 109 rfl 103 Tryz.underlying109 (by kernel_rfl) _ aF 8 8 VF.length cF rfl rfl w2.heap.size 0 (u16Cod.encs (List.replicate 8 0)) 104 (by rw [heap_alloc_new]; rfl) (u16Cod.encs VF) (by rw [u16Len]; exact (Nat.min_eq_left (by omega)).symm) (fun h0 => ⟨rfl, copy_src (hlF2.alloc _) h0⟩) (by rw [u16Len, u16Len]; simp; omega) (u16Cod.encs_one VF) w2.heap.size w2 ((Below.refl _ _).alloc (Nat.le_refl _) _) (Nat.le_refl _) ?_; intro w3 hg3 hb3)
        | (refine wpList_copy_splice rfl (.tmp 62) (.tmp 63) 109 109 rfl 103 Tryz.underlying109 (by kernel_rfl) _ aB VB.length VB.length VB.length cB rfl rfl w2.heap.size (8 - VB.length) _ 104 hg3.out (u16Cod.encs VB) (by rw [u16Len]; exact (Nat.min_self _).symm) (fun h0 => ⟨by rw [lastAddr, if_neg (by rw [u16Len] at h0; omega)], copy_src (hlB.below hb3) h0⟩) (by rw [HSP.out, u16Len]; omega) (u16Cod.encs_one VB) w2.heap.size w2 hb3 (Nat.le_refl _) ?_; intro w4 hg4 hb4; have hv4 : Var w4 w2.heap.size (groupsL G8) := ⟨_, (by rw [HGE.out]; exact hg4.out)⟩; have hr4 := hv4.hasRow (groupsL_length _); have ha4 : rowAt w4 ⟨w2.heap.size, 0, none⟩ 8 = groupsC G8 := hv4.rowAt (groupsL_length _); have hres : hasVar w4 w.heap.size 16 = true := (hvr2.below hb4).has rfl; have ho4 : isOld w.heap.size w4 = true := isOld_iff.2 (hvr2.below hb4).lt; have hbw4 := bel_up hbB hb4; have hbw4s := hbw4.size; clear hv4 hg4)
        | (go_at_call 103; refine (from_any G8 _).mono ?_; rintro e w1 ⟨rfl, hb1⟩; obtain ⟨p1, rfl⟩ := grown_of hb1; clear hb1))
      exact ret_cell_tmp w.heap.size (addrC (fromG G8)) (.bool true) rfl rfl rfl agg_addr (by simp [go_sem, ho4, hres]) (by simp [go_sem, ho4, hres]) rfl ⟨by simp, below_setRow (by repeat (first | exact Below.refl _ _ | assumption | refine below_grown ?_ (by first | omega | (simp [go_sem]; done) | (simp [go_sem] <;> omega)) _ | refine Below.alloc ?_ (by first | omega | (simp [go_sem]; done) | (simp [go_sem] <;> omega)) _ | refine below_bytesW ?_ (by first | omega | (simp [go_sem]; done) | (simp [go_sem] <;> omega)) _ | refine Below.drew ?_ | refine below_drewN ?_ _)) (Nat.le_refl _) _⟩
    · have h3' : ((VF.length : Int) + (VB.length : Int) != 8) = false := by simp; omega
      clear h3
      go_enter Tryz.func70, Tryz.ntmps70
      go_wp2_with (first
        | (go_at_call 101; refine (HC.out _ (by repeat (first | exact hm | apply HasMax.grown | apply HasMax.alloc | apply HasMax.drew))).mono ?_; rintro e w1 ⟨rfl, hb1⟩; obtain ⟨p1, rfl⟩ := grown_of hb1; clear hb1)
        | (go_at_call 102; (with_reducible refine (HRF.out _ (by repeat (first | exact hm | apply HasMax.grown | apply HasMax.alloc | apply HasMax.drew))).mono ?_); intro e w1 hg; obtain ⟨aF, cF, rfl, hcF, hb1, hlF⟩ := hg; have hbF := bel_up (w := w) (by repeat (first | exact Below.refl _ _ | assumption | refine below_grown ?_ (by first | omega | (simp [go_sem]; done) | (simp [go_sem] <;> omega)) _ | refine Below.alloc ?_ (by first | omega | (simp [go_sem]; done) | (simp [go_sem] <;> omega)) _ | refine below_bytesW ?_ (by first | omega | (simp [go_sem]; done) | (simp [go_sem] <;> omega)) _ | refine Below.drew ?_ | refine below_drewN ?_ _)) hb1; have hbFs := hbF.size; have hvr1 : Var w1 w.heap.size (u8Cod.encs (List.replicate 16 0)) := (Var.grown (Var.new _ _ _ rfl rfl) _).below hb1; clear hb1)
        | (go_at_call 102; (with_reducible refine (HRB.out _ (HasMax.below hm hbF)).mono ?_); intro e w2 hg; obtain ⟨aB, cB, rfl, hcB, hb2, hlB⟩ := hg; have hlF2 := hlF.below hb2; have hbB := bel_up (w := w) hbF hb2; have hbBs := hbB.size; have hvr2 := hvr1.below hb2; clear hb2)
        | (refine wpList_copy_splice rfl (.tmp 56) (.tmp 57) 109 109 rfl 103 Tryz.underlying109 (by kernel_rfl) _ aF 8 8 VF.length cF rfl rfl w2.heap.size 0 (u16Cod.encs (List.replicate 8 0)) 104 (by rw [heap_alloc_new]; rfl) (u16Cod.encs VF) (by rw [u16Len]; exact (Nat.min_eq_left (by omega)).symm) (fun h0 => ⟨rfl, copy_src (hlF2.alloc _) h0⟩) (by rw [u16Len, u16Len]; simp; omega) (u16Cod.encs_one VF) w2.heap.size w2 ((Below.refl _ _).alloc (Nat.le_refl _) _) (Nat.le_refl _) ?_; intro w3 hg3 hb3)
        | (refine wpList_copy_splice rfl (.tmp 62) (.tmp 63) 109 109 rfl 103 Tryz.underlying109 (by kernel_rfl) _ aB VB.length VB.length VB.length cB rfl rfl w2.heap.size (8 - VB.length) _ 104 hg3.out (u16Cod.encs VB) (by rw [u16Len]; exact (Nat.min_self _).symm) (fun h0 => ⟨by rw [lastAddr, if_neg (by rw [u16Len] at h0; omega)], copy_src (hlB.below hb3) h0⟩) (by rw [HSP.out, u16Len]; omega) (u16Cod.encs_one VB) w2.heap.size w2 hb3 (Nat.le_refl _) ?_; intro w4 hg4 hb4; have hv4 : Var w4 w2.heap.size (groupsL G8) := ⟨_, (by rw [HGE.out]; exact hg4.out)⟩; have hr4 := hv4.hasRow (groupsL_length _); have ha4 : rowAt w4 ⟨w2.heap.size, 0, none⟩ 8 = groupsC G8 := hv4.rowAt (groupsL_length _); have hres : hasVar w4 w.heap.size 16 = true := (hvr2.below hb4).has rfl; have ho4 : isOld w.heap.size w4 = true := isOld_iff.2 (hvr2.below hb4).lt; have hbw4 := bel_up hbB hb4; have hbw4s := hbw4.size; clear hv4 hg4)
        | (go_at_call 103; refine (from_any G8 _).mono ?_; rintro e w1 ⟨rfl, hb1⟩; obtain ⟨p1, rfl⟩ := grown_of hb1; clear hb1))
      exact ret_cell_tmp w.heap.size (addrC (fromG G8)) (.bool true) rfl rfl rfl agg_addr (by simp [go_sem, ho4, hres]) (by simp [go_sem, ho4, hres]) rfl ⟨by simp, below_setRow (by repeat (first | exact Below.refl _ _ | assumption | refine below_grown ?_ (by first | omega | (simp [go_sem]; done) | (simp [go_sem] <;> omega)) _ | refine Below.alloc ?_ (by first | omega | (simp [go_sem]; done) | (simp [go_sem] <;> omega)) _ | refine below_bytesW ?_ (by first | omega | (simp [go_sem]; done) | (simp [go_sem] <;> omega)) _ | refine Below.drew ?_ | refine below_drewN ?_ _)) (Nat.le_refl _) _⟩
end Go.Proofs.YtmfjabpmhkechaaGreatDoor
