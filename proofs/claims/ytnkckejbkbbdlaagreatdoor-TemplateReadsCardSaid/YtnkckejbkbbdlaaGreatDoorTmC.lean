/- Merged: Split, SplitG, AddrRow, AddrV6, AddrQ. -/
import Derived.Test.YtnkckejbkbbdlaaGreatDoorTmA
import Derived.Test.YtnkckejbkbbdlaaGreatDoorShelf
import Derived.Test.YtnkckejbkbbdlaaGreatDoorTmB
import Derived.Laws.CopyOwn
namespace Go.Proofs.YtnkckejbkbbdlaaGreatDoor
section
open Go Go.RowKit

/-- The library's own variable holds an int. -/
def HasMax (m : Int) (w : World) : Prop := w.cell? ⟨0, 0, none⟩ = some (.int .i64 m)
theorem HasMax.lt {m : Int} {w : World} (h : HasMax m w) : 0 < w.heap.size := block_lt_of_cell h
theorem HasMax.below {m : Int} {w w' : World} (h : HasMax m w) (hb : Below w.heap.size w w') : HasMax m w' := (hb.cell (p := ⟨0, 0, none⟩) h.lt).trans h
theorem HasMax.alloc {m : Int} {w : World} (h : HasMax m w) (o : Obj) : HasMax m (w.alloc o) := h.below ((Below.refl _ _).alloc (Nat.le_refl _) o)
theorem HasMax.grown {m : Int} {w : World} (h : HasMax m w) (p : Regrown) : HasMax m (grown w p) := h.below (below_grown' w p)
theorem HasMax.bytesW {m : Int} {w : World} (h : HasMax m w) (l : List UInt8) : HasMax m (bytesW w l) := h.below (below_bytesW' w l)
theorem HasMax.drew {m : Int} {w : World} (h : HasMax m w) : HasMax m w.drew := h

theorem split_any (l : List UInt8) (c : UInt8) (hl : l.length ≤ 4294967280) (m : Int) (w : World) (hm : HasMax m w) :
    Calls Tryz.prog 29 #[.string ⟨l.toArray⟩, .int .u8 (c.toNat : Int)] w fun e w' =>
      e = .returned (.slice (some ⟨w.heap.size + 1, 0, none⟩) (splitL c l).length (splitL c l).length) ∧ w' = (w.alloc (.cells #[.int .u8 (c.toNat : Int)] 5)).alloc (.cells (strsV (splitL c l)) 9) := by
  have hs : (ByteArray.mk l.toArray).size < 4294967281 := by simp [ByteArray.size]; omega
  have hm' : (w.alloc (.cells #[.int .u8 (c.toNat : Int)] 5)).cell? ⟨0, 0, none⟩ = some (.int .i64 m) := hm.alloc _
  have e1 := splitB_count c l
  have e2 := splitB_cells c l
  have hcall := Tryz.strings_Split ⟨l.toArray⟩ ⟨[c].toArray⟩ m _ hs hm' (Nat.le_refl 1)
  rw [e1, e2] at hcall
  have HC := Lib.hid hcall
  clear hcall e1 e2 hm' hm hs
  go_enter Tryz.func29, Tryz.ntmps29
  go_wp2_with (go_at_call 52; refine (HC.out).mono ?_; rintro e w' ⟨rfl, rfl⟩)
  go_ret
  exact ⟨by simp, rfl⟩

theorem bs_empty_iff (l : List UInt8) : ByteArray.mk l.toArray = ByteArray.empty ↔ l = [] := by
  constructor
  · intro h
    have := congrArg (fun b : ByteArray => b.data.toList) h
    simpa using this
  · rintro rfl; rfl
theorem containsS_nil (L : List (List UInt8)) : Lib.containsS (L.map fun l => ByteArray.mk l.toArray) ByteArray.empty = L.any (·.isEmpty) := by
  rw [Bool.eq_iff_iff, Lib.containsS_iff, List.any_eq_true, List.mem_map]
  constructor
  · rintro ⟨l, h1, h2⟩
    exact ⟨l, h1, List.isEmpty_iff.2 ((bs_empty_iff l).1 h2)⟩
  · rintro ⟨l, h1, h2⟩
    exact ⟨l, h1, (bs_empty_iff l).2 (List.isEmpty_iff.1 h2)⟩
theorem strsV_getD (L : List (List UInt8)) (j : Nat) (hj : j < L.length) : (strsV L)[j]? = some (.string ((L.map fun l => ByteArray.mk l.toArray).getD j ByteArray.empty)) := by
  rw [strsV_get L j hj]
  simp [List.getD, hj]

/-- A line's words: none, if a piece is empty. -/
def wordsOk (l : List UInt8) : Bool := !(splitL 32 l).any (·.isEmpty)
theorem words_any (l : List UInt8) (hl : l.length ≤ 4294967280) (m : Int) (w : World) (hm : HasMax m w) :
    Calls Tryz.prog 33 #[.string ⟨l.toArray⟩] w fun e w' =>
      e = .returned (if wordsOk l = true then .tuple #[.slice (some ⟨w.heap.size + 1, 0, none⟩) (splitL 32 l).length (splitL 32 l).length, .bool true] else .tuple #[.slice none 0 0, .bool false]) ∧ w' = (w.alloc (.cells #[.int .u8 32] 5)).alloc (.cells (strsV (splitL 32 l)) 9) := by
  have hn := splitL_length_le 32 l
  have hc := Tryz.slices_Contains_string (w.heap.size + 1) 0 (splitL 32 l).length (splitL 32 l).length ((splitL 32 l).map fun l => ByteArray.mk l.toArray) ByteArray.empty ((w.alloc (.cells #[.int .u8 32] 5)).alloc (.cells (strsV (splitL 32 l)) 9)) (by simp) (by omega) (fun j hj => by
    rw [World.cell?_alloc_at _ _ _ _ (by simp), Nat.zero_add]
    exact strsV_getD _ j (by simpa using hj))
  have e : (((splitL 32 l).map fun l => ByteArray.mk l.toArray).take (splitL 32 l).length) = ((splitL 32 l).map fun l => ByteArray.mk l.toArray) := List.take_of_length_le (by simp)
  rw [e, containsS_nil] at hc
  have HC := Lib.hid hc
  clear hc e hn
  have h32 : ((32 : UInt8).toNat : Int) = 32 := rfl
  have hs := split_any l 32 hl m w hm
  rw [h32] at hs
  have HS := Lib.hid hs
  clear hs h32 hm hl
  unfold wordsOk
  cases hw : (splitL 32 l).any (·.isEmpty)
  all_goals
    rw [hw] at HC
    generalize splitL 32 l = L at *
    go_enter Tryz.func33, Tryz.ntmps33
    go_wp2_with (first | (go_at_call 29; refine (HS.out).mono ?_; rintro e w' ⟨rfl, rfl⟩) | (go_at_call 54; refine (HC.out).mono ?_; rintro e w' ⟨rfl, rfl⟩))
    go_ret2
    exact ⟨rfl, rfl⟩
end

section
open Go Go.RowKit
set_option linter.unusedSimpArgs false
set_option linter.unusedVariables false

theorem Gives.some {α : Type} {c : Cod α} {xs : List α} {w w' : World} {e : Ending} (h : Gives c xs w e w') (hx : xs ≠ []) :
    ∃ b o cap, e = .returned (.slice (some ⟨b, o, none⟩) xs.length cap) ∧ xs.length ≤ cap ∧ Below w.heap.size w w' ∧ w.heap.size ≤ b ∧ b < w'.heap.size ∧ ListAt c w' b o xs := by
  obtain ⟨a, cap, he, hc, hb, h | ⟨b, o, rfl, h1, h2, h3⟩⟩ := h
  · exact absurd h hx
  · exact ⟨b, o, cap, he, hc, hb, h1, h2, h3⟩
theorem Gives2.of_some {α : Type} {c : Cod α} {xs : List α} {ok : Bool} {w w' : World} {b o cap : Nat} (hc : xs.length ≤ cap) (hb : Below w.heap.size w w') (hlo : w.heap.size ≤ b) (hhi : b < w'.heap.size) (h : ListAt c w' b o xs) :
    Gives2 c xs ok w (.returned (.tuple #[.slice (some ⟨b, o, none⟩) xs.length cap, .bool ok])) w' := ⟨_, cap, rfl, hc, hb, .inr ⟨b, o, rfl, hlo, hhi, h⟩⟩
theorem Gives2.some2 {α : Type} {c : Cod α} {xs : List α} {ok : Bool} {w w' : World} {e : Ending} (h : Gives2 c xs ok w e w') (hx : xs ≠ []) :
    ∃ b o cap, e = .returned (.tuple #[.slice (Option.some ⟨b, o, none⟩) xs.length cap, .bool ok]) ∧ xs.length ≤ cap ∧ Below w.heap.size w w' ∧ w.heap.size ≤ b ∧ b < w'.heap.size ∧ ListAt c w' b o xs := by
  obtain ⟨a, cap, he, hc, hb, h | ⟨b, o, rfl, h1, h2, h3⟩⟩ := h
  · exact absurd h hx
  · exact ⟨b, o, cap, he, hc, hb, h1, h2, h3⟩
theorem map_take_succ {α β : Type} (f : α → β) (L : List α) (k : Nat) (hk : k < L.length) : (L.take (k + 1)).map f = (L.take k).map f ++ [f (L[k]'hk)] := by
  rw [List.take_succ_eq_append_getElem hk, List.map_append]; rfl

theorem split_gives (l : List UInt8) (c : UInt8) (hl : l.length ≤ 4294967280) (m : Int) (w : World) (hm : HasMax m w) :
    Calls Tryz.prog 29 #[.string ⟨l.toArray⟩, .int .u8 (c.toNat : Int)] w (Gives strCod (splitL c l) w) := by
  refine (split_any l c hl m w hm).mono fun e w' ⟨he, hw⟩ => ?_
  have hb : Below w.heap.size w w' := by rw [hw]; exact ((Below.refl _ _).alloc (Nat.le_refl _) _).alloc (by simp) _
  have hat : ListAt strCod w' (w.heap.size + 1) 0 (splitL c l) := by
    rw [hw]; exact listAt_new _ _ _ _ (by rw [strEncs]; rfl) (by simp)
  exact ⟨_, _, he, Nat.le_refl _, hb, .inr ⟨_, 0, rfl, Nat.le_succ _, by rw [hw]; simp, hat⟩⟩
end

section
open Go Go.RowKit
set_option maxRecDepth 20000
set_option linter.unusedSimpArgs false
set_option linter.unusedVariables false

def rowOk (s : List UInt8) : Bool := (rowL s).isSome
def rowV (s : List UInt8) : List UInt16 := (rowL s).getD []
theorem row_empty : rowOk [] = true ∧ rowV [] = [] := ⟨rfl, rfl⟩
theorem row_all {s : List UInt8} (h0 : s ≠ []) (h : (splitL 58 s).all grpOk = true) : rowOk s = true ∧ rowV s = (splitL 58 s).map grpR := by
  have e : (splitL 58 s).map grpR = (splitL 58 s).map grpV := List.map_congr_left fun x hx => grp_yes (List.all_eq_true.1 h x hx)
  rw [rowOk, rowV, rowL_some h0 h, e]; exact ⟨rfl, rfl⟩
theorem row_bad {s : List UInt8} (h0 : s ≠ []) (p : List UInt8) (hp : p ∈ splitL 58 s) (h : grpOk p = false) : rowOk s = false ∧ rowV s = [] := by
  have : rowL s = none := by
    rw [rowL, if_neg h0, if_neg]
    intro hall
    rw [List.all_eq_true.1 hall p hp] at h; cases h
  rw [rowOk, rowV, this]; exact ⟨rfl, rfl⟩
theorem all_take_grp (L : List (List UInt8)) (k : Nat) (h : k < L.length) : (L.take (k + 1)).all grpOk = ((L.take k).all grpOk && grpOk (L[k]'h)) := by
  rw [List.take_succ_eq_append_getElem h, List.all_append]; simp
set_option maxHeartbeats 1000000 in
theorem row_any (l : List UInt8) (hl : l.length ≤ 4294967280) (m : Int) (w : World) (hm : HasMax m w) :
    Calls Tryz.prog 133 #[.string ⟨l.toArray⟩] w (Gives2 u16Cod (rowV l) (rowOk l) w) := by
  by_cases h0 : l = []
  · subst h0
    go_enter Tryz.func133, Tryz.ntmps133
    go_wp2
    go_ret2
    exact ⟨none, 0, rfl, Nat.le_refl _, Below.refl _ _, .inl rfl⟩
  · have hem : l.isEmpty = false := by cases l <;> simp_all
    have hem2 : (l == []) = false := by simpa using h0
    have hn := splitL_length_le 58 l
    have HP := Lib.hid (splitL_piece_le 58 l)
    have HALL : Hid ((splitL 58 l).all grpOk = true → rowOk l = true ∧ rowV l = (splitL 58 l).map grpR) := fun h => row_all h0 h
    have HBAD : Hid (∀ p ∈ splitL 58 l, grpOk p = false → rowOk l = false ∧ rowV l = []) := fun p hp h => row_bad h0 p hp h
    have HC : Hid (Calls Tryz.prog 29 #[.string ⟨l.toArray⟩, .int .u8 58] w (Gives strCod (splitL 58 l) w)) := split_gives l 58 hl m w hm
    have HN := Lib.hid (splitL_ne 58 l)
    generalize splitL 58 l = L at *
    generalize rowV l = V at *
    generalize rowOk l = ok at *
    clear h0 hm
    go_enter Tryz.func133, Tryz.ntmps133
    go_wp2_with (go_at_call 29; refine (HC.out).mono ?_; intro e w1 hg; obtain ⟨b, o, cap, rfl, hcap, hb1, hlo, hhi, hat⟩ := hg.some HN.out; have HBC := Lib.hid hb1; have HAT := Lib.hid hat; clear hg hb1 hat)
    have hs0 := HBC.out.size
    go_loopw [4, 14] (fun out i wr => ∃ (k : Nat), k ≤ L.length ∧ i = .int .i64 k ∧ Keeps (From w1.heap.size) w1 wr ∧ Own u16Cod (From w1.heap.size) wr out ((L.take k).map grpR) ∧ Hid ((L.take k).all grpOk = true)) (fun _ i _ => L.length - (intOf i).toNat)
    case atStart => exact ⟨0, Nat.zero_le _, rfl, Keeps.refl _ _, Own.nil _ _, rfl⟩
    case round =>
      obtain ⟨k, hk, rfl, hb, ho, hinv⟩ := hrel
      have hsz := hb.size
      have HB := Lib.hid hb
      have HO := Lib.hid ho
      have HBE : Hid (Below w.heap.size w wr) := bel_up HBC.out (hb.below_from (Nat.le_refl _))
      by_cases hlt : k < L.length
      · have hcell := strAt (HAT.out.keeps hb hhi (by intro hn; exact absurd hhi (Nat.not_lt.2 hn))) k hlt
        have hx := HP.out _ (List.getElem_mem hlt)
        have HE := Lib.hid (map_take_succ grpR L k hlt)
        have HAS := Lib.hid (all_take_grp L k hlt)
        have HBK := Lib.hid (HBAD.out _ (List.getElem_mem hlt))
        have hPk : ((L.take k).map grpR).length ≤ k := by simp; omega
        clear hb ho
        generalize L[k]'hlt = x at *
        generalize (L.take k).map grpR = P at *
        have HG := Lib.hid (fun w => group_any x (by omega) w)
        cases hok : grpOk x
        · obtain ⟨rfl, rfl⟩ := HBK.out hok
          rw [hok] at HG
          go_wp2_with (go_at_call 140; refine (HG.out _).mono ?_; rintro e w1 ⟨rfl, hb1⟩; obtain ⟨p1, rfl⟩ := grown_of hb1; clear hb1)
          go_ret2
          exact ⟨none, 0, rfl, Nat.le_refl _, below_grown HBE.out HBE.out.size _, .inl rfl⟩
        · rw [hok] at HG HAS
          go_wp2_with (first | (go_at_call 140; refine (HG.out _).mono ?_; rintro e w1 ⟨rfl, hb1⟩; obtain ⟨p1, rfl⟩ := grown_of hb1; clear hb1) | (at_builtin; refine wpList_append_list rfl u16Cod (.tmp 25) (.tmp 27) 160 rfl rfl (From w1.heap.size) _ _ (P) rfl ((HO.out.grown _).alloc _) _ 0 _ _ [grpR x] rfl rfl (listAt_new _ _ [_] _ rfl (by first | rfl | (simp [go_sem]; done))) (by first | omega | (simp; done) | (simp; omega) | (simp [go_sem]; done) | (simp [go_sem]; omega) | (simp [u16Cod]; omega)) (by first | omega | (simp; done) | (simp; omega) | (simp [go_sem]; done) | (simp [go_sem]; omega) | (simp [u16Cod]; omega)) (by first | (show _ ≤ _; first | omega | (simp; omega) | (simp [go_sem]; omega)) | (show _ ∨ _; right; first | omega | (simp; omega) | (simp [go_sem]; omega))) ?_; intro v' w1 ho1 hb1; have HO1 := Lib.hid ho1; have HB1 := Lib.hid hb1; clear ho1 hb1))
          go_roundw
          case rel => exact ⟨k + 1, by omega, by go_num, ((HB.out.grown _).alloc _).trans HB1.out, by rw [HE.out]; exact HO1.out, show _ = true by rw [HAS.out, hinv.out]; rfl⟩
          case measure => simp [intOf]; omega
      · obtain rfl : k = L.length := by omega
        have hall := hinv.out
        rw [List.take_length] at hall ho
        obtain ⟨rfl, rfl⟩ := HALL.out hall
        have HO2 := Lib.hid ho
        obtain ⟨a, c, rfl, hc, hli⟩ := ho.slice (B := w.heap.size) (fun _ h => Nat.le_trans hs0 h)
        clear hall hinv HO
        have HLI := Lib.hid hli
        go_wp2
        go_ret2
        exact ⟨a, c, by rw [List.length_map]; rfl, hc, HBE.out, HLI.out⟩
end

section
open Go Go.RowKit
set_option maxRecDepth 20000
set_option linter.unusedSimpArgs false
set_option linter.unusedVariables false

def cutF (l : List UInt8) : List UInt8 := if gapAt l = -1 then l else l.take (gapAt l).toNat
def cutB (l : List UInt8) : List UInt8 := if gapAt l = -1 then [] else l.drop ((gapAt l).toNat + 2)
def cutG (l : List UInt8) : Bool := !(gapAt l == -1)
theorem cut_eq (l : List UInt8) : Lib.cut l [58, 58] = (cutF l, cutB l, cutG l) := by
  have hge := Lib.index_ge l [58, 58]
  unfold Lib.cut cutF cutB cutG gapAt
  by_cases h : Lib.index l [58, 58] = -1
  · simp [h]
  · have h' : 0 ≤ Lib.index l [58, 58] := by omega
    simp [h, h']
theorem cut_none {l : List UInt8} (h : gapAt l = -1) : cutF l = l ∧ cutB l = [] ∧ cutG l = false := by simp [cutF, cutB, cutG, h]
theorem cut_some {l : List UInt8} (h : gapAt l ≠ -1) : cutF l = l.take (gapAt l).toNat ∧ cutB l = l.drop ((gapAt l).toNat + 2) ∧ cutG l = true := by simp [cutF, cutB, cutG, h]
theorem cut_any (l : List UInt8) (hl : l.length ≤ 4294967280) (m : Int) (w : World) (hm : HasMax m w) :
    Calls Tryz.prog 45 #[.string ⟨l.toArray⟩, .string ⟨[58, 58].toArray⟩] w fun e w' => e = .returned (.tuple #[.string ⟨(cutF l).toArray⟩, .string ⟨(cutB l).toArray⟩, .bool (cutG l)]) ∧ Below w.heap.size w w' := by
  refine (Tryz.strings_Cut ⟨l.toArray⟩ ⟨[58, 58].toArray⟩ m w (by simp [ByteArray.size]; omega) hm).mono fun e w' ⟨he, n, hw⟩ => ⟨?_, ?_⟩
  · rw [he]
    have := cut_eq l
    simp [this]
  · rw [hw]; exact below_drewN (Below.refl _ _) n
def v6Ok (l : List UInt8) : Bool := (v6L l).isSome
def v6G (l : List UInt8) : GGroups := match h : v6L l with
  | some g => ⟨g, v6L_length l g h⟩
  | none => zeroG
def v6A (l : List UInt8) : GAddr := if v6Ok l = true then fromG (v6G l) else zeroA
theorem v6_no {l : List UInt8} (h : v6L l = none) : v6Ok l = false ∧ v6A l = zeroA := by
  have : v6Ok l = false := by rw [v6Ok, h]; rfl
  exact ⟨this, by simp [v6A, this]⟩
theorem v6_yes {l : List UInt8} {g : List UInt16} (h : v6L l = some g) (hg : g.length = 8) : v6Ok l = true ∧ v6A l = fromG ⟨g, hg⟩ := by
  have h1 : v6Ok l = true := by rw [v6Ok, h]; rfl
  have h2 : v6G l = ⟨g, hg⟩ := by
    apply groups_ext
    unfold v6G
    split
    · rename_i g' h'
      rw [h] at h'; cases h'; rfl
    · rename_i h'
      rw [h] at h'; cases h'
  exact ⟨h1, by rw [v6A, if_pos h1, h2]⟩
theorem rowOk_some {x : List UInt8} (h : rowOk x = true) : rowL x = some (rowV x) := by
  unfold rowOk at h; unfold rowV
  cases hr : rowL x with
  | none => rw [hr] at h; cases h
  | some a => rfl
theorem rowOk_none {x : List UInt8} (h : rowOk x = false) : rowL x = none := by
  unfold rowOk at h
  cases hr : rowL x with
  | none => rfl
  | some a => rw [hr] at h; cases h
theorem v6_fail1 {l : List UInt8} (h : rowOk (cutF l) = false) : v6L l = none := by
  have h' := rowOk_none h
  unfold v6L cutF at *
  by_cases hg : gapAt l = -1
  · rw [if_pos hg] at h' ⊢; rw [h']
  · rw [if_neg hg] at h' ⊢; rw [h']
theorem v6_fail2 {l : List UInt8} (h : rowOk (cutB l) = false) : v6L l = none := by
  have h' := rowOk_none h
  unfold v6L cutB at *
  by_cases hg : gapAt l = -1
  · rw [if_pos hg] at h'; cases h'
  · rw [if_neg hg] at h' ⊢; rw [h']; cases rowL (l.take (gapAt l).toNat) <;> rfl
theorem v6_fail3 {l : List UInt8} (h1 : rowOk (cutF l) = true) (h2 : rowOk (cutB l) = true) (h : (cutG l = true ∧ 8 ≤ (rowV (cutF l)).length + (rowV (cutB l)).length) ∨ (cutG l = false ∧ (rowV (cutF l)).length + (rowV (cutB l)).length ≠ 8)) : v6L l = none := by
  have h1' := rowOk_some h1
  have h2' := rowOk_some h2
  unfold v6L cutF cutB cutG at *
  by_cases hg : gapAt l = -1
  · rw [if_pos hg] at *
    rcases h with ⟨hc, _⟩ | ⟨_, hn⟩
    · simp [hg] at hc
    · rw [if_pos hg] at hn
      rw [h1']
      have : rowV [] = [] := rfl
      rw [this] at hn
      simp at hn
      simp [hn]
  · rw [if_neg hg] at *
    rcases h with ⟨_, hn⟩ | ⟨hc, _⟩
    · rw [if_neg hg] at hn
      rw [h1', h2']
      simp
      omega
    · simp [hg] at hc
theorem v6_good {l : List UInt8} (h1 : rowOk (cutF l) = true) (h2 : rowOk (cutB l) = true) (h : (cutG l = true ∧ (rowV (cutF l)).length + (rowV (cutB l)).length ≤ 7) ∨ (cutG l = false ∧ (rowV (cutF l)).length + (rowV (cutB l)).length = 8)) :
    v6L l = some (rowV (cutF l) ++ List.replicate (8 - (rowV (cutF l)).length - (rowV (cutB l)).length) 0 ++ rowV (cutB l)) := by
  have h1' := rowOk_some h1
  have h2' := rowOk_some h2
  by_cases hg : gapAt l = -1
  · obtain ⟨eF, eB, eG⟩ := cut_none hg
    have e0 : rowV [] = [] := rfl
    rw [eF] at h h1' ⊢
    rw [eB, e0] at h ⊢
    rw [eG] at h
    rcases h with ⟨hc, _⟩ | ⟨_, hn⟩
    · cases hc
    · simp only [List.length_nil, Nat.add_zero] at hn
      rw [v6L, if_pos hg, h1']
      simp [hn]
  · obtain ⟨eF, eB, eG⟩ := cut_some hg
    rw [eF] at h1' h ⊢
    rw [eB] at h2' h ⊢
    rw [eG] at h
    rcases h with ⟨_, hn⟩ | ⟨hc, _⟩
    · rw [v6L, if_neg hg, h1', h2']
      simp only
      rw [if_pos hn]
    · cases hc
/-- The groups laid into eight, the front ones and the back ones. -/
theorem lay_groups (A B : List UInt16) (h : A.length + B.length ≤ 8) : splice (splice (List.replicate 8 (0 : UInt16)) 0 A) (8 - B.length) B = A ++ List.replicate (8 - A.length - B.length) 0 ++ B := by
  unfold splice
  simp only [List.take_zero, List.nil_append, Nat.zero_add, List.drop_replicate]
  rw [List.take_append, List.drop_append, List.take_of_length_le (by omega), List.drop_of_length_le (by omega), List.take_replicate, List.drop_replicate]
  have e1 : min (8 - B.length - A.length) (8 - A.length) = 8 - A.length - B.length := by omega
  have e2 : 8 - A.length - (8 - B.length + B.length - A.length) = 0 := by omega
  rw [e1, e2]
  simp
theorem encs_splice (L : List UInt16) (off : Nat) (cs : List UInt16) : splice (u16Cod.encs L) off (u16Cod.encs cs) = u16Cod.encs (splice L off cs) := by
  simp [splice, u16Encs, List.map_append, List.map_take, List.map_drop]
theorem cut_le (l : List UInt8) : (cutF l).length ≤ l.length ∧ (cutB l).length ≤ l.length := by
  unfold cutF cutB
  split
  · simp
  · rw [List.length_take, List.length_drop]; omega
theorem rowV_le (x : List UInt8) : (rowV x).length ≤ x.length + 1 := by
  unfold rowV rowL
  have := splitL_length_le 58 x
  split
  · simp
  · split
    · simpa using this
    · simp
theorem copy_src {α : Type} {c : Cod α} {w : World} {a : Option Addr} {xs : List α} {lo : Nat} (h : ListIn c w a xs lo) (h0 : 0 < (c.encs xs).length) : ∃ ad, a = some ad ∧ ∀ j v, (c.encs xs)[j]? = some v → w.cell? (ad.add j) = some v := by
  rcases h with rfl | ⟨b, o, rfl, _, _, h⟩
  · simp [Cod.encs] at h0
  · exact ⟨_, rfl, fun j v hj => by rw [add_mk]; exact h j v hj⟩
theorem ListIn.alloc {α : Type} {c : Cod α} {w : World} {a : Option Addr} {xs : List α} {lo : Nat} (h : ListIn c w a xs lo) (o : Obj) : ListIn c (w.alloc o) a xs lo := h.below ((Below.refl _ _).alloc (Nat.le_refl _) o)
/-- Where the last n of eight groups begin, as the walk spells it. -/
def lastAddr (b n : Nat) : Addr := if n = 0 then ⟨b, 0, none⟩ else ⟨b, 8 - n, none⟩
theorem last_slice (b n : Nat) (hn : n ≤ 8) (w : World) : (Instr.sliceAt 164 (.pointer (some ⟨b, 0, none⟩)) (some (.int .i64 (8 - (n : Int)))) none none).run Tryz.prog w = .ok (.slice (some (lastAddr b n)) n n) w := by
  have ht : Tryz.prog.underlying 164 = some (.array (Tryz.prog.arrayLen 164) (Tryz.prog.elem 164)) := by kernel_rfl
  have hl : Tryz.prog.arrayLen 164 = 8 := by kernel_rfl
  have he : Tryz.prog.elem 164 = 163 := by kernel_rfl
  have hs : ∀ w, (sizeOf 163).run Tryz.prog w = .ok 1 w := fun w => by kernel_rfl
  rw [run_sliceAt_array_l w _ _ ht .i64 _ (by omega) (by rw [hl]; omega), he, hs, hl]
  have e : (8 - (n : Int)).toNat = 8 - n := by omega
  show Result.ok (slicedAt _ _ 8 8 1) w = _
  rw [e, slicedAt]
  unfold lastAddr
  have e2 : 8 - (8 - n) = n := by omega
  by_cases h : n = 0
  · subst h; rfl
  · rw [if_neg (by omega), if_neg h, e2, add_mk]
    simp
theorem v6_split (l : List UInt8) : (rowOk (cutF l) = false) ∨ (rowOk (cutF l) = true ∧ rowOk (cutB l) = false) ∨
    (rowOk (cutF l) = true ∧ rowOk (cutB l) = true ∧ ((cutG l = true ∧ 8 ≤ (rowV (cutF l)).length + (rowV (cutB l)).length) ∨ (cutG l = false ∧ (rowV (cutF l)).length + (rowV (cutB l)).length ≠ 8))) ∨
    (rowOk (cutF l) = true ∧ rowOk (cutB l) = true ∧ ((cutG l = true ∧ (rowV (cutF l)).length + (rowV (cutB l)).length ≤ 7) ∨ (cutG l = false ∧ (rowV (cutF l)).length + (rowV (cutB l)).length = 8))) := by
  cases h1 : rowOk (cutF l)
  · exact .inl rfl
  · cases h2 : rowOk (cutB l)
    · exact .inr (.inl ⟨rfl, rfl⟩)
    · cases h3 : cutG l
      · by_cases h : (rowV (cutF l)).length + (rowV (cutB l)).length = 8
        · exact .inr (.inr (.inr ⟨rfl, rfl, .inr ⟨rfl, h⟩⟩))
        · exact .inr (.inr (.inl ⟨rfl, rfl, .inr ⟨rfl, h⟩⟩))
      · by_cases h : (rowV (cutF l)).length + (rowV (cutB l)).length ≤ 7
        · exact .inr (.inr (.inr ⟨rfl, rfl, .inl ⟨rfl, h⟩⟩))
        · exact .inr (.inr (.inl ⟨rfl, rfl, .inl ⟨rfl, by omega⟩⟩))
set_option maxHeartbeats 1000000 in
theorem v6_any (l : List UInt8) (hl : l.length ≤ 4294967280) (m : Int) (w : World) (hm : HasMax m w) :
    Calls Tryz.prog 119 #[.string ⟨l.toArray⟩] w fun e w' => e = .returned (.tuple #[.agg (addrC (v6A l)), .bool (v6Ok l)]) ∧ Below w.heap.size w w' := by
  have hcl := cut_le l
  have hla := rowV_le (cutF l)
  have hlb := rowV_le (cutB l)
  have HC : Hid (∀ w, HasMax m w → Calls Tryz.prog 45 #[.string ⟨l.toArray⟩, .string ⟨[58, 58].toArray⟩] w fun e w' => e = .returned (.tuple #[.string ⟨(cutF l).toArray⟩, .string ⟨(cutB l).toArray⟩, .bool (cutG l)]) ∧ Below w.heap.size w w') := fun w hm => cut_any l hl m w hm
  have HRF : Hid (∀ w, HasMax m w → Calls Tryz.prog 133 #[.string ⟨(cutF l).toArray⟩] w (Gives2 u16Cod (rowV (cutF l)) (rowOk (cutF l)) w)) := fun w hm => row_any _ (by omega) m w hm
  have HRB : Hid (∀ w, HasMax m w → Calls Tryz.prog 133 #[.string ⟨(cutB l).toArray⟩] w (Gives2 u16Cod (rowV (cutB l)) (rowOk (cutB l)) w)) := fun w hm => row_any _ (by omega) m w hm
  rcases v6_split l with h1 | ⟨h1, h2⟩ | ⟨h1, h2, h3⟩ | ⟨h1, h2, h3⟩
  · obtain ⟨e1, e2⟩ := v6_no (v6_fail1 h1)
    rw [e1, e2]
    rw [h1] at HRF
    clear e1 e2 h1
    generalize cutF l = F at *
    generalize cutB l = B at *
    generalize cutG l = G at *
    generalize rowV F = VF at *
    generalize rowV B = VB at *
    generalize rowOk B = okB at *
    go_enter Tryz.func119, Tryz.ntmps119
    go_wp2_with (first
      | (go_at_call 45; refine (HC.out _ (by repeat (first | exact hm | apply HasMax.grown | apply HasMax.alloc | apply HasMax.drew))).mono ?_; rintro e w1 ⟨rfl, hb1⟩; obtain ⟨p1, rfl⟩ := grown_of hb1; clear hb1)
      | (go_at_call 133; (with_reducible refine (HRF.out _ (by repeat (first | exact hm | apply HasMax.grown | apply HasMax.alloc | apply HasMax.drew))).mono ?_); intro e w1 hg; obtain ⟨a1, c1, rfl, hc1, hb1, hl1⟩ := hg; obtain ⟨p1, rfl⟩ := grown_of hb1; clear hb1)
      | (go_at_call 133; (with_reducible refine (HRB.out _ (by repeat (first | exact hm | apply HasMax.grown | apply HasMax.alloc | apply HasMax.drew))).mono ?_); intro e w1 hg; obtain ⟨a1, c1, rfl, hc1, hb1, hl1⟩ := hg; obtain ⟨p1, rfl⟩ := grown_of hb1; clear hb1))
    exact ret_cell_tmp w.heap.size (addrC zeroA) (.bool false) rfl rfl rfl agg_addr (by simp [go_sem]) (by simp [go_sem]) rfl ⟨rfl, below_setRow (by repeat (first | exact Below.refl _ _ | assumption | refine below_grown ?_ (by first | omega | (simp [go_sem]; done) | (simp [go_sem] <;> omega)) _ | refine Below.alloc ?_ (by first | omega | (simp [go_sem]; done) | (simp [go_sem] <;> omega)) _ | refine below_bytesW ?_ (by first | omega | (simp [go_sem]; done) | (simp [go_sem] <;> omega)) _ | refine Below.drew ?_ | refine below_drewN ?_ _)) (Nat.le_refl _) _⟩
  · obtain ⟨e1, e2⟩ := v6_no (v6_fail2 h2)
    rw [e1, e2]
    rw [h1] at HRF
    rw [h2] at HRB
    clear e1 e2 h1 h2
    generalize cutF l = F at *
    generalize cutB l = B at *
    generalize cutG l = G at *
    generalize rowV F = VF at *
    generalize rowV B = VB at *
    go_enter Tryz.func119, Tryz.ntmps119
    go_wp2_with (first
      | (go_at_call 45; refine (HC.out _ (by repeat (first | exact hm | apply HasMax.grown | apply HasMax.alloc | apply HasMax.drew))).mono ?_; rintro e w1 ⟨rfl, hb1⟩; obtain ⟨p1, rfl⟩ := grown_of hb1; clear hb1)
      | (go_at_call 133; (with_reducible refine (HRF.out _ (by repeat (first | exact hm | apply HasMax.grown | apply HasMax.alloc | apply HasMax.drew))).mono ?_); intro e w1 hg; obtain ⟨a1, c1, rfl, hc1, hb1, hl1⟩ := hg; obtain ⟨p1, rfl⟩ := grown_of hb1; clear hb1)
      | (go_at_call 133; (with_reducible refine (HRB.out _ (by repeat (first | exact hm | apply HasMax.grown | apply HasMax.alloc | apply HasMax.drew))).mono ?_); intro e w1 hg; obtain ⟨a1, c1, rfl, hc1, hb1, hl1⟩ := hg; obtain ⟨p1, rfl⟩ := grown_of hb1; clear hb1))
    exact ret_cell_tmp w.heap.size (addrC zeroA) (.bool false) rfl rfl rfl agg_addr (by simp [go_sem]) (by simp [go_sem]) rfl ⟨rfl, below_setRow (by repeat (first | exact Below.refl _ _ | assumption | refine below_grown ?_ (by first | omega | (simp [go_sem]; done) | (simp [go_sem] <;> omega)) _ | refine Below.alloc ?_ (by first | omega | (simp [go_sem]; done) | (simp [go_sem] <;> omega)) _ | refine below_bytesW ?_ (by first | omega | (simp [go_sem]; done) | (simp [go_sem] <;> omega)) _ | refine Below.drew ?_ | refine below_drewN ?_ _)) (Nat.le_refl _) _⟩
  · obtain ⟨e1, e2⟩ := v6_no (v6_fail3 h1 h2 h3)
    rw [e1, e2]
    rw [h1] at HRF
    rw [h2] at HRB
    clear e1 e2 h1 h2
    generalize cutF l = F at *
    generalize cutB l = B at *
    generalize cutG l = G at *
    generalize rowV F = VF at *
    generalize rowV B = VB at *
    rcases h3 with ⟨rfl, h3⟩ | ⟨rfl, h3⟩
    · go_enter Tryz.func119, Tryz.ntmps119
      go_wp2_with (first
        | (go_at_call 45; refine (HC.out _ (by repeat (first | exact hm | apply HasMax.grown | apply HasMax.alloc | apply HasMax.drew))).mono ?_; rintro e w1 ⟨rfl, hb1⟩; obtain ⟨p1, rfl⟩ := grown_of hb1; clear hb1)
        | (go_at_call 133; (with_reducible refine (HRF.out _ (by repeat (first | exact hm | apply HasMax.grown | apply HasMax.alloc | apply HasMax.drew))).mono ?_); intro e w1 hg; obtain ⟨a1, c1, rfl, hc1, hb1, hl1⟩ := hg; obtain ⟨p1, rfl⟩ := grown_of hb1; clear hb1)
        | (go_at_call 133; (with_reducible refine (HRB.out _ (by repeat (first | exact hm | apply HasMax.grown | apply HasMax.alloc | apply HasMax.drew))).mono ?_); intro e w1 hg; obtain ⟨a1, c1, rfl, hc1, hb1, hl1⟩ := hg; obtain ⟨p1, rfl⟩ := grown_of hb1; clear hb1))
      exact ret_cell_tmp w.heap.size (addrC zeroA) (.bool false) rfl rfl rfl agg_addr (by simp [go_sem]) (by simp [go_sem]) rfl ⟨rfl, below_setRow (by repeat (first | exact Below.refl _ _ | assumption | refine below_grown ?_ (by first | omega | (simp [go_sem]; done) | (simp [go_sem] <;> omega)) _ | refine Below.alloc ?_ (by first | omega | (simp [go_sem]; done) | (simp [go_sem] <;> omega)) _ | refine below_bytesW ?_ (by first | omega | (simp [go_sem]; done) | (simp [go_sem] <;> omega)) _ | refine Below.drew ?_ | refine below_drewN ?_ _)) (Nat.le_refl _) _⟩
    · have h3' : ((VF.length : Int) + (VB.length : Int) != 8) = true := by simp; omega
      clear h3
      go_enter Tryz.func119, Tryz.ntmps119
      go_wp2_with (first
        | (go_at_call 45; refine (HC.out _ (by repeat (first | exact hm | apply HasMax.grown | apply HasMax.alloc | apply HasMax.drew))).mono ?_; rintro e w1 ⟨rfl, hb1⟩; obtain ⟨p1, rfl⟩ := grown_of hb1; clear hb1)
        | (go_at_call 133; (with_reducible refine (HRF.out _ (by repeat (first | exact hm | apply HasMax.grown | apply HasMax.alloc | apply HasMax.drew))).mono ?_); intro e w1 hg; obtain ⟨a1, c1, rfl, hc1, hb1, hl1⟩ := hg; obtain ⟨p1, rfl⟩ := grown_of hb1; clear hb1)
        | (go_at_call 133; (with_reducible refine (HRB.out _ (by repeat (first | exact hm | apply HasMax.grown | apply HasMax.alloc | apply HasMax.drew))).mono ?_); intro e w1 hg; obtain ⟨a1, c1, rfl, hc1, hb1, hl1⟩ := hg; obtain ⟨p1, rfl⟩ := grown_of hb1; clear hb1))
      exact ret_cell_tmp w.heap.size (addrC zeroA) (.bool false) rfl rfl rfl agg_addr (by simp [go_sem]) (by simp [go_sem]) rfl ⟨rfl, below_setRow (by repeat (first | exact Below.refl _ _ | assumption | refine below_grown ?_ (by first | omega | (simp [go_sem]; done) | (simp [go_sem] <;> omega)) _ | refine Below.alloc ?_ (by first | omega | (simp [go_sem]; done) | (simp [go_sem] <;> omega)) _ | refine below_bytesW ?_ (by first | omega | (simp [go_sem]; done) | (simp [go_sem] <;> omega)) _ | refine Below.drew ?_ | refine below_drewN ?_ _)) (Nat.le_refl _) _⟩
  · have hv := v6_good h1 h2 h3
    have hl8 : (rowV (cutF l) ++ List.replicate (8 - (rowV (cutF l)).length - (rowV (cutB l)).length) 0 ++ rowV (cutB l)).length = 8 := by simp; omega
    obtain ⟨e1, e2⟩ := v6_yes hv hl8
    obtain ⟨G8, hG8, e3⟩ : ∃ G8 : GGroups, G8.g = rowV (cutF l) ++ List.replicate (8 - (rowV (cutF l)).length - (rowV (cutB l)).length) 0 ++ rowV (cutB l) ∧ v6A l = fromG G8 := ⟨⟨_, hl8⟩, rfl, e2⟩
    rw [e1, e3]
    rw [h1] at HRF
    rw [h2] at HRB
    clear e1 e2 e3 h1 h2 hv hl8
    have HLG := Lib.hid (lay_groups (rowV (cutF l)) (rowV (cutB l)) (by omega))
    generalize cutF l = F at *
    generalize cutB l = B at *
    generalize cutG l = G at *
    generalize rowV F = VF at *
    generalize rowV B = VB at *
    have hsum : VF.length + VB.length ≤ 8 := by omega
    have hvb : VB.length ≤ 8 := by omega
    have HGE : Hid (groupsL G8 = splice (splice (u16Cod.encs (List.replicate 8 0)) 0 (u16Cod.encs VF)) (8 - VB.length) (u16Cod.encs VB)) := by
      show u16Cod.encs G8.g = _
      rw [encs_splice, encs_splice, HLG.out, hG8]
    clear hG8
    have HSP : Hid ((splice (u16Cod.encs (List.replicate 8 0)) 0 (u16Cod.encs VF)).length = 8) := (length_splice _ 0 _ (by rw [u16Len, u16Len]; simp; omega)).trans (by rw [u16Len]; rfl)
    have hsl : ∀ (b : Nat) (w : World), (Instr.sliceAt 164 (.pointer (some ⟨b, 0, none⟩)) (some (.int .i64 (8 - (VB.length : Int)))) none none).run Tryz.prog w = .ok (.slice (some (lastAddr b VB.length)) VB.length VB.length) w := fun b w => last_slice b VB.length hvb w
    rcases h3 with ⟨rfl, h3⟩ | ⟨rfl, h3⟩
    · go_enter Tryz.func119, Tryz.ntmps119
      go_wp2_with (first
        | (go_at_call 45; refine (HC.out _ (by repeat (first | exact hm | apply HasMax.grown | apply HasMax.alloc | apply HasMax.drew))).mono ?_; rintro e w1 ⟨rfl, hb1⟩; obtain ⟨p1, rfl⟩ := grown_of hb1; clear hb1)
        | (go_at_call 133; (with_reducible refine (HRF.out _ (by repeat (first | exact hm | apply HasMax.grown | apply HasMax.alloc | apply HasMax.drew))).mono ?_); intro e w1 hg; obtain ⟨aF, cF, rfl, hcF, hb1, hlF⟩ := hg; have hbF := bel_up (w := w) (by repeat (first | exact Below.refl _ _ | assumption | refine below_grown ?_ (by first | omega | (simp [go_sem]; done) | (simp [go_sem] <;> omega)) _ | refine Below.alloc ?_ (by first | omega | (simp [go_sem]; done) | (simp [go_sem] <;> omega)) _ | refine below_bytesW ?_ (by first | omega | (simp [go_sem]; done) | (simp [go_sem] <;> omega)) _ | refine Below.drew ?_ | refine below_drewN ?_ _)) hb1; have hbFs := hbF.size; have hvr1 : Var w1 w.heap.size (u8Cod.encs (List.replicate 16 0)) := (Var.grown (Var.new _ _ _ rfl rfl) _).below hb1; clear hb1)
        | (go_at_call 133; (with_reducible refine (HRB.out _ (HasMax.below hm hbF)).mono ?_); intro e w2 hg; obtain ⟨aB, cB, rfl, hcB, hb2, hlB⟩ := hg; have hlF2 := hlF.below hb2; have hbB := bel_up (w := w) hbF hb2; have hbBs := hbB.size; have hvr2 := hvr1.below hb2; clear hb2)
        | (refine wpList_copy_splice rfl (.tmp 56) (.tmp 57) 160 160 rfl 163 Tryz.underlying160 (by kernel_rfl) _ aF 8 8 VF.length cF rfl rfl w2.heap.size 0 (u16Cod.encs (List.replicate 8 0)) 164 (by rw [heap_alloc_new]; rfl) (u16Cod.encs VF) (by rw [u16Len]; exact (Nat.min_eq_left (by omega)).symm) (fun h0 => ⟨rfl, copy_src (hlF2.alloc _) h0⟩) (by rw [u16Len, u16Len]; simp; omega) (u16Cod.encs_one VF) w2.heap.size w2 ((Below.refl _ _).alloc (Nat.le_refl _) _) (Nat.le_refl _) ?_; intro w3 hg3 hb3)
        | (refine wpList_copy_splice rfl (.tmp 62) (.tmp 63) 160 160 rfl 163 Tryz.underlying160 (by kernel_rfl) _ aB VB.length VB.length VB.length cB rfl rfl w2.heap.size (8 - VB.length) _ 164 hg3.out (u16Cod.encs VB) (by rw [u16Len]; exact (Nat.min_self _).symm) (fun h0 => ⟨by rw [lastAddr, if_neg (by rw [u16Len] at h0; omega)], copy_src (hlB.below hb3) h0⟩) (by rw [HSP.out, u16Len]; omega) (u16Cod.encs_one VB) w2.heap.size w2 hb3 (Nat.le_refl _) ?_; intro w4 hg4 hb4; have hv4 : Var w4 w2.heap.size (groupsL G8) := ⟨_, (by rw [HGE.out]; exact hg4.out)⟩; have hr4 := hv4.hasRow (groupsL_length _); have ha4 : rowAt w4 ⟨w2.heap.size, 0, none⟩ 8 = groupsC G8 := hv4.rowAt (groupsL_length _); have hres : hasVar w4 w.heap.size 16 = true := (hvr2.below hb4).has rfl; have ho4 : isOld w.heap.size w4 = true := isOld_iff.2 (hvr2.below hb4).lt; have hbw4 := bel_up hbB hb4; have hbw4s := hbw4.size; clear hv4 hg4)
        | (go_at_call 134; refine (from_any G8 _).mono ?_; rintro e w1 ⟨rfl, hb1⟩; obtain ⟨p1, rfl⟩ := grown_of hb1; clear hb1))
      exact ret_cell_tmp w.heap.size (addrC (fromG G8)) (.bool true) rfl rfl rfl agg_addr (by simp [go_sem, ho4, hres]) (by simp [go_sem, ho4, hres]) rfl ⟨by simp, below_setRow (by repeat (first | exact Below.refl _ _ | assumption | refine below_grown ?_ (by first | omega | (simp [go_sem]; done) | (simp [go_sem] <;> omega)) _ | refine Below.alloc ?_ (by first | omega | (simp [go_sem]; done) | (simp [go_sem] <;> omega)) _ | refine below_bytesW ?_ (by first | omega | (simp [go_sem]; done) | (simp [go_sem] <;> omega)) _ | refine Below.drew ?_ | refine below_drewN ?_ _)) (Nat.le_refl _) _⟩
    · have h3' : ((VF.length : Int) + (VB.length : Int) != 8) = false := by simp; omega
      clear h3
      go_enter Tryz.func119, Tryz.ntmps119
      go_wp2_with (first
        | (go_at_call 45; refine (HC.out _ (by repeat (first | exact hm | apply HasMax.grown | apply HasMax.alloc | apply HasMax.drew))).mono ?_; rintro e w1 ⟨rfl, hb1⟩; obtain ⟨p1, rfl⟩ := grown_of hb1; clear hb1)
        | (go_at_call 133; (with_reducible refine (HRF.out _ (by repeat (first | exact hm | apply HasMax.grown | apply HasMax.alloc | apply HasMax.drew))).mono ?_); intro e w1 hg; obtain ⟨aF, cF, rfl, hcF, hb1, hlF⟩ := hg; have hbF := bel_up (w := w) (by repeat (first | exact Below.refl _ _ | assumption | refine below_grown ?_ (by first | omega | (simp [go_sem]; done) | (simp [go_sem] <;> omega)) _ | refine Below.alloc ?_ (by first | omega | (simp [go_sem]; done) | (simp [go_sem] <;> omega)) _ | refine below_bytesW ?_ (by first | omega | (simp [go_sem]; done) | (simp [go_sem] <;> omega)) _ | refine Below.drew ?_ | refine below_drewN ?_ _)) hb1; have hbFs := hbF.size; have hvr1 : Var w1 w.heap.size (u8Cod.encs (List.replicate 16 0)) := (Var.grown (Var.new _ _ _ rfl rfl) _).below hb1; clear hb1)
        | (go_at_call 133; (with_reducible refine (HRB.out _ (HasMax.below hm hbF)).mono ?_); intro e w2 hg; obtain ⟨aB, cB, rfl, hcB, hb2, hlB⟩ := hg; have hlF2 := hlF.below hb2; have hbB := bel_up (w := w) hbF hb2; have hbBs := hbB.size; have hvr2 := hvr1.below hb2; clear hb2)
        | (refine wpList_copy_splice rfl (.tmp 56) (.tmp 57) 160 160 rfl 163 Tryz.underlying160 (by kernel_rfl) _ aF 8 8 VF.length cF rfl rfl w2.heap.size 0 (u16Cod.encs (List.replicate 8 0)) 164 (by rw [heap_alloc_new]; rfl) (u16Cod.encs VF) (by rw [u16Len]; exact (Nat.min_eq_left (by omega)).symm) (fun h0 => ⟨rfl, copy_src (hlF2.alloc _) h0⟩) (by rw [u16Len, u16Len]; simp; omega) (u16Cod.encs_one VF) w2.heap.size w2 ((Below.refl _ _).alloc (Nat.le_refl _) _) (Nat.le_refl _) ?_; intro w3 hg3 hb3)
        | (refine wpList_copy_splice rfl (.tmp 62) (.tmp 63) 160 160 rfl 163 Tryz.underlying160 (by kernel_rfl) _ aB VB.length VB.length VB.length cB rfl rfl w2.heap.size (8 - VB.length) _ 164 hg3.out (u16Cod.encs VB) (by rw [u16Len]; exact (Nat.min_self _).symm) (fun h0 => ⟨by rw [lastAddr, if_neg (by rw [u16Len] at h0; omega)], copy_src (hlB.below hb3) h0⟩) (by rw [HSP.out, u16Len]; omega) (u16Cod.encs_one VB) w2.heap.size w2 hb3 (Nat.le_refl _) ?_; intro w4 hg4 hb4; have hv4 : Var w4 w2.heap.size (groupsL G8) := ⟨_, (by rw [HGE.out]; exact hg4.out)⟩; have hr4 := hv4.hasRow (groupsL_length _); have ha4 : rowAt w4 ⟨w2.heap.size, 0, none⟩ 8 = groupsC G8 := hv4.rowAt (groupsL_length _); have hres : hasVar w4 w.heap.size 16 = true := (hvr2.below hb4).has rfl; have ho4 : isOld w.heap.size w4 = true := isOld_iff.2 (hvr2.below hb4).lt; have hbw4 := bel_up hbB hb4; have hbw4s := hbw4.size; clear hv4 hg4)
        | (go_at_call 134; refine (from_any G8 _).mono ?_; rintro e w1 ⟨rfl, hb1⟩; obtain ⟨p1, rfl⟩ := grown_of hb1; clear hb1))
      exact ret_cell_tmp w.heap.size (addrC (fromG G8)) (.bool true) rfl rfl rfl agg_addr (by simp [go_sem, ho4, hres]) (by simp [go_sem, ho4, hres]) rfl ⟨by simp, below_setRow (by repeat (first | exact Below.refl _ _ | assumption | refine below_grown ?_ (by first | omega | (simp [go_sem]; done) | (simp [go_sem] <;> omega)) _ | refine Below.alloc ?_ (by first | omega | (simp [go_sem]; done) | (simp [go_sem] <;> omega)) _ | refine below_bytesW ?_ (by first | omega | (simp [go_sem]; done) | (simp [go_sem] <;> omega)) _ | refine Below.drew ?_ | refine below_drewN ?_ _)) (Nat.le_refl _) _⟩
end

section
open Go Go.RowKit
set_option linter.unusedSimpArgs false
set_option linter.unusedVariables false

/-! ### four numbers -/
theorem numV_pos {l : List UInt8} (h : numOk l = true) : 0 ≤ numV l := by
  rw [num_yes h]
  have hd : digitsB l = true := by
    unfold numOk at h
    simp only [Bool.and_eq_true] at h
    exact h.1
  have := (dec_bd l l.length (Nat.le_refl _) (digits_all hd).2).1
  rwa [List.take_length] at this
def octB (x : List UInt8) : UInt8 := UInt8.ofNat (numV x).toNat
theorem octB_int {x : List UInt8} (h0 : 0 ≤ numV x) (h1 : numV x ≤ 255) : ((octB x).toNat : Int) = numV x := by
  have : (octB x).toNat = (numV x).toNat := by
    unfold octB
    rw [UInt8.toNat_ofNat']; omega
  rw [this]; omega
def octOk (x : List UInt8) : Bool := numOk x && decide (numV x ≤ 255)
theorem octOk_iff (x : List UInt8) : (numOk x = false ∧ octOk x = false) ∨ (numOk x = true ∧ 255 < numV x ∧ octOk x = false) ∨ (numOk x = true ∧ 0 ≤ numV x ∧ numV x ≤ 255 ∧ octOk x = true) := by
  cases h : numOk x
  · exact .inl ⟨rfl, by simp [octOk, h]⟩
  · by_cases h2 : numV x ≤ 255
    · exact .inr (.inr ⟨rfl, numV_pos h, h2, by simp [octOk, h, h2]⟩)
    · exact .inr (.inl ⟨rfl, by omega, by simp [octOk, h]; omega⟩)
theorem v4Ok_eq (s : List UInt8) : v4Ok s = ((splitL 46 s).length == 4 && (splitL 46 s).all octOk) := rfl
theorem v4B_length {s : List UInt8} (h : v4Ok s = true) : (v4B s).length = 16 := by
  rw [v4Ok_eq, Bool.and_eq_true, beq_iff_eq] at h
  simp [v4B, h.1]
def v4A (s : List UInt8) : GAddr := if h : v4Ok s = true then ⟨v4B s, v4B_length h⟩ else zeroA
theorem v4_no {s : List UInt8} (h : v4Ok s = false) : v4A s = zeroA := dif_neg (by rw [h]; decide)
theorem v4_yes {s : List UInt8} (h : v4Ok s = true) : (v4A s).b = v4B s := by rw [v4A, dif_pos h]
def v4To (L : List (List UInt8)) (k : Nat) : List UInt8 := List.replicate 12 0 ++ ((L.take k).map octB ++ List.replicate (4 - k) 0)
theorem v4To_zero (L : List (List UInt8)) : v4To L 0 = List.replicate 16 0 := rfl
theorem v4To_length {L : List (List UInt8)} (h : L.length = 4) {k : Nat} (hk : k ≤ 4) : (v4To L k).length = 16 := by
  simp [v4To]; omega
theorem v4To_succ {L : List (List UInt8)} (h : L.length = 4) {k : Nat} (hk : k < L.length) : v4To L (k + 1) = (v4To L k).set (12 + k) (octB (L[k]'hk)) := by
  match L, h with
  | [a, b, c, d], _ =>
    match k, hk with
    | 0, _ => rfl
    | 1, _ => rfl
    | 2, _ => rfl
    | 3, _ => rfl
theorem v4To_all {s : List UInt8} (h : (splitL 46 s).length = 4) : v4To (splitL 46 s) 4 = v4B s := by
  rw [v4To, v4B, ← h, List.take_length, h]
  simp
  intro a _; rfl
theorem all_take_oct (L : List (List UInt8)) (k : Nat) (h : k < L.length) : (L.take (k + 1)).all octOk = ((L.take k).all octOk && octOk (L[k]'h)) := by
  rw [List.take_succ_eq_append_getElem h, List.all_append]; simp
theorem v4_four {s : List UInt8} (h4 : (splitL 46 s).length ≠ 4) : v4Ok s = false := by
  rw [v4Ok_eq]; simp [h4]
theorem v4_bad {s : List UInt8} (p : List UInt8) (hp : p ∈ splitL 46 s) (h : octOk p = false) : v4Ok s = false := by
  rw [v4Ok_eq, Bool.and_eq_false_iff]
  right
  rw [List.all_eq_false]
  exact ⟨p, hp, by rw [h]; decide⟩
theorem v4_good {s : List UInt8} (h4 : (splitL 46 s).length = 4) (h : (splitL 46 s).all octOk = true) : v4Ok s = true := by
  rw [v4Ok_eq, h4, h]; rfl

/-! ### digits -/
theorem hexD_is (c : UInt8) : hexD c = if 48 ≤ c.toNat ∧ c.toNat ≤ 57 then (c.toNat : Int) - 48 else if 97 ≤ c.toNat ∧ c.toNat ≤ 102 then (c.toNat : Int) - 87 else if 65 ≤ c.toNat ∧ c.toNat ≤ 70 then (c.toNat : Int) - 55 else -1 := by
  have key : ∀ i : Fin 256, hexD (UInt8.ofNat i.val) = if 48 ≤ i.val ∧ i.val ≤ 57 then (i.val : Int) - 48 else if 97 ≤ i.val ∧ i.val ≤ 102 then (i.val : Int) - 87 else if 65 ≤ i.val ∧ i.val ≤ 70 then (i.val : Int) - 55 else -1 := by decide +kernel
  have := key ⟨c.toNat, c.toNat_lt⟩
  simpa using this
theorem hexD_cases (c : UInt8) : ((c.toNat : Int) < 48 ∧ hexD c = -1) ∨ ((48 : Int) ≤ c.toNat ∧ (c.toNat : Int) ≤ 57 ∧ hexD c = (c.toNat : Int) - 48) ∨ ((57 : Int) < c.toNat ∧ (c.toNat : Int) < 65 ∧ hexD c = -1) ∨
    ((65 : Int) ≤ c.toNat ∧ (c.toNat : Int) ≤ 70 ∧ hexD c = (c.toNat : Int) - 55) ∨ ((70 : Int) < c.toNat ∧ (c.toNat : Int) < 97 ∧ hexD c = -1) ∨ ((97 : Int) ≤ c.toNat ∧ (c.toNat : Int) ≤ 102 ∧ hexD c = (c.toNat : Int) - 87) ∨ ((102 : Int) < c.toNat ∧ hexD c = -1) := by
  have h := hexD_is c
  by_cases h1 : c.toNat < 48
  · rw [if_neg (by omega), if_neg (by omega), if_neg (by omega)] at h; exact .inl ⟨by omega, h⟩
  by_cases h2 : c.toNat ≤ 57
  · rw [if_pos (by omega)] at h; exact .inr (.inl ⟨by omega, by omega, h⟩)
  by_cases h3 : c.toNat < 65
  · rw [if_neg (by omega), if_neg (by omega), if_neg (by omega)] at h; exact .inr (.inr (.inl ⟨by omega, by omega, h⟩))
  by_cases h4 : c.toNat ≤ 70
  · rw [if_neg (by omega), if_neg (by omega), if_pos (by omega)] at h; exact .inr (.inr (.inr (.inl ⟨by omega, by omega, h⟩)))
  by_cases h5 : c.toNat < 97
  · rw [if_neg (by omega), if_neg (by omega), if_neg (by omega)] at h; exact .inr (.inr (.inr (.inr (.inl ⟨by omega, by omega, h⟩))))
  by_cases h6 : c.toNat ≤ 102
  · rw [if_neg (by omega), if_pos (by omega)] at h; exact .inr (.inr (.inr (.inr (.inr (.inl ⟨by omega, by omega, h⟩)))))
  · rw [if_neg (by omega), if_neg (by omega), if_neg (by omega)] at h; exact .inr (.inr (.inr (.inr (.inr (.inr ⟨by omega, h⟩)))))

/-! ### eight groups that all stand there -/
def eightOk (s : List UInt8) : Bool := (eightL s).isSome
def grpsOf (o : Option (List UInt16)) : GGroups := if h : (o.getD []).length = 8 then ⟨o.getD [], h⟩ else zeroG
def eightA (s : List UInt8) : GAddr := if eightOk s = true then fromG (grpsOf (eightL s)) else zeroA
theorem eight_no {s : List UInt8} (h : eightL s = none) : eightOk s = false ∧ eightA s = zeroA := by
  simp [eightOk, eightA, h]
theorem eight_len {s : List UInt8} {g : List UInt16} (h : eightL s = some g) : g.length = 8 := by
  unfold eightL at h
  split at h
  · rename_i h1
    cases h
    rw [List.length_map]; exact h1.1
  · cases h
theorem eight_yes {s : List UInt8} {g : List UInt16} (h : eightL s = some g) (hg : g.length = 8) : eightOk s = true ∧ eightA s = fromG ⟨g, hg⟩ := by
  have e : grpsOf (eightL s) = ⟨g, hg⟩ := by
    rw [grpsOf, h]
    exact dif_pos hg
  simp [eightOk, eightA, h, e] 
  rw [← h, e]
theorem eight_v6A {s t : List UInt8} (h1 : eightOk s = true) (h2 : v6L t = eightL s) : v6Ok t = true ∧ v6A t = eightA s := by
  obtain ⟨g, hg⟩ := Option.isSome_iff_exists.1 h1
  have hl := eight_len hg
  obtain ⟨a1, a2⟩ := eight_yes hg hl
  obtain ⟨b1, b2⟩ := v6_yes (h2.trans hg) hl
  exact ⟨b1, b2.trans a2.symm⟩
theorem eight_not8 {s : List UInt8} (h : (splitL 58 s).length ≠ 8) : eightL s = none := if_neg fun h' => h h'.1
theorem eight_badP {s : List UInt8} (p : List UInt8) (hp : p ∈ splitL 58 s) (h : grpOk p = false) : eightL s = none := if_neg fun h' => by
  rw [List.all_eq_true.1 h'.2 p hp] at h; cases h
theorem eight_good {s : List UInt8} (h8 : (splitL 58 s).length = 8) (h : (splitL 58 s).all grpOk = true) : eightL s = some ((splitL 58 s).map grpR) := by
  have e : (splitL 58 s).map grpR = (splitL 58 s).map grpV := List.map_congr_left fun x hx => grp_yes (List.all_eq_true.1 h x hx)
  rw [eightL, if_pos ⟨h8, h⟩, e]
/-! ### tries -/
theorem try_some {s : List UInt8} {i k : Nat} {g : List UInt16} (hc : ccAt s i) (h : eightL (frontT (s.take i) ++ zerosT k ++ backT (s.drop (i + 2))) = some g) : v6L s = some g := by
  apply v6_of_gap hc
  rw [tries] at h
  rw [v6At]
  split at h
  · rename_i a b ha hb
    split at h
    · rename_i h8
      cases h
      rw [if_pos (by omega), show 8 - a.length - b.length = k + 1 by omega]
    · cases h
  · cases h
theorem try_none {s : List UInt8} {i : Nat} (h : ∀ k, k < 8 → eightL (frontT (s.take i) ++ zerosT k ++ backT (s.drop (i + 2))) = none) : v6At s i = none := by
  rw [v6At]
  split
  · rename_i a b ha hb
    split
    · rename_i h7
      have := h (7 - a.length - b.length) (by omega)
      rw [tries, ha, hb] at this
      simp only [] at this
      rw [if_pos (by omega)] at this
      cases this
    · rfl
  · rfl
theorem cc_len {s : List UInt8} {i : Nat} (h : ccAt s i) : i + 2 ≤ s.length := by
  obtain ⟨y, hy⟩ := h
  have := congrArg List.length hy
  simp at this
  omega
theorem cc_at {s : List UInt8} {i : Nat} (h : i + 2 ≤ s.length) : ccAt s i ↔ s[i]'(by omega) = 58 ∧ s[i + 1]'(by omega) = 58 := by
  have e : s.drop i = s[i]'(by omega) :: s[i + 1]'(by omega) :: s.drop (i + 1 + 1) := by
    rw [List.drop_eq_getElem_cons (by omega), List.drop_eq_getElem_cons (by omega)]
  unfold ccAt
  rw [e]
  constructor
  · rintro ⟨y, hy⟩
    simp only [List.cons.injEq] at hy
    exact ⟨hy.1, hy.2.1⟩
  · rintro ⟨h1, h2⟩
    exact ⟨s.drop (i + 1 + 1), by rw [h1, h2]⟩
def NoTry (s : List UInt8) (k : Nat) : Prop := eightL s = none ∧ ∀ j, j < k → ccAt s j → v6At s j = none
theorem NoTry.skip {s : List UInt8} {k : Nat} (h : NoTry s k) (hc : ¬ ccAt s k) : NoTry s (k + 1) := ⟨h.1, fun j hj hcc => by
  by_cases e : j = k
  · subst e; exact absurd hcc hc
  · exact h.2 j (by omega) hcc⟩
theorem NoTry.next {s : List UInt8} {k : Nat} (h : NoTry s k) (hc : v6At s k = none) : NoTry s (k + 1) := ⟨h.1, fun j hj hcc => by
  by_cases e : j = k
  · subst e; exact hc
  · exact h.2 j (by omega) hcc⟩
theorem NoTry.done {s : List UInt8} {k : Nat} (h : NoTry s k) (hk : s.length < k + 2) : v6L s = none :=
  v6_none_of (fun hg => eight_none h.1 hg) fun j hj => h.2 j (by have := cc_len hj; omega) hj
end
end Go.Proofs.YtnkckejbkbbdlaaGreatDoor
