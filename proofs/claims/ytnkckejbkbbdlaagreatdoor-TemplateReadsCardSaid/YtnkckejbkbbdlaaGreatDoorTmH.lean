/- Merged: TplW, BuildS, TplParts, TplU, UrlWn, IdxAny, IdxAny2. -/
import Derived.Test.YtnkckejbkbbdlaaGreatDoorTmG
import Derived.Test.YtnkckejbkbbdlaaGreatDoorTmA
import Derived.Test.YtnkckejbkbbdlaaGreatDoorTmC
import Derived.IntWalk
import Derived.Test.YtnkckejbkbbdlaaGreatDoorTmE
import Derived.Stop.FmtQuoteTie
import Derived.Laws.RangeAny
import Derived.Scope
import Derived.WalkMore
import Derived.Lib.OthersKept
namespace Go.Proofs.YtnkckejbkbbdlaaGreatDoor
section
open Go Go.RowKit
set_option maxRecDepth 20000
set_option linter.unusedSimpArgs false
set_option linter.unusedVariables false

theorem nmC_cases (c : UInt8) : ((c.toNat : Int) < 48 ∧ nmC c = false) ∨ ((48 : Int) ≤ c.toNat ∧ (c.toNat : Int) ≤ 57 ∧ nmC c = true) ∨ ((57 : Int) < c.toNat ∧ (c.toNat : Int) < 97 ∧ nmC c = false) ∨ ((97 : Int) ≤ c.toNat ∧ (c.toNat : Int) ≤ 122 ∧ nmC c = true) ∨ ((122 : Int) < c.toNat ∧ nmC c = false) := by
  have key : ∀ i : Fin 256, ((i.val : Int) < 48 ∧ nmC (UInt8.ofNat i.val) = false) ∨ ((48 : Int) ≤ i.val ∧ (i.val : Int) ≤ 57 ∧ nmC (UInt8.ofNat i.val) = true) ∨ ((57 : Int) < i.val ∧ (i.val : Int) < 97 ∧ nmC (UInt8.ofNat i.val) = false) ∨ ((97 : Int) ≤ i.val ∧ (i.val : Int) ≤ 122 ∧ nmC (UInt8.ofNat i.val) = true) ∨ ((122 : Int) < i.val ∧ nmC (UInt8.ofNat i.val) = false) := by decide +kernel
  have := key ⟨c.toNat, c.toNat_lt⟩
  simpa using this
theorem nmNot_any (c : UInt8) (w : World) :
    Calls Tryz.prog 73 #[.int .u8 (c.toNat : Int)] w fun e w' => e = .returned (.bool (!nmC c)) ∧ w = w' := by
  rcases nmC_cases c with ⟨h1, hd⟩ | ⟨h1, h2, hd⟩ | ⟨h1, h2, hd⟩ | ⟨h1, h2, hd⟩ | ⟨h1, hd⟩
  all_goals
    rw [hd]
    clear hd
    go_enter Tryz.func73, Tryz.ntmps73
    go_wp2
    go_ret
    exact ⟨by first | rfl | exact ret_bool (by simp; omega), rfl⟩
theorem any_take_stepT {α : Type} (l : List α) (p : α → Bool) (k : Nat) (h : k < l.length) : (l.take (k + 1)).any p = ((l.take k).any p || p (l[k]'h)) := by
  rw [List.take_succ_eq_append_getElem h, List.any_append]; simp
theorem any_atT {α : Type} (l : List α) (p : α → Bool) (k : Nat) (h : k < l.length) (hp : p (l[k]'h) = true) : l.any p = true := List.any_eq_true.2 ⟨_, List.getElem_mem h, hp⟩
theorem indexN_any (l : List UInt8) (hl : l.length ≤ 9223372036854775807) (cap b : Nat) (w : World) (hb : bytesAt w ⟨b, 0, none⟩ l) :
    Calls Tryz.prog 92 #[.slice (some ⟨b, 0, none⟩) l.length cap, .func (.func 73) #[] #[]] w fun e w' => ∃ i : Int, -1 ≤ i ∧ (decide (0 ≤ i) = l.any (fun c => !nmC c)) ∧ e = .returned (.int .i64 i) ∧ w = w' := by
  have HBY := Lib.hid hb
  have HANY : Hid (∀ k (h : k < l.length), nmC (l[k]'h) = false → l.any (fun c => !nmC c) = true) := fun k h hp => any_atT l _ k h (by rw [hp]; rfl)
  have HEND : Hid ((l.take l.length).any (fun c => !nmC c) = l.any (fun c => !nmC c)) := show _ = _ by rw [List.take_length]
  generalize hA : l.any (fun c => !nmC c) = A at *
  go_enter Tryz.func92, Tryz.ntmps92
  go_wp2
  go_loop [8, 5] (fun i _ => ∃ k : Nat, k ≤ l.length ∧ i = .int .i64 k ∧ Hid ((l.take k).any (fun c => !nmC c) = false)) (fun i _ => l.length - (intOf i).toNat)
  case atStart => exact ⟨0, Nat.zero_le _, rfl, rfl⟩
  case round =>
    obtain ⟨k, hk, rfl, hinv⟩ := hrel
    by_cases hlt : k < l.length
    · have hcell := bytesAt_get HBY.out k hlt
      rw [Nat.zero_add] at hcell
      have HS := Lib.hid (any_take_stepT l (fun c => !nmC c) k hlt)
      have HB := Lib.hid (HANY.out k hlt)
      have HN := Lib.hid (nmNot_any (l[k]'hlt))
      generalize l[k]'hlt = c at *
      cases hc : nmC c
      · obtain rfl := HB.out hc
        rw [hc] at HN
        go_wp2_with (go_at_call 73; refine (HN.out _).mono ?_; intro e w' h; obtain ⟨rfl, h2⟩ := h; subst w')
        go_ret
        exact ⟨(k : Int), by omega, by simp, rfl, rfl⟩
      · rw [hc] at HN
        go_wp2_with (go_at_call 73; refine (HN.out _).mono ?_; intro e w' h; obtain ⟨rfl, h2⟩ := h; subst w')
        go_round
        case rel => exact ⟨k + 1, by omega, by go_num, show _ = false by rw [HS.out, hinv.out, hc]; rfl⟩
        case measure => simp [intOf]; omega
    · obtain rfl : k = l.length := by omega
      have hfin : A = false := by rw [← HEND.out]; exact hinv.out
      subst hfin
      go_wp2
      go_ret
      exact ⟨-1, by omega, by simp, rfl, rfl⟩
theorem containsN_any (l : List UInt8) (hl : l.length ≤ 9223372036854775807) (cap b : Nat) (w : World) (hb : bytesAt w ⟨b, 0, none⟩ l) :
    Calls Tryz.prog 72 #[.slice (some ⟨b, 0, none⟩) l.length cap, .func (.func 73) #[] #[]] w fun e w' => e = .returned (.bool (l.any (fun c => !nmC c))) ∧ w = w' := by
  have HI := Lib.hid (indexN_any l hl cap b w hb)
  generalize l.any (fun c => !nmC c) = A at *
  go_enter Tryz.func72, Tryz.ntmps72
  go_wp2_with (go_at_call 92; refine (HI.out).mono ?_; intro e w' h; obtain ⟨i, hi1, hi2, rfl, h2⟩ := h; subst w')
  go_ret
  exact ⟨by first | exact ret_bool hi2 | rfl, rfl⟩
set_option maxHeartbeats 400000 in
theorem nameT_any (l : List UInt8) (hl : l.length ≤ maxLen) (w : World) :
    Calls Tryz.prog 48 #[.string ⟨l.toArray⟩] w fun e w' => e = .returned (.bool (nameT l)) ∧ Below w.heap.size w w' := by
  unfold maxLen at hl
  have hall : l.all nmC = !l.any (fun c => !nmC c) := List.all_eq_not_any_not
  have HC := Lib.hid (fun cap b w hb => containsN_any l (by omega) cap b w hb)
  rw [nameT, hall]
  generalize l.any (fun c => !nmC c) = A at *
  clear hall
  cases he : l.isEmpty
  · by_cases h63 : (l.length : Int) ≤ 20
    · have hd : decide (l.length ≤ 20) = true := decide_eq_true (by omega)
      rw [hd]
      go_enter Tryz.func48, Tryz.ntmps48
      go_wp2_with (go_at_call 72; refine (HC.out _ _ _ (bytesAt_bytesW _ _)).mono ?_; intro e w' h; obtain ⟨rfl, h2⟩ := h; subst w')
      go_ret
      exact ⟨by simp, (by repeat (first | exact Below.refl _ _ | assumption | refine below_grown ?_ (by first | omega | (simp [go_sem]; done) | (simp [go_sem] <;> omega)) _ | refine Below.alloc ?_ (by first | omega | (simp [go_sem]; done) | (simp [go_sem] <;> omega)) _ | refine below_bytesW ?_ (by first | omega | (simp [go_sem]; done) | (simp [go_sem] <;> omega)) _ | refine Below.drew ?_ | refine below_drewN ?_ _))⟩
    · have hd : decide (l.length ≤ 20) = false := decide_eq_false (by omega)
      rw [hd]
      go_enter Tryz.func48, Tryz.ntmps48
      go_wp2
      go_ret
      exact ⟨by simp, (by repeat (first | exact Below.refl _ _ | assumption | refine below_grown ?_ (by first | omega | (simp [go_sem]; done) | (simp [go_sem] <;> omega)) _ | refine Below.alloc ?_ (by first | omega | (simp [go_sem]; done) | (simp [go_sem] <;> omega)) _ | refine below_bytesW ?_ (by first | omega | (simp [go_sem]; done) | (simp [go_sem] <;> omega)) _ | refine Below.drew ?_ | refine below_drewN ?_ _))⟩
  · go_enter Tryz.func48, Tryz.ntmps48
    go_wp2
    go_ret
    exact ⟨by simp, (by repeat (first | exact Below.refl _ _ | assumption | refine below_grown ?_ (by first | omega | (simp [go_sem]; done) | (simp [go_sem] <;> omega)) _ | refine Below.alloc ?_ (by first | omega | (simp [go_sem]; done) | (simp [go_sem] <;> omega)) _ | refine below_bytesW ?_ (by first | omega | (simp [go_sem]; done) | (simp [go_sem] <;> omega)) _ | refine Below.drew ?_ | refine below_drewN ?_ _))⟩
def rchAt (R : List RCh) (s : List UInt8) : Int := if R.any (fun r => r.name == s) = true then (R.findIdx (fun r => r.name == s) : Nat) else -1
theorem rchAt_yes {R : List RCh} {s : List UInt8} {k : Nat} (hk : k < R.length) (h : (R[k]'hk).name = s) (h0 : (R.take k).any (fun r => r.name == s) = false) : rchAt R s = (k : Nat) := by
  have hy : (fun r : RCh => r.name == s) (R[k]'hk) = true := by simp [h]
  unfold rchAt
  rw [if_pos (any_atT R (fun r => r.name == s) k hk hy)]
  congr 1
  rw [List.findIdx_eq hk]
  refine ⟨hy, fun j hj => ?_⟩
  rw [List.any_eq_false] at h0
  have hm : R[j]'(by omega) ∈ R.take k := by rw [List.mem_take_iff_getElem]; exact ⟨j, by omega, rfl⟩
  have := h0 _ hm
  simpa using this
theorem rchAt_no {R : List RCh} {s : List UInt8} (h0 : (R.take R.length).any (fun r => r.name == s) = false) : rchAt R s = -1 := by
  rw [List.take_length] at h0
  unfold rchAt
  rw [h0]; rfl
theorem rchAt_pos (R : List RCh) (s : List UInt8) : decide (0 ≤ rchAt R s) = R.any (fun r => r.name == s) := by
  unfold rchAt
  cases R.any (fun r => r.name == s)
  · rfl
  · simp
def gtpAt (R : List GTpl) (s : List UInt8) : Int := if R.any (fun r => r.name == s) = true then (R.findIdx (fun r => r.name == s) : Nat) else -1
theorem gtpAt_yes {R : List GTpl} {s : List UInt8} {k : Nat} (hk : k < R.length) (h : (R[k]'hk).name = s) (h0 : (R.take k).any (fun r => r.name == s) = false) : gtpAt R s = (k : Nat) := by
  have hy : (fun r : GTpl => r.name == s) (R[k]'hk) = true := by simp [h]
  unfold gtpAt
  rw [if_pos (any_atT R (fun r => r.name == s) k hk hy)]
  congr 1
  rw [List.findIdx_eq hk]
  refine ⟨hy, fun j hj => ?_⟩
  rw [List.any_eq_false] at h0
  have hm : R[j]'(by omega) ∈ R.take k := by rw [List.mem_take_iff_getElem]; exact ⟨j, by omega, rfl⟩
  have := h0 _ hm
  simpa using this
theorem gtpAt_no {R : List GTpl} {s : List UInt8} (h0 : (R.take R.length).any (fun r => r.name == s) = false) : gtpAt R s = -1 := by
  rw [List.take_length] at h0
  unfold gtpAt
  rw [h0]; rfl
theorem gtpAt_pos (R : List GTpl) (s : List UInt8) : decide (0 ≤ gtpAt R s) = R.any (fun r => r.name == s) := by
  unfold gtpAt
  cases R.any (fun r => r.name == s)
  · rfl
  · simp
theorem partsCl_any (r : RCh) (s : List UInt8) (b : Nat) (w : World) (hs : w.cell? ⟨b, 0, none⟩ = some (.string ⟨s.toArray⟩)) :
    Calls Tryz.prog 47 #[.agg (chV r), .pointer (some ⟨b, 0, none⟩)] w fun e w' => e = .returned (.bool (r.name == s)) ∧ Below w.heap.size w w' := by
  have hbo : isOld b w = true := isOld_iff.2 (block_lt_of_cell hs)
  generalize hE : (r.name == s) = q
  have hq : (r.name == s) = q := hE
  go_enter Tryz.func47, Tryz.ntmps47
  go_wp2
  go_ret
  exact ⟨by first | rfl | (simp [hq]; done), (by repeat (first | exact Below.refl _ _ | assumption | refine below_grown ?_ (by first | omega | (simp [go_sem]; done) | (simp [go_sem] <;> omega)) _ | refine Below.alloc ?_ (by first | omega | (simp [go_sem]; done) | (simp [go_sem] <;> omega)) _ | refine below_bytesW ?_ (by first | omega | (simp [go_sem]; done) | (simp [go_sem] <;> omega)) _ | refine Below.drew ?_ | refine below_drewN ?_ _))⟩
set_option maxHeartbeats 1000000 in
theorem partsIx_any (R : List RCh) (hl : R.length ≤ 100000) (a : Option Addr) (cap : Nat) (s : List UInt8) (b : Nat) (w : World) (hin : ListIn chCod w a R 0) (hs : w.cell? ⟨b, 0, none⟩ = some (.string ⟨s.toArray⟩)) :
    Calls Tryz.prog 46 #[.slice a R.length cap, .func (.func 47) #[] #[.pointer (some ⟨b, 0, none⟩)]] w fun e w' => e = .returned (.int .i64 (rchAt R s)) ∧ Below w.heap.size w w' := by
  have HIN := Lib.hid hin
  have hbl := block_lt_of_cell hs
  have HC : Hid (∀ w' r, Below w.heap.size w w' → Calls Tryz.prog 47 #[.agg (chV r), .pointer (some ⟨b, 0, none⟩)] w' fun e w'' => e = .returned (.bool (r.name == s)) ∧ Below w'.heap.size w' w'') := fun w' r hb => partsCl_any r s b w' (by rw [hb.cell (p := ⟨b, 0, none⟩) hbl]; exact hs)
  have HY : Hid (∀ (k : Nat) (hk : k < R.length), (R[k]'hk).name = s → (R.take k).any (fun r => r.name == s) = false → rchAt R s = (k : Nat)) := fun k hk h h0 => rchAt_yes hk h h0
  have HNO : Hid ((R.take R.length).any (fun r => r.name == s) = false → rchAt R s = -1) := fun h => rchAt_no h
  generalize rchAt R s = ans at *
  clear hin hs
  go_enter Tryz.func46, Tryz.ntmps46
  go_wp2
  go_loopw [8, 5] (fun i _ wr => ∃ k : Nat, k ≤ R.length ∧ i = .int .i64 k ∧ Hid ((R.take k).any (fun r => r.name == s) = false) ∧ Below w.heap.size w wr) (fun i _ _ => R.length - (intOf i).toNat)
  case atStart => exact ⟨0, Nat.zero_le _, rfl, rfl, Below.refl _ _⟩
  case round =>
    obtain ⟨k, hk, rfl, hinv, hbr⟩ := hrel
    have hsz := hbr.size
    by_cases hlt : k < R.length
    · obtain ⟨g, o, rfl, hlo, hhi, hat⟩ := HIN.out.resolve_left (fun h => by subst h; exact absurd hlt (Nat.not_lt_zero _))
      obtain ⟨r1, q1⟩ := chRow (hat.below hbr) k hlt
      have hio : isOld g wr = true := isOld_iff.2 (by omega)
      have HST := Lib.hid (any_take_stepT R (fun r => r.name == s) k hlt)
      have HYK := Lib.hid (HY.out k hlt)
      have HCK := Lib.hid (HC.out wr (R[k]'hlt) hbr)
      have hkk : (k : Int) < (R.length : Int) := by omega
      have HBR := Lib.hid hbr
      generalize R[k]'hlt = r at *
      clear hat hbr
      cases hc : (r.name == s)
      · rw [hc] at HCK
        go_wp2_with (go_at_call 47; (with_reducible refine HCK.out.mono ?_); rintro e w1 ⟨rfl, hb1⟩; obtain ⟨p1, rfl⟩ := grown_of hb1; clear hb1)
        go_roundw
        case rel => exact ⟨k + 1, by omega, by go_num, show _ = false by rw [HST.out, hinv.out, hc]; rfl, HBR.out.trans (Below.mono (B := wr.heap.size) (by repeat (first | exact Below.refl _ _ | assumption | refine below_grown ?_ (by first | omega | (simp [go_sem]; done) | (simp [go_sem] <;> omega)) _ | refine Below.alloc ?_ (by first | omega | (simp [go_sem]; done) | (simp [go_sem] <;> omega)) _ | refine below_bytesW ?_ (by first | omega | (simp [go_sem]; done) | (simp [go_sem] <;> omega)) _ | refine Below.drew ?_ | refine below_drewN ?_ _)) hsz)⟩
        case measure => simp [intOf]; omega
      · rw [hc] at HCK
        have HA := Lib.hid (HYK.out (by simpa using hc) hinv.out)
        go_wp2_with (go_at_call 47; (with_reducible refine HCK.out.mono ?_); rintro e w1 ⟨rfl, hb1⟩; obtain ⟨p1, rfl⟩ := grown_of hb1; clear hb1)
        go_ret
        exact ⟨by rw [HA.out]; rfl, HBR.out.trans (Below.mono (B := wr.heap.size) (by repeat (first | exact Below.refl _ _ | assumption | refine below_grown ?_ (by first | omega | (simp [go_sem]; done) | (simp [go_sem] <;> omega)) _ | refine Below.alloc ?_ (by first | omega | (simp [go_sem]; done) | (simp [go_sem] <;> omega)) _ | refine below_bytesW ?_ (by first | omega | (simp [go_sem]; done) | (simp [go_sem] <;> omega)) _ | refine Below.drew ?_ | refine below_drewN ?_ _)) hsz)⟩
    · obtain rfl : k = R.length := by omega
      have HA := Lib.hid (HNO.out hinv.out)
      go_wp2
      go_ret
      exact ⟨by rw [HA.out]; rfl, hbr⟩
theorem chNmCl_any (r : RCh) (s : List UInt8) (b : Nat) (w : World) (hs : w.cell? ⟨b, 0, none⟩ = some (.string ⟨s.toArray⟩)) :
    Calls Tryz.prog 58 #[.agg (chV r), .pointer (some ⟨b, 0, none⟩)] w fun e w' => e = .returned (.bool (r.name == s)) ∧ Below w.heap.size w w' := by
  have hbo : isOld b w = true := isOld_iff.2 (block_lt_of_cell hs)
  generalize hE : (r.name == s) = q
  have hq : (r.name == s) = q := hE
  go_enter Tryz.func58, Tryz.ntmps58
  go_wp2
  go_ret
  exact ⟨by first | rfl | (simp [hq]; done), (by repeat (first | exact Below.refl _ _ | assumption | refine below_grown ?_ (by first | omega | (simp [go_sem]; done) | (simp [go_sem] <;> omega)) _ | refine Below.alloc ?_ (by first | omega | (simp [go_sem]; done) | (simp [go_sem] <;> omega)) _ | refine below_bytesW ?_ (by first | omega | (simp [go_sem]; done) | (simp [go_sem] <;> omega)) _ | refine Below.drew ?_ | refine below_drewN ?_ _))⟩
set_option maxHeartbeats 1000000 in
theorem chNmIx_any (R : List RCh) (hl : R.length ≤ 100000) (a : Option Addr) (cap : Nat) (s : List UInt8) (b : Nat) (w : World) (hin : ListIn chCod w a R 0) (hs : w.cell? ⟨b, 0, none⟩ = some (.string ⟨s.toArray⟩)) :
    Calls Tryz.prog 46 #[.slice a R.length cap, .func (.func 58) #[] #[.pointer (some ⟨b, 0, none⟩)]] w fun e w' => e = .returned (.int .i64 (rchAt R s)) ∧ Below w.heap.size w w' := by
  have HIN := Lib.hid hin
  have hbl := block_lt_of_cell hs
  have HC : Hid (∀ w' r, Below w.heap.size w w' → Calls Tryz.prog 58 #[.agg (chV r), .pointer (some ⟨b, 0, none⟩)] w' fun e w'' => e = .returned (.bool (r.name == s)) ∧ Below w'.heap.size w' w'') := fun w' r hb => chNmCl_any r s b w' (by rw [hb.cell (p := ⟨b, 0, none⟩) hbl]; exact hs)
  have HY : Hid (∀ (k : Nat) (hk : k < R.length), (R[k]'hk).name = s → (R.take k).any (fun r => r.name == s) = false → rchAt R s = (k : Nat)) := fun k hk h h0 => rchAt_yes hk h h0
  have HNO : Hid ((R.take R.length).any (fun r => r.name == s) = false → rchAt R s = -1) := fun h => rchAt_no h
  generalize rchAt R s = ans at *
  clear hin hs
  go_enter Tryz.func46, Tryz.ntmps46
  go_wp2
  go_loopw [8, 5] (fun i _ wr => ∃ k : Nat, k ≤ R.length ∧ i = .int .i64 k ∧ Hid ((R.take k).any (fun r => r.name == s) = false) ∧ Below w.heap.size w wr) (fun i _ _ => R.length - (intOf i).toNat)
  case atStart => exact ⟨0, Nat.zero_le _, rfl, rfl, Below.refl _ _⟩
  case round =>
    obtain ⟨k, hk, rfl, hinv, hbr⟩ := hrel
    have hsz := hbr.size
    by_cases hlt : k < R.length
    · obtain ⟨g, o, rfl, hlo, hhi, hat⟩ := HIN.out.resolve_left (fun h => by subst h; exact absurd hlt (Nat.not_lt_zero _))
      obtain ⟨r1, q1⟩ := chRow (hat.below hbr) k hlt
      have hio : isOld g wr = true := isOld_iff.2 (by omega)
      have HST := Lib.hid (any_take_stepT R (fun r => r.name == s) k hlt)
      have HYK := Lib.hid (HY.out k hlt)
      have HCK := Lib.hid (HC.out wr (R[k]'hlt) hbr)
      have hkk : (k : Int) < (R.length : Int) := by omega
      have HBR := Lib.hid hbr
      generalize R[k]'hlt = r at *
      clear hat hbr
      cases hc : (r.name == s)
      · rw [hc] at HCK
        go_wp2_with (go_at_call 58; (with_reducible refine HCK.out.mono ?_); rintro e w1 ⟨rfl, hb1⟩; obtain ⟨p1, rfl⟩ := grown_of hb1; clear hb1)
        go_roundw
        case rel => exact ⟨k + 1, by omega, by go_num, show _ = false by rw [HST.out, hinv.out, hc]; rfl, HBR.out.trans (Below.mono (B := wr.heap.size) (by repeat (first | exact Below.refl _ _ | assumption | refine below_grown ?_ (by first | omega | (simp [go_sem]; done) | (simp [go_sem] <;> omega)) _ | refine Below.alloc ?_ (by first | omega | (simp [go_sem]; done) | (simp [go_sem] <;> omega)) _ | refine below_bytesW ?_ (by first | omega | (simp [go_sem]; done) | (simp [go_sem] <;> omega)) _ | refine Below.drew ?_ | refine below_drewN ?_ _)) hsz)⟩
        case measure => simp [intOf]; omega
      · rw [hc] at HCK
        have HA := Lib.hid (HYK.out (by simpa using hc) hinv.out)
        go_wp2_with (go_at_call 58; (with_reducible refine HCK.out.mono ?_); rintro e w1 ⟨rfl, hb1⟩; obtain ⟨p1, rfl⟩ := grown_of hb1; clear hb1)
        go_ret
        exact ⟨by rw [HA.out]; rfl, HBR.out.trans (Below.mono (B := wr.heap.size) (by repeat (first | exact Below.refl _ _ | assumption | refine below_grown ?_ (by first | omega | (simp [go_sem]; done) | (simp [go_sem] <;> omega)) _ | refine Below.alloc ?_ (by first | omega | (simp [go_sem]; done) | (simp [go_sem] <;> omega)) _ | refine below_bytesW ?_ (by first | omega | (simp [go_sem]; done) | (simp [go_sem] <;> omega)) _ | refine Below.drew ?_ | refine below_drewN ?_ _)) hsz)⟩
    · obtain rfl : k = R.length := by omega
      have HA := Lib.hid (HNO.out hinv.out)
      go_wp2
      go_ret
      exact ⟨by rw [HA.out]; rfl, hbr⟩
theorem chNmHas_any (R : List RCh) (hl : R.length ≤ 100000) (a : Option Addr) (cap : Nat) (s : List UInt8) (b : Nat) (w : World) (hin : ListIn chCod w a R 0) (hs : w.cell? ⟨b, 0, none⟩ = some (.string ⟨s.toArray⟩)) :
    Calls Tryz.prog 57 #[.slice a R.length cap, .func (.func 58) #[] #[.pointer (some ⟨b, 0, none⟩)]] w fun e w' => e = .returned (.bool (R.any (fun r => r.name == s))) ∧ Below w.heap.size w w' := by
  have HI := Lib.hid (chNmIx_any R hl a cap s b w hin hs)
  have HP := Lib.hid (rchAt_pos R s)
  generalize rchAt R s = i at *
  generalize R.any (fun r => r.name == s) = A at *
  clear hin hs
  go_enter Tryz.func57, Tryz.ntmps57
  go_wp2_with (go_at_call 46; (with_reducible refine HI.out.mono ?_); rintro e w1 ⟨rfl, hb1⟩; obtain ⟨p1, rfl⟩ := grown_of hb1; clear hb1)
  go_ret
  exact ⟨by first | exact ret_bool HP.out | (rw [HP.out]) , (by repeat (first | exact Below.refl _ _ | assumption | refine below_grown ?_ (by first | omega | (simp [go_sem]; done) | (simp [go_sem] <;> omega)) _ | refine Below.alloc ?_ (by first | omega | (simp [go_sem]; done) | (simp [go_sem] <;> omega)) _ | refine below_bytesW ?_ (by first | omega | (simp [go_sem]; done) | (simp [go_sem] <;> omega)) _ | refine Below.drew ?_ | refine below_drewN ?_ _))⟩
theorem ckNmCl_any (r : GTpl) (s : List UInt8) (b : Nat) (w : World) (hs : w.cell? ⟨b, 0, none⟩ = some (.string ⟨s.toArray⟩)) :
    Calls Tryz.prog 62 #[.agg (tpV r), .pointer (some ⟨b, 0, none⟩)] w fun e w' => e = .returned (.bool (r.name == s)) ∧ Below w.heap.size w w' := by
  have hbo : isOld b w = true := isOld_iff.2 (block_lt_of_cell hs)
  generalize hE : (r.name == s) = q
  have hq : (r.name == s) = q := hE
  go_enter Tryz.func62, Tryz.ntmps62
  go_wp2
  go_ret
  exact ⟨by first | rfl | (simp [hq]; done), (by repeat (first | exact Below.refl _ _ | assumption | refine below_grown ?_ (by first | omega | (simp [go_sem]; done) | (simp [go_sem] <;> omega)) _ | refine Below.alloc ?_ (by first | omega | (simp [go_sem]; done) | (simp [go_sem] <;> omega)) _ | refine below_bytesW ?_ (by first | omega | (simp [go_sem]; done) | (simp [go_sem] <;> omega)) _ | refine Below.drew ?_ | refine below_drewN ?_ _))⟩
set_option maxHeartbeats 1000000 in
theorem ckNmIx_any (R : List GTpl) (hl : R.length ≤ 100000) (a : Option Addr) (cap : Nat) (s : List UInt8) (b : Nat) (w : World) (hin : ListIn tpCod w a R 0) (hs : w.cell? ⟨b, 0, none⟩ = some (.string ⟨s.toArray⟩)) :
    Calls Tryz.prog 80 #[.slice a R.length cap, .func (.func 62) #[] #[.pointer (some ⟨b, 0, none⟩)]] w fun e w' => e = .returned (.int .i64 (gtpAt R s)) ∧ Below w.heap.size w w' := by
  have HIN := Lib.hid hin
  have hbl := block_lt_of_cell hs
  have HC : Hid (∀ w' r, Below w.heap.size w w' → Calls Tryz.prog 62 #[.agg (tpV r), .pointer (some ⟨b, 0, none⟩)] w' fun e w'' => e = .returned (.bool (r.name == s)) ∧ Below w'.heap.size w' w'') := fun w' r hb => ckNmCl_any r s b w' (by rw [hb.cell (p := ⟨b, 0, none⟩) hbl]; exact hs)
  have HY : Hid (∀ (k : Nat) (hk : k < R.length), (R[k]'hk).name = s → (R.take k).any (fun r => r.name == s) = false → gtpAt R s = (k : Nat)) := fun k hk h h0 => gtpAt_yes hk h h0
  have HNO : Hid ((R.take R.length).any (fun r => r.name == s) = false → gtpAt R s = -1) := fun h => gtpAt_no h
  generalize gtpAt R s = ans at *
  clear hin hs
  go_enter Tryz.func80, Tryz.ntmps80
  go_wp2
  go_loopw [8, 5] (fun i _ wr => ∃ k : Nat, k ≤ R.length ∧ i = .int .i64 k ∧ Hid ((R.take k).any (fun r => r.name == s) = false) ∧ Below w.heap.size w wr) (fun i _ _ => R.length - (intOf i).toNat)
  case atStart => exact ⟨0, Nat.zero_le _, rfl, rfl, Below.refl _ _⟩
  case round =>
    obtain ⟨k, hk, rfl, hinv, hbr⟩ := hrel
    have hsz := hbr.size
    by_cases hlt : k < R.length
    · obtain ⟨g, o, rfl, hlo, hhi, hat⟩ := HIN.out.resolve_left (fun h => by subst h; exact absurd hlt (Nat.not_lt_zero _))
      obtain ⟨r1, q1⟩ := tpRow (hat.below hbr) k hlt
      have hio : isOld g wr = true := isOld_iff.2 (by omega)
      have HST := Lib.hid (any_take_stepT R (fun r => r.name == s) k hlt)
      have HYK := Lib.hid (HY.out k hlt)
      have HCK := Lib.hid (HC.out wr (R[k]'hlt) hbr)
      have hkk : (k : Int) < (R.length : Int) := by omega
      have HBR := Lib.hid hbr
      generalize R[k]'hlt = r at *
      clear hat hbr
      cases hc : (r.name == s)
      · rw [hc] at HCK
        go_wp2_with (go_at_call 62; (with_reducible refine HCK.out.mono ?_); rintro e w1 ⟨rfl, hb1⟩; obtain ⟨p1, rfl⟩ := grown_of hb1; clear hb1)
        go_roundw
        case rel => exact ⟨k + 1, by omega, by go_num, show _ = false by rw [HST.out, hinv.out, hc]; rfl, HBR.out.trans (Below.mono (B := wr.heap.size) (by repeat (first | exact Below.refl _ _ | assumption | refine below_grown ?_ (by first | omega | (simp [go_sem]; done) | (simp [go_sem] <;> omega)) _ | refine Below.alloc ?_ (by first | omega | (simp [go_sem]; done) | (simp [go_sem] <;> omega)) _ | refine below_bytesW ?_ (by first | omega | (simp [go_sem]; done) | (simp [go_sem] <;> omega)) _ | refine Below.drew ?_ | refine below_drewN ?_ _)) hsz)⟩
        case measure => simp [intOf]; omega
      · rw [hc] at HCK
        have HA := Lib.hid (HYK.out (by simpa using hc) hinv.out)
        go_wp2_with (go_at_call 62; (with_reducible refine HCK.out.mono ?_); rintro e w1 ⟨rfl, hb1⟩; obtain ⟨p1, rfl⟩ := grown_of hb1; clear hb1)
        go_ret
        exact ⟨by rw [HA.out]; rfl, HBR.out.trans (Below.mono (B := wr.heap.size) (by repeat (first | exact Below.refl _ _ | assumption | refine below_grown ?_ (by first | omega | (simp [go_sem]; done) | (simp [go_sem] <;> omega)) _ | refine Below.alloc ?_ (by first | omega | (simp [go_sem]; done) | (simp [go_sem] <;> omega)) _ | refine below_bytesW ?_ (by first | omega | (simp [go_sem]; done) | (simp [go_sem] <;> omega)) _ | refine Below.drew ?_ | refine below_drewN ?_ _)) hsz)⟩
    · obtain rfl : k = R.length := by omega
      have HA := Lib.hid (HNO.out hinv.out)
      go_wp2
      go_ret
      exact ⟨by rw [HA.out]; rfl, hbr⟩
theorem ckNmHas_any (R : List GTpl) (hl : R.length ≤ 100000) (a : Option Addr) (cap : Nat) (s : List UInt8) (b : Nat) (w : World) (hin : ListIn tpCod w a R 0) (hs : w.cell? ⟨b, 0, none⟩ = some (.string ⟨s.toArray⟩)) :
    Calls Tryz.prog 61 #[.slice a R.length cap, .func (.func 62) #[] #[.pointer (some ⟨b, 0, none⟩)]] w fun e w' => e = .returned (.bool (R.any (fun r => r.name == s))) ∧ Below w.heap.size w w' := by
  have HI := Lib.hid (ckNmIx_any R hl a cap s b w hin hs)
  have HP := Lib.hid (gtpAt_pos R s)
  generalize gtpAt R s = i at *
  generalize R.any (fun r => r.name == s) = A at *
  clear hin hs
  go_enter Tryz.func61, Tryz.ntmps61
  go_wp2_with (go_at_call 80; (with_reducible refine HI.out.mono ?_); rintro e w1 ⟨rfl, hb1⟩; obtain ⟨p1, rfl⟩ := grown_of hb1; clear hb1)
  go_ret
  exact ⟨by first | exact ret_bool HP.out | (rw [HP.out]) , (by repeat (first | exact Below.refl _ _ | assumption | refine below_grown ?_ (by first | omega | (simp [go_sem]; done) | (simp [go_sem] <;> omega)) _ | refine Below.alloc ?_ (by first | omega | (simp [go_sem]; done) | (simp [go_sem] <;> omega)) _ | refine below_bytesW ?_ (by first | omega | (simp [go_sem]; done) | (simp [go_sem] <;> omega)) _ | refine Below.drew ?_ | refine below_drewN ?_ _))⟩
end

section
open Go Go.RowKit
set_option linter.unusedSimpArgs false
set_option linter.unusedVariables false

theorem foldl_sets : ∀ (l : List Value) (s : Nat) (z : Array Value), s + l.length = z.size → (l.zipIdx s).foldl (fun (cs : Array Value) (x : Value × Nat) => cs.setIfInBounds x.snd x.fst) z = (z.toList.take s ++ l).toArray
  | [], s, z, h => by
    have : z.toList.take s = z.toList := List.take_of_length_le (by simp at h; simp [h])
    simp [this]
  | v :: l, s, z, h => by
    have hs : s < z.size := by simp at h; omega
    have ih := foldl_sets l (s + 1) (z.setIfInBounds s v) (by simp at h ⊢; omega)
    rw [List.zipIdx_cons, List.foldl_cons, ih]
    have e : (z.setIfInBounds s v).toList.take (s + 1) = z.toList.take s ++ [v] := by
      rw [Array.toList_setIfInBounds, List.take_add_one, List.take_set_of_le (Nat.le_refl _)]
      simp [hs]
    rw [e, List.append_assoc]
    rfl
@[go_sem] theorem foldl_set (z c : Array Value) (k : Nat) (hz : z.size = c.size) (hk : k = c.size) : Array.foldl (fun (cs : Array Value) (x : Value × Nat) => cs.setIfInBounds x.snd x.fst) z c.zipIdx 0 k = c := by
  have h := foldl_sets c.toList 0 z (by simp [hz])
  subst hk
  have e : c.size = c.zipIdx.size := by simp
  rw [e, ← Array.foldl_toList, Array.toList_zipIdx, h]
  simp
end

section
open Go Go.RowKit
set_option maxRecDepth 20000
set_option linter.unusedSimpArgs false
set_option linter.unusedVariables false

theorem past_len (c : UInt8) (s : List UInt8) : (past c s).length ≤ s.length := (List.dropWhile_sublist _).length_le
theorem upTo_len (c : UInt8) (s : List UInt8) : (upTo c s).length ≤ s.length := (List.takeWhile_sublist _).length_le
theorem tail_len {α : Type} (s : List α) : s.tail.length = s.length - 1 := List.length_tail
theorem partsF_two (C : List GCh) : ∀ (n m : Nat) (s : List UInt8), s.length ≤ n → s.length ≤ m → partsF C n s = partsF C m s
  | 0, m, s, h1, h2 => by
    obtain rfl : s = [] := List.eq_nil_of_length_eq_zero (by omega)
    cases m with
    | zero => rfl
    | succ m => rw [partsF, partsF, if_pos rfl]
  | n + 1, 0, s, h1, h2 => by
    obtain rfl : s = [] := List.eq_nil_of_length_eq_zero (by omega)
    rw [partsF, partsF, if_pos rfl]
  | n + 1, m + 1, s, h1, h2 => by
    rw [partsF, partsF]
    by_cases h0 : s = []
    · rw [if_pos h0, if_pos h0]
    · rw [if_neg h0, if_neg h0]
      have hl : 0 < s.length := List.length_pos_iff.2 h0
      by_cases h3 : past 123 s = []
      · rw [if_pos h3, if_pos h3]
      · rw [if_neg h3, if_neg h3]
        have e1 := past_len 123 s
        have e2 := past_len 125 (past 123 s).tail
        have e3 := tail_len (past 123 s)
        have e4 := tail_len (past 125 (past 123 s).tail)
        rw [partsF_two C n m _ (by omega) (by omega)]
theorem partsT_nil (C : List GCh) : partsT C [] = some [] := rfl
theorem partsT_step (C : List GCh) (s : List UInt8) (h0 : s ≠ []) : partsT C s = if past 123 s = [] then some [(upTo 123 s, -1)]
    else if placeOk C (past 123 s).tail = true then (partsT C (past 125 (past 123 s).tail).tail).map (fun l => (upTo 123 s, -1) :: ([], (atC C (upTo 125 (past 123 s).tail) : Int)) :: l) else none := by
  have hl : 0 < s.length := List.length_pos_iff.2 h0
  obtain ⟨n, hn⟩ : ∃ n, s.length = n + 1 := ⟨s.length - 1, by omega⟩
  unfold partsT
  rw [hn, partsF, if_neg h0]
  by_cases h3 : past 123 s = []
  · rw [if_pos h3, if_pos h3]
  · rw [if_neg h3, if_neg h3]
    have e1 := past_len 123 s
    have e2 := past_len 125 (past 123 s).tail
    have e3 := tail_len (past 123 s)
    have e4 := tail_len (past 125 (past 123 s).tail)
    rw [partsF_two C n _ _ (by omega) (Nat.le_refl _)]
theorem index_one (c : UInt8) : ∀ s : List UInt8, (Lib.index s [c] = -1 ∧ past c s = [] ∧ upTo c s = s) ∨ (∃ i : Nat, Lib.index s [c] = i ∧ past c s = s.drop i ∧ upTo c s = s.take i ∧ i < s.length)
  | [] => .inl ⟨rfl, rfl, rfl⟩
  | b :: l => by
    by_cases hb : b = c
    · subst hb
      refine .inr ⟨0, ?_, ?_, ?_, by simp⟩
      · unfold Lib.index; simp
      · unfold past; simp
      · unfold upTo; simp
    · have hp : ([c].isPrefixOf (b :: l)) = false := by
        have : (c == b) = false := by rw [beq_eq_false_iff_ne]; exact fun h => hb h.symm
        simp [List.isPrefixOf, this]
      have hbc : (b == c) = false := by rw [beq_eq_false_iff_ne]; exact hb
      have e1 : past c (b :: l) = past c l := by unfold past; simp [List.dropWhile, hbc]
      have e2 : upTo c (b :: l) = b :: upTo c l := by unfold upTo; simp [List.takeWhile, hbc]
      rcases index_one c l with ⟨h1, h2, h3⟩ | ⟨i, h1, h2, h3, h4⟩
      · refine .inl ⟨?_, by rw [e1, h2], by rw [e2, h3]⟩
        unfold Lib.index
        rw [hp, h1]; rfl
      · refine .inr ⟨i + 1, ?_, by rw [e1, h2]; rfl, by rw [e2, h3]; rfl, by simp; omega⟩
        unfold Lib.index
        rw [hp, h1]
        have : ((i : Int) == -1) = false := by rw [beq_eq_false_iff_ne]; omega
        simp [this]
theorem cut_one (c : UInt8) (s : List UInt8) : Lib.cut s [c] = (upTo c s, (past c s).tail, !(past c s).isEmpty) := by
  unfold Lib.cut
  rcases index_one c s with ⟨h1, h2, h3⟩ | ⟨i, h1, h2, h3, h4⟩
  · rw [h1, if_neg (by omega), h2, h3]; rfl
  · rw [h1, if_pos (by omega), h2, h3]
    have hd : (s.drop i).isEmpty = false := by rw [List.isEmpty_eq_false_iff]; intro h; have := congrArg List.length h; simp at this; omega
    rw [hd]
    simp
theorem cutT_any (c : UInt8) (s : List UInt8) (hs : s.length ≤ 1000000) (m : Int) (w : World) (hm : HasMax m w) :
    Calls Tryz.prog 45 #[.string ⟨s.toArray⟩, .string ⟨#[c]⟩] w fun e w' => e = .returned (.tuple #[.string ⟨(upTo c s).toArray⟩, .string ⟨(past c s).tail.toArray⟩, .bool (!(past c s).isEmpty)]) ∧ Below w.heap.size w w' := by
  refine (Tryz.strings_Cut ⟨s.toArray⟩ ⟨#[c]⟩ m w (by simp [ByteArray.size]; omega) hm).mono ?_
  rintro e w' ⟨he, n, rfl⟩
  have hc : Lib.cut (ByteArray.mk s.toArray).data.toList (ByteArray.mk #[c]).data.toList = (upTo c s, (past c s).tail, !(past c s).isEmpty) := cut_one c s
  rw [hc] at he
  exact ⟨he, below_drewN (Below.refl _ _) n⟩
theorem part_new (w : World) (p : GPart) (t : TypeId) {b : Nat} (hb : b = w.heap.size) : ListAt partCod (w.alloc (.cells (ptVV p) t)) b 0 [p] :=
  listAt_new w _ _ _ (by show _ = ptR p ++ []; rw [List.append_nil]; rfl) hb
theorem at_names {R : List RCh} {C : List GCh} (h : R.map (·.name) = C.map (·.name)) (s : List UInt8) : (hasC C s = R.any (fun r => r.name == s)) ∧ atC C s = R.findIdx (fun r => r.name == s) := by
  have e1 : ∀ (L : List RCh), L.any (fun r => r.name == s) = (L.map (·.name)).any (fun x => x == s) := fun L => by rw [List.any_map]; rfl
  have e2 : ∀ (L : List GCh), L.any (fun r => r.name == s) = (L.map (·.name)).any (fun x => x == s) := fun L => by rw [List.any_map]; rfl
  have e3 : ∀ (L : List RCh), L.findIdx (fun r => r.name == s) = (L.map (·.name)).findIdx (fun x => x == s) := fun L => by rw [List.findIdx_map]; rfl
  have e4 : ∀ (L : List GCh), L.findIdx (fun r => r.name == s) = (L.map (·.name)).findIdx (fun x => x == s) := fun L => by rw [List.findIdx_map]; rfl
  unfold hasC atC
  rw [e1, e2, e3, e4, h]
  exact ⟨rfl, rfl⟩
theorem rchAt_eq {R : List RCh} {C : List GCh} (h : R.map (·.name) = C.map (·.name)) (s : List UInt8) : rchAt R s = if hasC C s = true then (atC C s : Int) else -1 := by
  obtain ⟨h1, h2⟩ := at_names h s
  unfold rchAt
  rw [h1, h2]
set_option maxRecDepth 100000 in
set_option maxHeartbeats 4000000 in
theorem tparts_any (C : List GCh) (R : List RCh) (hn : R.map (·.name) = C.map (·.name)) (hl : R.length ≤ 100000) (a : Option Addr) (cap : Nat) (s : List UInt8) (hs : s.length ≤ 100000) (m : Int) (w : World) (hm : HasMax m w) (hin : ListIn chCod w a R 0) :
    Calls Tryz.prog 22 #[.string ⟨s.toArray⟩, .slice a R.length cap] w (Gives2 partCod ((partsT C s).getD []) (partsT C s).isSome w) := by
  obtain ⟨RES, hres⟩ : ∃ RES, partsT C s = RES := ⟨_, rfl⟩
  have HRES := Lib.hid hres
  rw [hres]
  have HIN := Lib.hid hin
  have hmf : ∀ (fn : Fn) (first cap : Array Value) (w : World), (Instr.makeFunc fn first cap).run Tryz.prog w = .ok (.func fn first cap) w := fun _ _ _ _ => rfl
  have HCUT : Hid (∀ (c : UInt8) (x : List UInt8), x.length ≤ 1000000 → ∀ w', HasMax m w' → Calls Tryz.prog 45 #[.string ⟨x.toArray⟩, .string ⟨#[c]⟩] w' fun e w'' => e = .returned (.tuple #[.string ⟨(upTo c x).toArray⟩, .string ⟨(past c x).tail.toArray⟩, .bool (!(past c x).isEmpty)]) ∧ Below w'.heap.size w' w'') := fun c x h w' h' => cutT_any c x h m w' h'
  have HIX : Hid (∀ (x : List UInt8) (b : Nat) w', ListIn chCod w' a R 0 → w'.cell? ⟨b, 0, none⟩ = some (.string ⟨x.toArray⟩) → Calls Tryz.prog 46 #[.slice a R.length cap, .func (.func 47) #[] #[.pointer (some ⟨b, 0, none⟩)]] w' fun e w'' => e = .returned (.int .i64 (if hasC C x = true then (atC C x : Int) else -1)) ∧ Below w'.heap.size w' w'') := fun x b w' h1 h2 => by
    have := partsIx_any R hl a cap x b w' h1 h2
    rwa [rchAt_eq hn] at this
  have HNM : Hid (∀ (x : List UInt8), x.length ≤ maxLen → ∀ w', Calls Tryz.prog 48 #[.string ⟨x.toArray⟩] w' fun e w'' => e = .returned (.bool (nameT x)) ∧ Below w'.heap.size w' w'') := fun x h w' => nameT_any x h w'
  clear hres hin hn
  go_enter Tryz.func22, Tryz.ntmps22
  go_wp2_with fail
  go_loopw [0, 6] (fun s0 out wr => ∃ (r : List UInt8) (P : List GPart), s0 = .string ⟨r.toArray⟩ ∧ r.length ≤ s.length ∧ P.length + 2 * r.length ≤ 2 * s.length ∧ Own partCod (From w.heap.size) wr out P ∧ Below w.heap.size w wr ∧ Hid ((partsT C r).map (fun l => P ++ l) = RES)) (fun s0 _ _ => strLen s0)
  case atStart => exact ⟨s, [], rfl, Nat.le_refl _, by simp, Own.nil _ _, Below.refl _ _, by show _ = _; rw [← HRES.out]; simp⟩
  case round =>
    obtain ⟨r, P, rfl, hr, hP, ho, hb, hinv⟩ := hrel
    have hsz := hb.size
    have HB := Lib.hid hb
    have HO := Lib.hid ho
    clear ho hb
    by_cases h0 : r = []
    · subst h0
      have HE : Hid (RES = some P) := by show _ = _; rw [← hinv.out, partsT_nil]; simp
      obtain ⟨a9, c9, rfl, hc9, hl9⟩ := HO.out.slice (B := w.heap.size) (fun _ h => h)
      have HL9 := Lib.hid hl9
      clear hinv hl9
      go_wp2
      go_ret2
      rw [HE.out]
      exact ⟨a9, c9, rfl, hc9, HB.out, HL9.out⟩
    · have hem : r.isEmpty = false := by rw [List.isEmpty_eq_false_iff]; exact h0
      have hem2 : (r == []) = false := by rw [beq_eq_false_iff_ne]; exact h0
      have hst := partsT_step C r h0
      have hl0 : 0 < r.length := List.length_pos_iff.2 h0
      have e1 := past_len 123 r
      have e2 := past_len 125 (past 123 r).tail
      have e3 := tail_len (past 123 r)
      have e4 := tail_len (past 125 (past 123 r).tail)
      have e5 := upTo_len 125 (past 123 r).tail
      have hinv' := hinv.out
      rw [hst] at hinv'
      have HINV := Lib.hid hinv'
      clear hst hinv hinv' h0
      generalize hpl : upTo 123 r = pl at *
      have hmr := hm.below HB.out
      cases hpe : (past 123 r).isEmpty
      · have hpn : past 123 r ≠ [] := by rwa [List.isEmpty_eq_false_iff] at hpe
        have hINV2 := HINV.out
        rw [if_neg hpn] at hINV2
        have HINV2 := Lib.hid hINV2
        have hpl1 : 0 < (past 123 r).length := List.length_pos_iff.2 hpn
        have HC1 : Hid (∀ w', HasMax m w' → Calls Tryz.prog 45 #[.string ⟨r.toArray⟩, .string ⟨#[123]⟩] w' fun e w'' => e = .returned (.tuple #[.string ⟨pl.toArray⟩, .string ⟨(past 123 r).tail.toArray⟩, .bool true]) ∧ Below w'.heap.size w' w'') := fun w' h' => by
          have := HCUT.out 123 r (by omega) w' h'
          rw [hpl, hpe] at this
          exact this
        clear hINV2 HINV hpn hpe hpl
        generalize (past 123 r).tail = rest at *
        have HC2 := Lib.hid (fun w' h' => HCUT.out 125 rest (by omega) w' h')
        have HN2 := Lib.hid (HNM.out (upTo 125 rest) (by unfold maxLen; omega))
        have HI2 := Lib.hid (HIX.out (upTo 125 rest))
        go_upto_region 5 with (first
          | (go_at_call 45; (with_reducible refine (HC1.out _ ?_).mono ?_); (exact hmr); rintro e w1 ⟨rfl, hb1⟩; obtain ⟨p1, rfl⟩ := grown_of hb1; clear hb1)
          | (at_builtin; refine wpList_append_list rfl partCod (.tmp 22) (.tmp 25) 60 rfl rfl (From w.heap.size) _ _ (P) rfl (((HO.out.grown _).alloc _)) _ 0 _ _ [(pl, -1)] rfl rfl (part_new _ _ _ (by first | omega | (simp; done) | (simp; omega) | (simp [go_sem]; done) | (simp [go_sem]; omega))) (by first | omega | (simp; done) | (simp; omega) | (simp [go_sem]; done) | (simp [go_sem]; omega) | (simp [partCod]; omega)) (by first | omega | (simp; done) | (simp; omega) | (simp [go_sem]; done) | (simp [go_sem]; omega) | (simp [partCod]; omega)) (by first | (show _ ≤ _; first | omega | (simp; omega) | (simp [go_sem]; omega)) | (show _ ∨ _; right; first | omega | (simp; omega) | (simp [go_sem]; omega))) ?_; intro v' w1 ho1 hb1; have HO1 := Lib.hid ho1; have HB1 := Lib.hid hb1; clear ho1 hb1))
        obtain ⟨wv, hwv⟩ : ∃ wv, wv = w1 := ⟨w1, rfl⟩
        subst hwv
        have HB2 : Hid (Below w.heap.size w wv) := HB.out.trans ((((Keeps.of_below (Q := From w.heap.size) (below_grown' wr p1)).alloc _).trans HB1.out).below_from hsz)
        have hsz2 := HB2.out.size
        have hm2 := hm.below HB2.out
        have HIN2 := Lib.hid (HIN.out.below HB2.out)
        have HO2 := Lib.hid HO1.out
        clear HO1 HB1 HO HB hmr HIN
        cases hcl : (past 125 rest).isEmpty
        · rw [hcl] at HC2
          cases hnm : nameT (upTo 125 rest)
          · have HE : Hid (RES = none) := by
              show _ = _
              rw [← HINV2.out, if_neg (by unfold placeOk; rw [hcl, hnm]; simp)]; rfl
            rw [hnm] at HN2
            clear hcl hnm HINV2
            generalize upTo 125 rest = key at *
            generalize (past 125 rest).tail = behind at *
            go_wp2_with (first
              | (go_at_call 45; (with_reducible refine (HC2.out _ ?_).mono ?_); (exact by repeat (first | exact hm2 | apply HasMax.grown | apply HasMax.alloc)); rintro e w1 ⟨rfl, hb1⟩; obtain ⟨p1, rfl⟩ := grown_of hb1; clear hb1)
              | (go_at_call 46; (with_reducible refine (HI2.out _ _ (HIN2.out.below (by repeat (first | exact Below.refl _ _ | assumption | refine below_grown ?_ (by first | omega | (simp [go_sem]; done) | (simp [go_sem] <;> omega)) _ | refine Below.alloc ?_ (by first | omega | (simp [go_sem]; done) | (simp [go_sem] <;> omega)) _ | refine below_bytesW ?_ (by first | omega | (simp [go_sem]; done) | (simp [go_sem] <;> omega)) _ | refine Below.drew ?_ | refine below_drewN ?_ _))) (by simp [go_sem])).mono ?_); rintro e w1 ⟨rfl, hb1⟩; obtain ⟨p1, rfl⟩ := grown_of hb1; clear hb1)
              | (go_at_call 48; (with_reducible refine (HN2.out _).mono ?_); rintro e w1 ⟨rfl, hb1⟩; obtain ⟨p1, rfl⟩ := grown_of hb1; clear hb1))
            all_goals
              go_ret2
              rw [HE.out]
              exact ⟨none, 0, rfl, Nat.le_refl _, HB2.out.trans (Below.mono (B := wv.heap.size) (by repeat (first | exact Below.refl _ _ | assumption | refine below_grown ?_ (by first | omega | (simp [go_sem]; done) | (simp [go_sem] <;> omega)) _ | refine Below.alloc ?_ (by first | omega | (simp [go_sem]; done) | (simp [go_sem] <;> omega)) _ | refine below_bytesW ?_ (by first | omega | (simp [go_sem]; done) | (simp [go_sem] <;> omega)) _ | refine Below.drew ?_ | refine below_drewN ?_ _)) hsz2), .inl rfl⟩
          · rw [hnm] at HN2
            cases hhas : hasC C (upTo 125 rest)
            · have HE : Hid (RES = none) := by
                show _ = _
                rw [← HINV2.out, if_neg (by unfold placeOk; rw [hcl, hnm, hhas]; simp)]; rfl
              rw [hhas] at HI2
              clear hcl hnm hhas HINV2
              generalize upTo 125 rest = key at *
              generalize (past 125 rest).tail = behind at *
              go_wp2_with (first
                | (go_at_call 45; (with_reducible refine (HC2.out _ ?_).mono ?_); (exact by repeat (first | exact hm2 | apply HasMax.grown | apply HasMax.alloc)); rintro e w1 ⟨rfl, hb1⟩; obtain ⟨p1, rfl⟩ := grown_of hb1; clear hb1)
                | (go_at_call 46; (with_reducible refine (HI2.out _ _ (HIN2.out.below (by repeat (first | exact Below.refl _ _ | assumption | refine below_grown ?_ (by first | omega | (simp [go_sem]; done) | (simp [go_sem] <;> omega)) _ | refine Below.alloc ?_ (by first | omega | (simp [go_sem]; done) | (simp [go_sem] <;> omega)) _ | refine below_bytesW ?_ (by first | omega | (simp [go_sem]; done) | (simp [go_sem] <;> omega)) _ | refine Below.drew ?_ | refine below_drewN ?_ _))) (by simp [go_sem])).mono ?_); rintro e w1 ⟨rfl, hb1⟩; obtain ⟨p1, rfl⟩ := grown_of hb1; clear hb1)
                | (go_at_call 48; (with_reducible refine (HN2.out _).mono ?_); rintro e w1 ⟨rfl, hb1⟩; obtain ⟨p1, rfl⟩ := grown_of hb1; clear hb1))
              go_ret2
              rw [HE.out]
              exact ⟨none, 0, rfl, Nat.le_refl _, HB2.out.trans (Below.mono (B := wv.heap.size) (by repeat (first | exact Below.refl _ _ | assumption | refine below_grown ?_ (by first | omega | (simp [go_sem]; done) | (simp [go_sem] <;> omega)) _ | refine Below.alloc ?_ (by first | omega | (simp [go_sem]; done) | (simp [go_sem] <;> omega)) _ | refine below_bytesW ?_ (by first | omega | (simp [go_sem]; done) | (simp [go_sem] <;> omega)) _ | refine Below.drew ?_ | refine below_drewN ?_ _)) hsz2), .inl rfl⟩
            · have HE : Hid ((partsT C (past 125 rest).tail).map (fun l => P ++ (pl, -1) :: ([], (atC C (upTo 125 rest) : Int)) :: l) = RES) := by
                show _ = _
                rw [← HINV2.out, if_pos (by unfold placeOk; rw [hcl, hnm, hhas]; rfl), Option.map_map]; rfl
              rw [hhas] at HI2
              clear hcl hnm hhas HINV2
              generalize upTo 125 rest = key at *
              generalize (past 125 rest).tail = behind at *
              have HI3 : Hid (∀ (b : Nat) w', ListIn chCod w' a R 0 → w'.cell? ⟨b, 0, none⟩ = some (.string ⟨key.toArray⟩) → Calls Tryz.prog 46 #[.slice a R.length cap, .func (.func 47) #[] #[.pointer (some ⟨b, 0, none⟩)]] w' fun e w'' => e = .returned (.int .i64 (atC C key : Int)) ∧ Below w'.heap.size w' w'') := HI2.out
              have hat : ¬ ((atC C key : Int) < 0) := by omega
              generalize atC C key = at9 at *
              have HE' : Hid ((partsT C behind).map (fun l => (P ++ [(pl, -1)]) ++ [(([] : List UInt8), (at9 : Int))] ++ l) = RES) := by
                show _ = _
                rw [← HE.out]
                congr 1
                funext l
                simp
              clear HE
              go_wp2_with (first
                | (go_at_call 45; (with_reducible refine (HC2.out _ ?_).mono ?_); (exact by repeat (first | exact hm2 | apply HasMax.grown | apply HasMax.alloc)); rintro e w1 ⟨rfl, hb1⟩; obtain ⟨p1, rfl⟩ := grown_of hb1; clear hb1)
                | (go_at_call 46; (with_reducible refine (HI3.out _ _ (HIN2.out.below (by repeat (first | exact Below.refl _ _ | assumption | refine below_grown ?_ (by first | omega | (simp [go_sem]; done) | (simp [go_sem] <;> omega)) _ | refine Below.alloc ?_ (by first | omega | (simp [go_sem]; done) | (simp [go_sem] <;> omega)) _ | refine below_bytesW ?_ (by first | omega | (simp [go_sem]; done) | (simp [go_sem] <;> omega)) _ | refine Below.drew ?_ | refine below_drewN ?_ _))) (by simp [go_sem])).mono ?_); rintro e w1 ⟨rfl, hb1⟩; obtain ⟨p1, rfl⟩ := grown_of hb1; clear hb1)
                | (go_at_call 48; (with_reducible refine (HN2.out _).mono ?_); rintro e w1 ⟨rfl, hb1⟩; obtain ⟨p1, rfl⟩ := grown_of hb1; clear hb1)
                | (at_builtin; refine wpList_append_list rfl partCod (.tmp 49) (.tmp 52) 60 rfl rfl (From w.heap.size) _ _ ((P ++ [(pl, -1)])) rfl ((((((HO2.out.grown _).alloc _).grown _).grown _).alloc _)) _ 0 _ _ [([], (at9 : Int))] rfl rfl (part_new _ _ _ (by first | omega | (simp; done) | (simp; omega) | (simp [go_sem]; done) | (simp [go_sem]; omega))) (by first | omega | (simp; done) | (simp; omega) | (simp [go_sem]; done) | (simp [go_sem]; omega) | (simp [partCod]; omega)) (by first | omega | (simp; done) | (simp; omega) | (simp [go_sem]; done) | (simp [go_sem]; omega) | (simp [partCod]; omega)) (by first | (show _ ≤ _; first | omega | (simp; omega) | (simp [go_sem]; omega)) | (show _ ∨ _; right; first | omega | (simp; omega) | (simp [go_sem]; omega))) ?_; intro v' w1 ho1 hb1; have HO1 := Lib.hid ho1; have HB1 := Lib.hid hb1; clear ho1 hb1))
              go_roundw
              case rel =>
                refine ⟨behind, (P ++ [(pl, -1)]) ++ [([], (at9 : Int))], rfl, by omega, by simp; omega, HO1.out, ?_, HE'.out⟩
                exact HB2.out.trans ((((Keeps.of_below (Q := From w.heap.size) (w := wv) (by repeat (first | exact Below.refl _ _ | assumption | refine below_grown ?_ (by first | omega | (simp [go_sem]; done) | (simp [go_sem] <;> omega)) _ | refine Below.alloc ?_ (by first | omega | (simp [go_sem]; done) | (simp [go_sem] <;> omega)) _ | refine below_bytesW ?_ (by first | omega | (simp [go_sem]; done) | (simp [go_sem] <;> omega)) _ | refine Below.drew ?_ | refine below_drewN ?_ _))).trans HB1.out).below_from hsz2))
              case measure => simp [strLen, ByteArray.size]; omega
        · have HE : Hid (RES = none) := by
            show _ = _
            rw [← HINV2.out, if_neg (by unfold placeOk; rw [hcl]; simp)]; rfl
          rw [hcl] at HC2
          clear hcl HINV2
          generalize upTo 125 rest = key at *
          generalize (past 125 rest).tail = behind at *
          go_wp2_with (first
            | (go_at_call 45; (with_reducible refine (HC2.out _ ?_).mono ?_); (exact by repeat (first | exact hm2 | apply HasMax.grown | apply HasMax.alloc)); rintro e w1 ⟨rfl, hb1⟩; obtain ⟨p1, rfl⟩ := grown_of hb1; clear hb1)
            | (go_at_call 46; (with_reducible refine (HI2.out _ _ (HIN2.out.below (by repeat (first | exact Below.refl _ _ | assumption | refine below_grown ?_ (by first | omega | (simp [go_sem]; done) | (simp [go_sem] <;> omega)) _ | refine Below.alloc ?_ (by first | omega | (simp [go_sem]; done) | (simp [go_sem] <;> omega)) _ | refine below_bytesW ?_ (by first | omega | (simp [go_sem]; done) | (simp [go_sem] <;> omega)) _ | refine Below.drew ?_ | refine below_drewN ?_ _))) (by simp [go_sem])).mono ?_); rintro e w1 ⟨rfl, hb1⟩; obtain ⟨p1, rfl⟩ := grown_of hb1; clear hb1))
          all_goals
            go_ret2
            rw [HE.out]
            exact ⟨none, 0, rfl, Nat.le_refl _, HB2.out.trans (Below.mono (B := wv.heap.size) (by repeat (first | exact Below.refl _ _ | assumption | refine below_grown ?_ (by first | omega | (simp [go_sem]; done) | (simp [go_sem] <;> omega)) _ | refine Below.alloc ?_ (by first | omega | (simp [go_sem]; done) | (simp [go_sem] <;> omega)) _ | refine below_bytesW ?_ (by first | omega | (simp [go_sem]; done) | (simp [go_sem] <;> omega)) _ | refine Below.drew ?_ | refine below_drewN ?_ _)) hsz2), .inl rfl⟩
      · have hpn : past 123 r = [] := by rwa [List.isEmpty_iff] at hpe
        have HE : Hid (RES = some (P ++ [(pl, -1)])) := by
          show _ = _
          rw [← HINV.out, if_pos hpn]; rfl
        have HC1 : Hid (∀ w', HasMax m w' → Calls Tryz.prog 45 #[.string ⟨r.toArray⟩, .string ⟨#[123]⟩] w' fun e w'' => e = .returned (.tuple #[.string ⟨pl.toArray⟩, .string ⟨(past 123 r).tail.toArray⟩, .bool false]) ∧ Below w'.heap.size w' w'') := fun w' h' => by
          have := HCUT.out 123 r (by omega) w' h'
          rw [hpl, hpe] at this
          exact this
        clear HINV hpe
        generalize (past 123 r).tail = rest at *
        go_wp2_with (first
          | (go_at_call 45; (with_reducible refine (HC1.out _ ?_).mono ?_); (exact hmr); rintro e w1 ⟨rfl, hb1⟩; obtain ⟨p1, rfl⟩ := grown_of hb1; clear hb1)
          | (at_builtin; refine wpList_append_list rfl partCod (.tmp 22) (.tmp 25) 60 rfl rfl (From w.heap.size) _ _ (P) rfl (((HO.out.grown _).alloc _)) _ 0 _ _ [(pl, -1)] rfl rfl (part_new _ _ _ (by first | omega | (simp; done) | (simp; omega) | (simp [go_sem]; done) | (simp [go_sem]; omega))) (by first | omega | (simp; done) | (simp; omega) | (simp [go_sem]; done) | (simp [go_sem]; omega) | (simp [partCod]; omega)) (by first | omega | (simp; done) | (simp; omega) | (simp [go_sem]; done) | (simp [go_sem]; omega) | (simp [partCod]; omega)) (by first | (show _ ≤ _; first | omega | (simp; omega) | (simp [go_sem]; omega)) | (show _ ∨ _; right; first | omega | (simp; omega) | (simp [go_sem]; omega))) ?_; intro v' w1 ho1 hb1; have HO1 := Lib.hid ho1; have HB1 := Lib.hid hb1; clear ho1 hb1))
        have HB2 : Hid (Below w.heap.size w w1) := HB.out.trans ((((Keeps.of_below (Q := From w.heap.size) (below_grown' wr p1)).alloc _).trans HB1.out).below_from hsz)
        obtain ⟨a9, c9, rfl, hc9, hl9⟩ := HO1.out.slice (B := w.heap.size) (fun _ h => h)
        have HL9 := Lib.hid hl9
        clear hl9
        go_ret2
        rw [HE.out]
        exact ⟨a9, c9, rfl, hc9, HB2.out, HL9.out⟩
end

section
open Go Go.RowKit
set_option maxRecDepth 20000
set_option linter.unusedSimpArgs false
set_option linter.unusedVariables false

theorem nat_one : ∀ (x : Nat), ∀ v ∈ [Value.int .i64 (x : Int)], v.oneCell' = true := by
  intro x v hv
  simp only [List.mem_singleton] at hv
  subst hv; rfl
def natCod : Cod Nat where
  E := 3
  S := 63
  sz := 1
  bys := 8
  z := .int .i64 0
  enc := fun x => [.int .i64 (x : Int)]
  und := by kernel_rfl
  info := by kernel_rfl
  zsz := rfl
  pos := by decide
  len := fun _ => rfl
  one := nat_one
theorem natAt {w : World} {b o : Nat} {xs : List Nat} (h : ListAt natCod w b o xs) (i : Nat) (hi : i < xs.length) : w.cell? ⟨b, o + i, none⟩ = some (.int .i64 ((xs[i]'hi : Nat) : Int)) := by
  have := h.get i hi 0 _ rfl
  rwa [show o + (i * natCod.sz + 0) = o + i by show o + (i * 1 + 0) = _; omega] at this
theorem nat_new (w : World) (x : Nat) (t : TypeId) {b : Nat} (hb : b = w.heap.size) : ListAt natCod (w.alloc (.cells #[.int .i64 (x : Int)] t)) b 0 [x] := listAt_new w _ _ _ rfl hb
theorem hasNat_any (xs : List Nat) (hl : xs.length ≤ 1000000) (a : Option Addr) (cap : Nat) (x : Nat) (w : World) (h : ListIn natCod w a xs 0) :
    Calls Tryz.prog 49 #[.slice a xs.length cap, .int .i64 (x : Int)] w fun e w' => e = .returned (.bool (decide (x ∈ xs))) ∧ w' = w := by
  rcases h with rfl | ⟨b, o, rfl, _, _, hat⟩
  · have := Tryz.slices_Contains_int_empty a cap (x : Int) w
    simpa using this
  · have := Tryz.slices_Contains_int b o xs.length cap (xs.map (fun n : Nat => (n : Int))) (x : Int) w (by simp) (by omega) (fun j hj => by
      rw [List.length_map] at hj
      rw [natAt hat j hj, List.getD_eq_getElem?_getD, List.getElem?_map, List.getElem?_eq_getElem hj]; rfl)
    have e : (((xs.map (fun n : Nat => (n : Int))).take xs.length).contains (x : Int)) = decide (x ∈ xs) := by
      rw [List.take_of_length_le (by simp), Bool.eq_iff_iff]
      simp only [List.contains_iff_mem, List.mem_map, decide_eq_true_eq]
      constructor
      · rintro ⟨y, h1, h2⟩
        obtain rfl : y = x := by omega
        exact h1
      · exact fun h => ⟨x, h, rfl⟩
    rwa [e] at this
theorem usesGo_at (l : List GPart) (k : Nat) (hk : k < l.length) (out : List Nat) : usesGo out (l.drop k) = if 0 ≤ (l[k]'hk).2 ∧ (l[k]'hk).2.toNat ∉ out then usesGo (out ++ [(l[k]'hk).2.toNat]) (l.drop (k + 1)) else usesGo out (l.drop (k + 1)) := by
  rw [List.drop_eq_getElem_cons hk, usesGo]
set_option maxHeartbeats 2000000 in
theorem uses_any (l : List GPart) (hl : l.length ≤ 300000) (a : Option Addr) (cap : Nat) (w : World) (hin : ListIn partCod w a l 0) :
    Calls Tryz.prog 23 #[.slice a l.length cap] w (Gives natCod (usesT l) w) := by
  obtain ⟨RES, hres⟩ : ∃ RES, usesT l = RES := ⟨_, rfl⟩
  rw [hres]
  have HRES := Lib.hid hres
  have HIN := Lib.hid hin
  have HST := Lib.hid (usesGo_at l)
  have HCON := Lib.hid (fun xs (h : xs.length ≤ 1000000) a cap x w' h' => hasNat_any xs h a cap x w' h')
  clear hres hin
  go_enter Tryz.func23, Tryz.ntmps23
  go_wp2_with fail
  go_loopw [3, 8] (fun v i wr => ∃ (k : Nat) (out : List Nat), i = .int .i64 (k : Int) ∧ k ≤ l.length ∧ out.length ≤ k ∧ Own natCod (From w.heap.size) wr v out ∧ Below w.heap.size w wr ∧ Hid (usesGo out (l.drop k) = RES)) (fun _ i _ => l.length - (intOf i).toNat)
  case atStart => exact ⟨0, [], rfl, Nat.zero_le _, Nat.le_refl _, Own.nil _ _, Below.refl _ _, HRES.out⟩
  case round =>
    obtain ⟨k, out, rfl, hk, hol, ho, hb, hinv⟩ := hrel
    have hsz := hb.size
    have HB := Lib.hid hb
    have HO := Lib.hid ho
    clear ho hb
    by_cases hlt : k < l.length
    · obtain ⟨g, o, rfl, hlo, hhi, hat⟩ := HIN.out.resolve_left (fun h => by subst h; exact absurd hlt (Nat.not_lt_zero _))
      obtain ⟨r1, q1⟩ := partRow (hat.below HB.out) k hlt
      have hio : isOld g wr = true := isOld_iff.2 (by omega)
      have hkk : (k : Int) < (l.length : Int) := by omega
      have hst := HST.out k hlt out
      rw [hinv.out] at hst
      have HS := Lib.hid hst
      clear hinv hst hat
      generalize l[k]'hlt = p at *
      obtain ⟨tx, ch⟩ := p
      have HS2 : Hid (RES = if 0 ≤ ch ∧ ch.toNat ∉ out then usesGo (out ++ [ch.toNat]) (l.drop (k + 1)) else usesGo out (l.drop (k + 1))) := HS.out
      clear HS
      by_cases hc : 0 ≤ ch
      · obtain ⟨u, rfl⟩ : ∃ u : Nat, ch = (u : Int) := ⟨ch.toNat, by omega⟩
        obtain ⟨a9, c9, rfl, hc9, hl9⟩ := HO.out.slice (B := w.heap.size) (fun _ h => h)
        have HL9 := Lib.hid (hl9.mono (Nat.zero_le _))
        have HC := Lib.hid (fun w' h' => HCON.out out (by omega) a9 c9 u w' h')
        have hu2 : ((u : Int)).toNat = u := Int.toNat_natCast u
        have HS3 : Hid (RES = if u ∉ out then usesGo (out ++ [u]) (l.drop (k + 1)) else usesGo out (l.drop (k + 1))) := by
          show _ = _
          rw [HS2.out, hu2]
          by_cases hm : u ∈ out
          · rw [if_neg (by simp [hm]), if_neg (by simp [hm])]
          · rw [if_pos ⟨hc, hm⟩, if_pos hm]
        clear HS2 hl9 hu2
        by_cases hm : u ∈ out
        · have HE : Hid (usesGo out (l.drop (k + 1)) = RES) := by show _ = _; rw [HS3.out, if_neg (by simp [hm])]
          have HC2 : Hid (∀ w', ListIn natCod w' a9 out 0 → Calls Tryz.prog 49 #[.slice a9 out.length c9, .int .i64 (u : Int)] w' fun e w'' => e = .returned (.bool true) ∧ w'' = w') := fun w' h' => by
            have := HC.out w' h'
            rwa [decide_eq_true hm] at this
          clear HC HS3 hm
          go_wp2_with (go_at_call 49; (with_reducible refine (HC2.out _ (HL9.out.below (by repeat (first | exact Below.refl _ _ | assumption | refine below_grown ?_ (by first | omega | (simp [go_sem]; done) | (simp [go_sem] <;> omega)) _ | refine Below.alloc ?_ (by first | omega | (simp [go_sem]; done) | (simp [go_sem] <;> omega)) _ | refine below_bytesW ?_ (by first | omega | (simp [go_sem]; done) | (simp [go_sem] <;> omega)) _ | refine Below.drew ?_ | refine below_drewN ?_ _)))).mono ?_); rintro e w' ⟨rfl, rfl⟩)
          go_roundw
          case rel => exact ⟨k + 1, out, by go_num, by omega, by omega, HO.out.alloc _, HB.out.alloc hsz _, HE.out⟩
          case measure => simp [intOf]; omega
        · have HE : Hid (usesGo (out ++ [u]) (l.drop (k + 1)) = RES) := by show _ = _; rw [HS3.out, if_pos hm]
          have HC2 : Hid (∀ w', ListIn natCod w' a9 out 0 → Calls Tryz.prog 49 #[.slice a9 out.length c9, .int .i64 (u : Int)] w' fun e w'' => e = .returned (.bool false) ∧ w'' = w') := fun w' h' => by
            have := HC.out w' h'
            rwa [decide_eq_false hm] at this
          clear HC HS3 hm
          go_wp2_with (first
            | (go_at_call 49; (with_reducible refine (HC2.out _ (HL9.out.below (by repeat (first | exact Below.refl _ _ | assumption | refine below_grown ?_ (by first | omega | (simp [go_sem]; done) | (simp [go_sem] <;> omega)) _ | refine Below.alloc ?_ (by first | omega | (simp [go_sem]; done) | (simp [go_sem] <;> omega)) _ | refine below_bytesW ?_ (by first | omega | (simp [go_sem]; done) | (simp [go_sem] <;> omega)) _ | refine Below.drew ?_ | refine below_drewN ?_ _)))).mono ?_); rintro e w' ⟨rfl, rfl⟩)
            | (at_builtin; refine wpList_append_list rfl natCod (.tmp 22) (.tmp 25) 63 rfl rfl (From w.heap.size) _ _ (out) rfl (((HO.out.alloc _).alloc _)) _ 0 _ _ [u] rfl rfl (nat_new _ _ _ (by first | omega | (simp; done) | (simp; omega) | (simp [go_sem]; done) | (simp [go_sem]; omega))) (by first | omega | (simp; done) | (simp; omega) | (simp [go_sem]; done) | (simp [go_sem]; omega) | (simp [natCod]; omega)) (by first | omega | (simp; done) | (simp; omega) | (simp [go_sem]; done) | (simp [go_sem]; omega) | (simp [natCod]; omega)) (by first | (show _ ≤ _; first | omega | (simp; omega) | (simp [go_sem]; omega)) | (show _ ∨ _; right; first | omega | (simp; omega) | (simp [go_sem]; omega))) ?_; intro v' w1 ho1 hb1; have HO1 := Lib.hid ho1; have HB1 := Lib.hid hb1; clear ho1 hb1))
          go_roundw
          case rel =>
            refine ⟨k + 1, out ++ [u], by go_num, by omega, by simp; omega, HO1.out, ?_, HE.out⟩
            exact HB.out.trans (((Keeps.of_below (Q := From w.heap.size) (w := wr) (by repeat (first | exact Below.refl _ _ | assumption | refine below_grown ?_ (by first | omega | (simp [go_sem]; done) | (simp [go_sem] <;> omega)) _ | refine Below.alloc ?_ (by first | omega | (simp [go_sem]; done) | (simp [go_sem] <;> omega)) _ | refine below_bytesW ?_ (by first | omega | (simp [go_sem]; done) | (simp [go_sem] <;> omega)) _ | refine Below.drew ?_ | refine below_drewN ?_ _))).trans HB1.out).below_from hsz)
          case measure => simp [intOf]; omega
      · have HE : Hid (usesGo out (l.drop (k + 1)) = RES) := by show _ = _; rw [HS2.out, if_neg (by omega)]
        have hc1 : ¬ (0 ≤ ch) := hc
        have hc2 : ch < 0 := by omega
        clear HS2 hc
        go_wp2
        go_roundw
        case rel => exact ⟨k + 1, out, by go_num, by omega, by omega, HO.out.alloc _, HB.out.alloc hsz _, HE.out⟩
        case measure => simp [intOf]; omega
    · obtain rfl : k = l.length := by omega
      have HE : Hid (RES = out) := by show _ = _; rw [← hinv.out, List.drop_length, usesGo]
      obtain ⟨a9, c9, rfl, hc9, hl9⟩ := HO.out.slice (B := w.heap.size) (fun _ h => h)
      have HL9 := Lib.hid hl9
      clear hinv hl9
      go_wp2
      go_ret
      rw [HE.out]
      exact ⟨a9, c9, rfl, hc9, HB.out, HL9.out⟩
/-! ### rows -/
theorem rowsGo_at (C : List GCh) (us : List Nat) (k : Nat) (hk : k < us.length) (n : Nat) : rowsGo C n (us.drop k) = if 24 < n * (valsC C (us[k]'hk)).length then n * (valsC C (us[k]'hk)).length else rowsGo C (n * (valsC C (us[k]'hk)).length) (us.drop (k + 1)) := by
  rw [List.drop_eq_getElem_cons hk, rowsGo]
theorem valsC_at (C : List GCh) (i : Nat) (h : i < C.length) : valsC C i = (C[i]'h).vals := by
  unfold valsC
  rw [List.getElem?_eq_getElem h]; rfl
set_option maxHeartbeats 2000000 in
theorem rows_any (C : List GCh) (R : List RCh) (lo : Nat) (us : List Nat) (hul : us.length ≤ 300000) (hu : ∀ u ∈ us, u < C.length) (hv : ∀ c ∈ C, c.vals.length ≤ 100000) (a au : Option Addr) (cap cu : Nat) (w : World) (hin : ListIn chCod w a R 0) (hC : ChsOk w lo R C) (hus : ListIn natCod w au us 0) :
    Calls Tryz.prog 24 #[.slice au us.length cu, .slice a R.length cap] w fun e w' => e = .returned (.int .i64 (rowsGo C 1 us : Nat)) ∧ w = w' := by
  obtain ⟨RES, hres⟩ : ∃ RES, rowsGo C 1 us = RES := ⟨_, rfl⟩
  rw [hres]
  have HRES := Lib.hid hres
  have HST := Lib.hid (rowsGo_at C us)
  have HIN := Lib.hid hin
  have HUS := Lib.hid hus
  have HC := Lib.hid hC
  have hRC := hC.1
  clear hres hin hus hC
  go_enter Tryz.func24, Tryz.ntmps24
  go_wp2
  go_loop [5, 10] (fun v i => ∃ (k n : Nat), i = .int .i64 (k : Int) ∧ v = .int .i64 (n : Int) ∧ k ≤ us.length ∧ n ≤ 24 ∧ Hid (rowsGo C n (us.drop k) = RES)) (fun _ i => us.length - (intOf i).toNat)
  case atStart => exact ⟨0, 1, rfl, rfl, Nat.zero_le _, by decide, HRES.out⟩
  case round =>
    obtain ⟨k, n, rfl, rfl, hk, hn, hinv⟩ := hrel
    by_cases hlt : k < us.length
    · obtain ⟨gu, ou, rfl, _, _, hau⟩ := HUS.out.resolve_left (fun h => by subst h; exact absurd hlt (Nat.not_lt_zero _))
      have hcu := natAt hau k hlt
      have huk := hu _ (List.getElem_mem hlt)
      have hst := HST.out k hlt n
      rw [hinv.out, valsC_at C _ huk] at hst
      have HS := Lib.hid hst
      clear hinv hst hau
      generalize us[k]'hlt = u at *
      have huR : u < R.length := by omega
      obtain ⟨g, o, rfl, _, _, hat⟩ := HIN.out.resolve_left (fun h => by subst h; exact absurd huR (Nat.not_lt_zero _))
      obtain ⟨h1, h2, h3, h4⟩ := HC.out.2 u huR huk
      have hr0 := hat.get u huR 1 _ rfl
      have hr1 : w.cell? ⟨g, o + (u * 2 + 1), none⟩ = some (.slice (R[u]'huR).a (R[u]'huR).n (R[u]'huR).cap) := hr0
      have hvl := hv _ (List.getElem_mem huk)
      rw [← h2] at HS hvl
      have huu : (u : Int) < (R.length : Int) := by omega
      have hkk : (k : Int) < (us.length : Int) := by omega
      clear hat hr0 h1 h4
      generalize R[u]'huR = r at *
      generalize C[u]'huk = c at *
      have hr2 : w.cell? ⟨g, o + u * 2 + 1, none⟩ = some (.slice r.a r.n r.cap) := by rw [Nat.add_assoc]; exact hr1
      have hmul : n * r.n ≤ 24 * 100000 := Nat.mul_le_mul hn (by omega)
      have hw : IntKind.i64.wrap ((n : Int) * (r.n : Int)) = ((n * r.n : Nat) : Int) := by rw [← Int.natCast_mul]; exact IntWalk.i64_in _ (by omega)
      clear h2 h3 hr1
      generalize n * r.n = q at *
      by_cases hq : 24 < q
      · have HE : Hid (RES = q) := by show _ = _; rw [HS.out, if_pos hq]
        have hq1 : (24 : Int) < (q : Int) := by omega
        clear HS hq
        go_wp2
        go_ret
        exact ⟨by rw [HE.out]; rfl, rfl⟩
      · have HE : Hid (rowsGo C q (us.drop (k + 1)) = RES) := by show _ = _; rw [HS.out, if_neg hq]
        have hq1 : ¬ (24 : Int) < (q : Int) := by omega
        clear HS
        go_wp2
        go_round
        case rel => exact ⟨k + 1, q, by go_num, rfl, by omega, by omega, HE.out⟩
        case measure => simp [intOf]; omega
    · obtain rfl : k = us.length := by omega
      have HE : Hid (RES = n) := by show _ = _; rw [← hinv.out, List.drop_length, rowsGo]
      clear hinv
      go_wp2
      go_ret
      exact ⟨by rw [HE.out]; rfl, rfl⟩
/-! ### length -/
theorem mostT_take (V : List (List UInt8)) (j : Nat) (hj : j < V.length) : mostT (V.take (j + 1)) = max (mostT (V.take j)) (V[j]'hj).length := by
  unfold mostT
  rw [List.take_succ_eq_append_getElem hj, List.foldl_append]; rfl
theorem mostT_le {B : Nat} (V : List (List UInt8)) (h : ∀ x ∈ V, x.length ≤ B) (j : Nat) : mostT (V.take j) ≤ B := by
  have key : ∀ (L : List (List UInt8)) (m : Nat), m ≤ B → (∀ x ∈ L, x.length ≤ B) → L.foldl (fun m v => max m v.length) m ≤ B := by
    intro L
    induction L with
    | nil => intro m hm _; exact hm
    | cons x L ih =>
      intro m hm hL
      have := hL x (List.mem_cons_self ..)
      exact ih _ (by show max m x.length ≤ B; omega) fun y hy => hL y (List.mem_cons_of_mem _ hy)
  exact key _ 0 (Nat.zero_le _) fun x hx => h x (List.mem_of_mem_take hx)
theorem lenGo_at (C : List GCh) (l : List GPart) (k : Nat) (hk : k < l.length) (n : Nat) : lenGo C n (l.drop k) = if (l[k]'hk).2 < 0 then lenGo C (n + (l[k]'hk).1.length) (l.drop (k + 1)) else if 2000 < n + (l[k]'hk).1.length + mostT (valsC C (l[k]'hk).2.toNat) then n + (l[k]'hk).1.length + mostT (valsC C (l[k]'hk).2.toNat) else lenGo C (n + (l[k]'hk).1.length + mostT (valsC C (l[k]'hk).2.toNat)) (l.drop (k + 1)) := by
  rw [List.drop_eq_getElem_cons hk, lenGo]
set_option maxHeartbeats 4000000 in
theorem length_any (C : List GCh) (R : List RCh) (lo : Nat) (l : List GPart) (hl : l.length ≤ 300000) (hp : ∀ p ∈ l, p.1.length ≤ 100000 ∧ (0 ≤ p.2 → p.2.toNat < C.length)) (hv : ∀ c ∈ C, c.vals.length ≤ 100000 ∧ ∀ x ∈ c.vals, x.length ≤ 100000) (a al : Option Addr) (cap cl : Nat) (w : World) (hin : ListIn chCod w a R 0) (hC : ChsOk w lo R C) (hls : ListIn partCod w al l 0) :
    Calls Tryz.prog 25 #[.slice al l.length cl, .slice a R.length cap] w fun e w' => e = .returned (.int .i64 (lenGo C 0 l : Nat)) ∧ Below w.heap.size w w' := by
  obtain ⟨RES, hres⟩ : ∃ RES, lenGo C 0 l = RES := ⟨_, rfl⟩
  rw [hres]
  have HRES := Lib.hid hres
  have HST := Lib.hid (lenGo_at C l)
  have HIN := Lib.hid hin
  have HLS := Lib.hid hls
  have HC := Lib.hid hC
  have hRC := hC.1
  clear hres hin hls hC
  go_enter Tryz.func25, Tryz.ntmps25
  go_wp2_with fail
  go_loopw [5, 13, 7, 8, 10, 32] (fun v i _ _ _ _ wr => ∃ (k n : Nat), i = .int .i64 (k : Int) ∧ v = .int .i64 (n : Int) ∧ k ≤ l.length ∧ n ≤ k * 300000 ∧ Below w.heap.size w wr ∧ Hid (lenGo C n (l.drop k) = RES)) (fun _ i _ _ _ _ _ => l.length - (intOf i).toNat)
  case atStart => exact ⟨0, 0, rfl, rfl, Nat.zero_le _, Nat.le_refl _, Below.refl _ _, HRES.out⟩
  case round =>
    obtain ⟨k, n, rfl, rfl, hk, hn, hb, hinv⟩ := hrel
    have hsz := hb.size
    have HB := Lib.hid hb
    by_cases hlt : k < l.length
    · obtain ⟨g, o, rfl, hlo, hhi, hat⟩ := HLS.out.resolve_left (fun h => by subst h; exact absurd hlt (Nat.not_lt_zero _))
      obtain ⟨r1, q1⟩ := partRow (hat.below HB.out) k hlt
      have hio : isOld g wr = true := isOld_iff.2 (by omega)
      have hkk : (k : Int) < (l.length : Int) := by omega
      have hst := HST.out k hlt n
      rw [hinv.out] at hst
      obtain ⟨hp1, hp2⟩ := hp _ (List.getElem_mem hlt)
      have HS := Lib.hid hst
      clear hinv hst hat hb
      generalize l[k]'hlt = p at *
      obtain ⟨tx, ch⟩ := p
      dsimp only at hp1 hp2
      have HS2 : Hid (RES = if ch < 0 then lenGo C (n + tx.length) (l.drop (k + 1)) else if 2000 < n + tx.length + mostT (valsC C ch.toNat) then n + tx.length + mostT (valsC C ch.toNat) else lenGo C (n + tx.length + mostT (valsC C ch.toNat)) (l.drop (k + 1))) := HS.out
      clear HS
      have hw : IntKind.i64.wrap ((n : Int) + (tx.length : Int)) = ((n + tx.length : Nat) : Int) := IntWalk.i64_in _ (by omega)
      have hq : n + tx.length ≤ k * 300000 + 100000 := by omega
      generalize n + tx.length = q at *
      by_cases hc : ch < 0
      · have HE : Hid (lenGo C q (l.drop (k + 1)) = RES) := by show _ = _; rw [HS2.out, if_pos hc]
        clear HS2
        go_wp2
        go_roundw
        case rel => exact ⟨k + 1, q, by go_num, rfl, by omega, by omega, HB.out.alloc hsz _, HE.out⟩
        case measure => simp [intOf]; omega
      · obtain ⟨u, rfl⟩ : ∃ u : Nat, ch = (u : Int) := ⟨ch.toNat, by omega⟩
        have huC : u < C.length := by have := hp2 (by omega); simpa using this
        have huR : u < R.length := by omega
        obtain ⟨gc, oc, rfl, hloc, hhic, hatc⟩ := HIN.out.resolve_left (fun h => by subst h; exact absurd huR (Nat.not_lt_zero _))
        obtain ⟨h1, h2, h3, h4⟩ := HC.out.2 u huR huC
        have hr0 := (hatc.below HB.out).get u huR 1 _ rfl
        have hr1 : wr.cell? ⟨gc, oc + (u * 2 + 1), none⟩ = some (.slice (R[u]'huR).a (R[u]'huR).n (R[u]'huR).cap) := hr0
        obtain ⟨hv1, hv2⟩ := hv _ (List.getElem_mem huC)
        have HS3 : Hid (RES = if 2000 < q + mostT (C[u]'huC).vals then q + mostT (C[u]'huC).vals else lenGo C (q + mostT (C[u]'huC).vals) (l.drop (k + 1))) := by
          show _ = _
          rw [HS2.out, if_neg hc, Int.toNat_natCast, valsC_at C u huC]
        have huu : (u : Int) < (R.length : Int) := by omega
        have HVL := Lib.hid h4
        clear hatc hr0 h1 h4 HS2 hp2
        generalize R[u]'huR = r at *
        generalize (C[u]'huC).vals = V at *
        have hr2 : wr.cell? ⟨gc, oc + u * 2 + 1, none⟩ = some (.slice r.a r.n r.cap) := by rw [Nat.add_assoc]; exact hr1
        have hiog : isOld gc wr = true := isOld_iff.2 (by omega)
        clear hr1
        have HMB := Lib.hid (mostT_le V hv2)
        have HMF : Hid (mostT (V.take V.length) = mostT V) := show _ = _ by rw [List.take_length]
        have HTK := Lib.hid (mostT_take V)
        go_upto_region 9 with fail
        go_loop [8, 10, 32] (fun mo _ ji => ∃ j : Nat, ji = .int .i64 (j : Int) ∧ j ≤ V.length ∧ mo = .int .i64 (mostT (V.take j) : Nat)) (fun _ _ ji => V.length - (intOf ji).toNat)
        case atStart => exact ⟨0, rfl, Nat.zero_le _, rfl⟩
        case round =>
          obtain ⟨j, rfl, hj, rfl⟩ := hrel
          by_cases hjl : j < V.length
          · obtain ⟨gv, ov, hra, _, hhv, hav⟩ := HVL.out.resolve_left (fun h => by subst h; exact absurd hjl (Nat.not_lt_zero _))
            have hcv := strAt (hav.below HB.out) j hjl
            have hiov : isOld gv wr = true := isOld_iff.2 (by omega)
            have htk := HTK.out j hjl
            have hjn : (j : Int) < (r.n : Int) := by omega
            have HT2 := Lib.hid htk
            clear hav htk
            generalize V[j]'hjl = x at *
            generalize mostT (V.take j) = mo at *
            go_wp2
            go_round
            case rel => exact ⟨j + 1, by go_num, by omega, by rw [HT2.out]; congr 1; omega⟩
            case measure => simp [intOf]; omega
          · obtain rfl : j = V.length := by omega
            have hmb := HMB.out V.length
            rw [HMF.out] at hmb
            rw [HMF.out]
            generalize mostT V = mo at *
            have hw2 : IntKind.i64.wrap ((q : Int) + (mo : Int)) = ((q + mo : Nat) : Int) := IntWalk.i64_in _ (by omega)
            have hqm : q + mo ≤ (k + 1) * 300000 := by omega
            generalize q + mo = z at *
            by_cases hz : 2000 < z
            · have HE : Hid (RES = z) := by show _ = _; rw [HS3.out, if_pos hz]
              have hz1 : (2000 : Int) < (z : Int) := by omega
              clear HS3 hz
              go_wp2
              go_ret
              exact ⟨by rw [HE.out]; rfl, HB.out.alloc hsz _⟩
            · have HE : Hid (lenGo C z (l.drop (k + 1)) = RES) := by show _ = _; rw [HS3.out, if_neg hz]
              have hz1 : ¬ (2000 : Int) < (z : Int) := by omega
              clear HS3
              go_wp2
              go_roundw
              case rel => exact ⟨_, _, _, _, _, ⟨k + 1, rfl, z, rfl, by omega, by omega, HB.out.alloc hsz _, HE.out⟩, rfl, rfl, rfl, rfl, by simp⟩
              case measure => simp [intOf]; omega
    · obtain rfl : k = l.length := by omega
      have HE : Hid (RES = n) := by show _ = _; rw [← hinv.out, List.drop_length, lenGo]
      clear hinv
      go_wp2
      go_ret
      exact ⟨by rw [HE.out]; rfl, HB.out⟩
end

section
open Go Go.RowKit
set_option maxRecDepth 20000
set_option linter.unusedSimpArgs false
set_option linter.unusedVariables false

theorem ret_cell_tmp2 {P : Program} {fn : Func} {p u x : Tmp} {ty : TypeId} {R : Ending → World → Prop} {a : Act} {w : World} (g : Nat) (cs : Array Value) (v v2 : Value) (h : fn.results = #[.cell p ty, .tmp u, .tmp x]) (hp : a.tmps.getD p undef = .pointer (some ⟨g, 0, none⟩)) (hv : a.tmps.getD u undef = v) (hx : a.tmps.getD x undef = v2) (hagg : isAggT P ty = true)
    (hr : hasRow w ⟨g, 0, none⟩ (P.cellsOf ty) = true) (hc : rowAt w ⟨g, 0, none⟩ (P.cellsOf ty) = cs) (hd : a.defers = []) (hR : R (.returned (.tuple #[.agg cs, v, v2])) w) : bodyPost P fn R .ret a w := by
  refine bodyPost_ret (v := .tuple #[.agg cs, v, v2]) ?_ hd hR
  have hp' : a.tmps[p]?.getD undef = .pointer (some ⟨g, 0, none⟩) := by simpa using hp
  have hv' : a.tmps[u]?.getD undef = v := by simpa using hv
  have hx' : a.tmps[x]?.getD undef = v2 := by simpa using hx
  have := run_loadVar_agg (P := P) hagg ⟨g, 0, none⟩ w hr
  rw [hc] at this
  simp [results, h, hp', hv', hx', asAddr, this]
theorem pathOk_bad {s : List UInt8} (k : Nat) (h : k < s.length) (hc : pathC (s[k]'h) = false) : pathOk s = false := by
  have : s.all pathC = false := List.all_eq_false.2 ⟨_, List.getElem_mem h, by rw [hc]; decide⟩
  unfold pathOk
  rw [this]; simp
theorem pathOk_first {s : List UInt8} (h : 0 < s.length) (hc : s[0]'h ≠ 47) : pathOk s = false := by
  have : (s.headD 0 == 47) = false := by
    cases s with
    | nil => cases h
    | cons c t => rw [List.headD_cons, beq_eq_false_iff_ne]; exact hc
  unfold pathOk
  rw [this]; simp
theorem pathOk_long {s : List UInt8} (h : 2048 < s.length) : pathOk s = false := by
  unfold pathOk
  rw [decide_eq_false (by omega : ¬ s.length ≤ 2048)]; simp
theorem pathOk_good {s : List UInt8} (h : 0 < s.length) (hc : s[0]'h = 47) (hl : s.length ≤ 2048) (ha : s.all pathC = true) : pathOk s = true := by
  have : (s.headD 0 == 47) = true := by
    cases s with
    | nil => cases h
    | cons c t => rw [List.headD_cons, beq_iff_eq]; exact hc
  unfold pathOk
  rw [this, ha, decide_eq_true hl, decide_eq_true (by omega : 1 ≤ s.length)]; rfl
theorem all_take_path (l : List UInt8) (k : Nat) (h : k < l.length) : (l.take (k + 1)).all pathC = ((l.take k).all pathC && pathC (l[k]'h)) := by
  rw [List.take_succ_eq_append_getElem h, List.all_append]; simp
set_option maxHeartbeats 1000000 in
theorem urlPath_any (s : List UInt8) (hs : s.length ≤ maxLen) (w : World) :
    Calls Tryz.prog 85 #[.string ⟨s.toArray⟩] w fun e w' => e = .returned (.bool (pathOk s)) ∧ Below w.heap.size w w' := by
  unfold maxLen at hs
  rcases Nat.eq_zero_or_pos s.length with h0 | h0
  · obtain rfl := List.length_eq_zero_iff.1 h0
    go_enter Tryz.func85, Tryz.ntmps85
    go_wp2
    go_ret
    exact ⟨rfl, (by repeat (first | exact Below.refl _ _ | assumption | refine below_grown ?_ (by first | omega | (simp [go_sem]; done) | (simp [go_sem] <;> omega)) _ | refine Below.alloc ?_ (by first | omega | (simp [go_sem]; done) | (simp [go_sem] <;> omega)) _ | refine below_bytesW ?_ (by first | omega | (simp [go_sem]; done) | (simp [go_sem] <;> omega)) _ | refine Below.drew ?_ | refine below_drewN ?_ _))⟩
  · have hem : s.isEmpty = false := by rw [List.isEmpty_eq_false_iff]; exact List.length_pos_iff.1 h0
    have hem2 : (s == []) = false := by rw [beq_eq_false_iff_ne]; exact List.length_pos_iff.1 h0
    by_cases h1 : (2048 : Int) < s.length
    · rw [pathOk_long (by omega)]
      go_enter Tryz.func85, Tryz.ntmps85
      go_wp2
      go_ret
      exact ⟨rfl, (by repeat (first | exact Below.refl _ _ | assumption | refine below_grown ?_ (by first | omega | (simp [go_sem]; done) | (simp [go_sem] <;> omega)) _ | refine Below.alloc ?_ (by first | omega | (simp [go_sem]; done) | (simp [go_sem] <;> omega)) _ | refine below_bytesW ?_ (by first | omega | (simp [go_sem]; done) | (simp [go_sem] <;> omega)) _ | refine Below.drew ?_ | refine below_drewN ?_ _))⟩
    · by_cases h2 : s[0]'h0 = 47
      · have h2' : ∀ h, (((s[0]'h).toNat : Int) != 47) = false := fun h => by rw [h2]; rfl
        have HBAD : Hid (∀ k (h : k < s.length), pathC (s[k]'h) = false → pathOk s = false) := fun k h hc => pathOk_bad k h hc
        have HALL : Hid ((s.take s.length).all pathC = true → pathOk s = true) := fun h => pathOk_good h0 h2 (by omega) (by rwa [List.take_length] at h)
        generalize pathOk s = ok at *
        clear h2
        go_enter Tryz.func85, Tryz.ntmps85
        go_wp2
        go_loopw [20, 4] (fun i _ wr => ∃ k : Nat, k ≤ s.length ∧ i = .int .i64 k ∧ Below (bytesW w s).heap.size (bytesW w s) wr ∧ Hid ((s.take k).all pathC = true)) (fun i _ _ => s.length - (intOf i).toNat)
        case atStart => exact ⟨0, Nat.zero_le _, rfl, Below.refl _ _, rfl⟩
        case round =>
          obtain ⟨k, hk, rfl, hb, hinv⟩ := hrel
          have HB := Lib.hid (Below.trans (below_bytesW (Below.refl w.heap.size w) (Nat.le_refl _) s) (hb.mono (by simp [go_sem])))
          by_cases hlt : k < s.length
          · have hcell := bytesW_cell_after hb (b := w.heap.size) rfl k hlt
            have HS := Lib.hid (all_take_path s k hlt)
            have HBK := Lib.hid (HBAD.out k hlt)
            generalize s[k]'hlt = c at *
            rcases pathC_cases c with ⟨c1, hc⟩ | ⟨c1, hc⟩ | ⟨c1, c2, c3, c4, hc⟩ | ⟨c1, c2, c3, c4, hc⟩ | ⟨c1, c2, c3, c4, hc⟩
            · obtain rfl := HBK.out hc
              go_wp2
              go_ret
              exact ⟨rfl, HB.out⟩
            · obtain rfl := HBK.out hc
              have c1' : ¬ (c.toNat : Int) < 33 := by omega
              go_wp2
              go_ret
              exact ⟨rfl, HB.out⟩
            · obtain rfl := HBK.out hc
              have c1' : ¬ (c.toNat : Int) < 33 := by omega
              have c2' : ¬ (126 : Int) < (c.toNat : Int) := by omega
              go_wp2
              go_ret
              exact ⟨rfl, HB.out⟩
            · obtain rfl := HBK.out hc
              have c1' : ¬ (c.toNat : Int) < 33 := by omega
              have c2' : ¬ (126 : Int) < (c.toNat : Int) := by omega
              go_wp2
              go_ret
              exact ⟨rfl, HB.out⟩
            · have c1' : ¬ (c.toNat : Int) < 33 := by omega
              have c2' : ¬ (126 : Int) < (c.toNat : Int) := by omega
              go_wp2
              go_roundw
              case rel => exact ⟨k + 1, by omega, by go_num, hb, show _ = true by rw [HS.out, hinv.out, hc]; rfl⟩
              case measure => simp [intOf]; omega
          · obtain rfl : k = s.length := by omega
            obtain rfl := HALL.out hinv.out
            clear hinv HALL
            go_wp2
            go_ret
            exact ⟨rfl, HB.out⟩
      · rw [pathOk_first h0 h2]
        have h2' : ∀ h, (((s[0]'h).toNat : Int) != 47) = true := fun h => by rw [u8_lit_ne _ 47 47 rfl]; simpa using h2
        clear h2
        go_enter Tryz.func85, Tryz.ntmps85
        go_wp2
        go_ret
        exact ⟨rfl, (by repeat (first | exact Below.refl _ _ | assumption | refine below_grown ?_ (by first | omega | (simp [go_sem]; done) | (simp [go_sem] <;> omega)) _ | refine Below.alloc ?_ (by first | omega | (simp [go_sem]; done) | (simp [go_sem] <;> omega)) _ | refine below_bytesW ?_ (by first | omega | (simp [go_sem]; done) | (simp [go_sem] <;> omega)) _ | refine Below.drew ?_ | refine below_drewN ?_ _))⟩
theorem usual_any (safe : Bool) (w : World) :
    Calls Tryz.prog 83 #[.bool safe] w fun e w' => e = .returned (.tuple #[.string ⟨(usualT safe).toArray⟩, .int .i64 (usualP safe)]) ∧ w = w' := by
  cases safe
  all_goals
    go_enter Tryz.func83, Tryz.ntmps83
    go_wp2
    go_ret2
    exact ⟨rfl, rfl⟩
end

section
open Go Go.RowKit
set_option maxRecDepth 20000
set_option linter.unusedSimpArgs false
set_option linter.unusedVariables false

def slashes (cs : List UInt8) : Prop := cs = [47, 63, 35] ∨ cs = [63, 35]
theorem enc_high (r : Nat) (h : 128 ≤ r) : ∃ (A : List UInt8) (d : UInt8), Utf8.encode (r : Int) = ⟨(A ++ [d]).toArray⟩ ∧ (128 : Int) ≤ d.toNat ∧ (A.length = 1 ∨ A.length = 2 ∨ A.length = 3) := by
  have mk : ∀ (B : ByteArray) (l : List UInt8), B.data.toList = l → B = ⟨l.toArray⟩ := fun B l e => by
    cases B with
    | mk a => simp at e; subst e; simp
  have dd : ∀ k : Nat, (128 : Int) ≤ (UInt8.ofNat (128 + k % 64)).toNat := fun k => by
    rw [UInt8.toNat_ofNat']; omega
  by_cases c2 : r < 2048
  · exact ⟨[UInt8.ofNat (192 + r / 64)], _, mk _ _ (Extern.FmtText.enc2 r (by omega) c2), dd r, .inl rfl⟩
  · by_cases hb : (55296 ≤ r ∧ r ≤ 57343) ∨ 1114111 < r
    · exact ⟨[239, 191], 189, mk _ _ (Extern.FmtText.encBad r hb), by decide, .inr (.inl rfl)⟩
    · by_cases c3 : r < 65536
      · exact ⟨[UInt8.ofNat (224 + r / 4096), UInt8.ofNat (128 + r / 64 % 64)], _, mk _ _ (Extern.FmtText.enc3 r c2 c3 (by omega)), dd r, .inr (.inl rfl)⟩
      · exact ⟨[UInt8.ofNat (240 + r / 262144), UInt8.ofNat (128 + r / 4096 % 64), UInt8.ofNat (128 + r / 64 % 64)], _, mk _ _ (Extern.FmtText.enc4 r c3 (by omega)), dd r, .inr (.inr rfl)⟩
theorem valid_any (r : Int) (w : World) : Calls Tryz.prog 116 #[.int .i32 r] w fun e w' => e = .returned (.bool (Lib.validRune r)) ∧ w = w' :=
  (Tryz.utf8_ValidRune r w).mono fun e w' ⟨h1, h2⟩ => ⟨h1, h2.symm⟩
theorem ix_none (b : UInt8) : ∀ l : List UInt8, b ∉ l → Lib.indexByte l b = -1
  | [], _ => rfl
  | c :: l, h => by
    have ih := ix_none b l (fun hm => h (by simp [hm]))
    have hc : (c == b) = false := by rw [beq_eq_false_iff_ne]; rintro rfl; exact h (by simp)
    rw [Lib.indexByte, hc, ih]; rfl
set_option maxHeartbeats 4000000 in
theorem indexRune_high (cs : List UInt8) (hcs : slashes cs) (r : Nat) (h1 : 128 ≤ r) (h2 : r ≤ 2147483647) (w : World) :
    Calls Tryz.prog 99 #[.string ⟨cs.toArray⟩, .int .i32 (r : Int)] w fun e w' => e = .returned (.int .i64 (-1)) ∧ Below w.heap.size w w' := by
  have k1 : ¬ (r : Int) < 128 := by omega
  have k2 : (0 : Int) ≤ (r : Int) := by omega
  have HV := Lib.hid (fun w => valid_any (r : Int) w)
  by_cases hE : r = 65533
  · subst hE
    have hasc : ∀ (i : Nat) (h : i < cs.length), (cs[i]'h).toNat < 128 := by
      rcases hcs with rfl | rfl
      · intro i h
        match i, h with
        | 0, _ => exact (by decide : (47 : UInt8).toNat < 128)
        | 1, _ => exact (by decide : (63 : UInt8).toNat < 128)
        | 2, _ => exact (by decide : (35 : UInt8).toNat < 128)
      · intro i h
        match i, h with
        | 0, _ => exact (by decide : (63 : UInt8).toNat < 128)
        | 1, _ => exact (by decide : (35 : UInt8).toNat < 128)
    have HAS := Lib.hid hasc
    clear hasc hcs HV
    have hsz : (ByteArray.mk cs.toArray).size = cs.length := by simp [ByteArray.size]
    go_enter Tryz.func99, Tryz.ntmps99
    go_wp2
    go_loopg [5, 6] cs.length (fun g _ _ wx => ∃ i : Nat, i + g = cs.length ∧ wx = w.iter ⟨cs.toArray⟩ i)
    case atStart => exact ⟨0, by omega, rfl⟩
    case round =>
      obtain ⟨i, hig, rfl⟩ := hrel
      cases gk with
      | zero =>
        obtain rfl : i = cs.length := by omega
        have hnx := run_next_end (P := Tryz.prog) w ⟨cs.toArray⟩ cs.length
        rw [hsz] at hnx
        have hnx2 := fun ty => hnx ty (Nat.lt_irrefl _)
        clear hnx
        go_wp2
        go_ret
        exact ⟨rfl, (Below.refl _ _).alloc (Nat.le_refl _) _⟩
      | succ g =>
        have hi : i < cs.length := by omega
        obtain ⟨x, hx⟩ : ∃ x : UInt8, (ByteArray.mk cs.toArray)[i]'(by rw [hsz]; exact hi) = x := ⟨_, rfl⟩
        have hx128 : x.toNat < 128 := by
          rw [← hx]
          exact HAS.out i hi
        have hnx := fun ty => run_next_ascii (P := Tryz.prog) w ⟨cs.toArray⟩ i ty (by rw [hsz]; exact hi) (by rw [hx]; exact hx128)
        rw [hx] at hnx
        have hne : ((x.toNat : Int) == 65533) = false := by rw [beq_eq_false_iff_ne]; omega
        go_wp2
        go_roundg g
        case measure => omega
        case rel => exact ⟨i + 1, by omega, rfl⟩
  · have hE' : (((r : Nat) : Int) == 65533) = false := by rw [beq_eq_false_iff_ne]; omega
    cases hv : Lib.validRune (r : Int)
    · rw [hv] at HV
      rcases hcs with rfl | rfl
      all_goals
        go_enter Tryz.func99, Tryz.ntmps99
        go_wp2_with (go_at_call 116; refine (HV.out _).mono ?_; intro e w' h; obtain ⟨rfl, h2⟩ := h; subst w')
        go_ret
        exact ⟨rfl, (by repeat (first | exact Below.refl _ _ | assumption | refine below_grown ?_ (by first | omega | (simp [go_sem]; done) | (simp [go_sem] <;> omega)) _ | refine Below.alloc ?_ (by first | omega | (simp [go_sem]; done) | (simp [go_sem] <;> omega)) _ | refine below_bytesW ?_ (by first | omega | (simp [go_sem]; done) | (simp [go_sem] <;> omega)) _ | refine Below.drew ?_ | refine below_drewN ?_ _))⟩
    · rw [hv] at HV
      obtain ⟨A, d, hAd, hd, hl⟩ := enc_high r h1
      have HI : Hid (∀ (l : List UInt8) (w : World), d ∉ l → Calls Tryz.prog 114 #[.string ⟨l.toArray⟩, .int .u8 (d.toNat : Int)] w fun e w' => e = .returned (.int .i64 (-1)) ∧ w = w') := fun l w hn => by
        refine (Tryz.strings_IndexByte ⟨l.toArray⟩ (d.toNat : Int) w).mono fun e w1 ⟨he, hw⟩ => ⟨?_, hw.symm⟩
        rw [he]
        have : Lib.indexByte l d = -1 := ix_none d l hn
        simp [this]
      have q1 : ((35 : Int) != (d.toNat : Int)) = true := by rw [bne_iff_ne]; omega
      have q2 : ((63 : Int) != (d.toNat : Int)) = true := by rw [bne_iff_ne]; omega
      have q3 : ((47 : Int) != (d.toNat : Int)) = true := by rw [bne_iff_ne]; omega
      have hw2 : IntKind.i64.wrap 2 = 2 := by decide
      have hw3 : IntKind.i64.wrap 3 = 3 := by decide
      have dn0 : d ∉ ([] : List UInt8) := by simp
      have dn1 : d ∉ ([35] : List UInt8) := by intro h; rw [List.mem_singleton] at h; subst h; revert hd; decide
      have hA : (∃ a, A = [a]) ∨ (∃ a b, A = [a, b]) ∨ (∃ a b c, A = [a, b, c]) := by
        match A, hl with
        | [a], _ => exact .inl ⟨a, rfl⟩
        | [a, b], _ => exact .inr (.inl ⟨a, b, rfl⟩)
        | [a, b, c], _ => exact .inr (.inr ⟨a, b, c, rfl⟩)
        | [], h => exact absurd h (by simp)
        | _ :: _ :: _ :: _ :: _, h => exact absurd h (by simp)
      clear hl
      rcases hA with ⟨a, rfl⟩ | ⟨a, b, rfl⟩ | ⟨a, b, c, rfl⟩
      · rcases hcs with rfl | rfl
        · go_enter Tryz.func99, Tryz.ntmps99
          go_wp2_with (go_at_call 116; refine (HV.out _).mono ?_; intro e w' h; obtain ⟨rfl, h2⟩ := h; subst w')
          refine wp_scope_straight ?_
          go_wp2
          go_loop [9, 10, 11, 12] (fun i f _ _ => i = .int .i64 1 ∧ f = .int .i64 0) (fun _ _ _ _ => 0)
          case atStart => exact ⟨rfl, rfl⟩
          case round =>
            obtain ⟨rfl, rfl⟩ := hrel
            go_wp2
            refine wp_scope_straight ?_
            go_wp2
            go_region
            go_wp2
            go_region_law (first | (go_simp; with_reducible refine (HI.out _ _ (by first | exact dn0 | exact dn1 | (rw [show ByteArray.empty.1.toList = ([] : List UInt8) from rfl]; exact dn0))).mono ?_; intro e w' h; obtain ⟨rfl, h2⟩ := h; subst w'; dsimp only))
            all_goals
              go_wp2
              dsimp +zetaDelta only [Exit.inBlock, Exit.noGoto, Exit.then]
              go_ret
              exact ⟨rfl, (by repeat (first | exact Below.refl _ _ | assumption | refine below_grown ?_ (by first | omega | (simp [go_sem]; done) | (simp [go_sem] <;> omega)) _ | refine Below.alloc ?_ (by first | omega | (simp [go_sem]; done) | (simp [go_sem] <;> omega)) _ | refine below_bytesW ?_ (by first | omega | (simp [go_sem]; done) | (simp [go_sem] <;> omega)) _ | refine Below.drew ?_ | refine below_drewN ?_ _))⟩
        · go_enter Tryz.func99, Tryz.ntmps99
          go_wp2_with (go_at_call 116; refine (HV.out _).mono ?_; intro e w' h; obtain ⟨rfl, h2⟩ := h; subst w')
          refine wp_scope_straight ?_
          go_wp2
          go_loop [9, 10, 11, 12] (fun i f _ _ => i = .int .i64 1 ∧ f = .int .i64 0) (fun _ _ _ _ => 0)
          case atStart => exact ⟨rfl, rfl⟩
          case round =>
            obtain ⟨rfl, rfl⟩ := hrel
            go_wp2
            refine wp_scope_straight ?_
            go_wp2
            go_region
            go_wp2
            go_region_law (first | (go_simp; with_reducible refine (HI.out _ _ (by first | exact dn0 | exact dn1 | (rw [show ByteArray.empty.1.toList = ([] : List UInt8) from rfl]; exact dn0))).mono ?_; intro e w' h; obtain ⟨rfl, h2⟩ := h; subst w'; dsimp only))
            all_goals
              go_wp2
              dsimp +zetaDelta only [Exit.inBlock, Exit.noGoto, Exit.then]
              go_ret
              exact ⟨rfl, (by repeat (first | exact Below.refl _ _ | assumption | refine below_grown ?_ (by first | omega | (simp [go_sem]; done) | (simp [go_sem] <;> omega)) _ | refine Below.alloc ?_ (by first | omega | (simp [go_sem]; done) | (simp [go_sem] <;> omega)) _ | refine below_bytesW ?_ (by first | omega | (simp [go_sem]; done) | (simp [go_sem] <;> omega)) _ | refine Below.drew ?_ | refine below_drewN ?_ _))⟩
      · rcases hcs with rfl | rfl
        · go_enter Tryz.func99, Tryz.ntmps99
          go_wp2_with (go_at_call 116; refine (HV.out _).mono ?_; intro e w' h; obtain ⟨rfl, h2⟩ := h; subst w')
          refine wp_scope_straight ?_
          go_wp2
          go_loop [9, 10, 11, 12] (fun i f _ _ => i = .int .i64 2 ∧ f = .int .i64 0) (fun _ _ _ _ => 0)
          case atStart => exact ⟨rfl, rfl⟩
          case round =>
            obtain ⟨rfl, rfl⟩ := hrel
            go_wp2
            refine wp_scope_straight ?_
            go_wp2
            go_region
            go_wp2
            go_region_law (first | (go_simp; with_reducible refine (HI.out _ _ (by first | exact dn0 | exact dn1 | (rw [show ByteArray.empty.1.toList = ([] : List UInt8) from rfl]; exact dn0))).mono ?_; intro e w' h; obtain ⟨rfl, h2⟩ := h; subst w'; dsimp only))
            all_goals
              go_wp2
              dsimp +zetaDelta only [Exit.inBlock, Exit.noGoto, Exit.then]
              go_ret
              exact ⟨rfl, (by repeat (first | exact Below.refl _ _ | assumption | refine below_grown ?_ (by first | omega | (simp [go_sem]; done) | (simp [go_sem] <;> omega)) _ | refine Below.alloc ?_ (by first | omega | (simp [go_sem]; done) | (simp [go_sem] <;> omega)) _ | refine below_bytesW ?_ (by first | omega | (simp [go_sem]; done) | (simp [go_sem] <;> omega)) _ | refine Below.drew ?_ | refine below_drewN ?_ _))⟩
        · go_enter Tryz.func99, Tryz.ntmps99
          go_wp2_with (go_at_call 116; refine (HV.out _).mono ?_; intro e w' h; obtain ⟨rfl, h2⟩ := h; subst w')
          refine wp_scope_straight ?_
          go_wp2
          go_loop [9, 10, 11, 12] (fun i f _ _ => i = .int .i64 2 ∧ f = .int .i64 0) (fun _ _ _ _ => 0)
          case atStart => exact ⟨rfl, rfl⟩
          case round =>
            obtain ⟨rfl, rfl⟩ := hrel
            go_wp2
            go_ret
            exact ⟨rfl, (by repeat (first | exact Below.refl _ _ | assumption | refine below_grown ?_ (by first | omega | (simp [go_sem]; done) | (simp [go_sem] <;> omega)) _ | refine Below.alloc ?_ (by first | omega | (simp [go_sem]; done) | (simp [go_sem] <;> omega)) _ | refine below_bytesW ?_ (by first | omega | (simp [go_sem]; done) | (simp [go_sem] <;> omega)) _ | refine Below.drew ?_ | refine below_drewN ?_ _))⟩
      · rcases hcs with rfl | rfl
        · go_enter Tryz.func99, Tryz.ntmps99
          go_wp2_with (go_at_call 116; refine (HV.out _).mono ?_; intro e w' h; obtain ⟨rfl, h2⟩ := h; subst w')
          refine wp_scope_straight ?_
          go_wp2
          go_loop [9, 10, 11, 12] (fun i f _ _ => i = .int .i64 3 ∧ f = .int .i64 0) (fun _ _ _ _ => 0)
          case atStart => exact ⟨rfl, rfl⟩
          case round =>
            obtain ⟨rfl, rfl⟩ := hrel
            go_wp2
            go_ret
            exact ⟨rfl, (by repeat (first | exact Below.refl _ _ | assumption | refine below_grown ?_ (by first | omega | (simp [go_sem]; done) | (simp [go_sem] <;> omega)) _ | refine Below.alloc ?_ (by first | omega | (simp [go_sem]; done) | (simp [go_sem] <;> omega)) _ | refine below_bytesW ?_ (by first | omega | (simp [go_sem]; done) | (simp [go_sem] <;> omega)) _ | refine Below.drew ?_ | refine below_drewN ?_ _))⟩
        · go_enter Tryz.func99, Tryz.ntmps99
          go_wp2_with (go_at_call 116; refine (HV.out _).mono ?_; intro e w' h; obtain ⟨rfl, h2⟩ := h; subst w')
          refine wp_scope_straight ?_
          go_wp2
          go_loop [9, 10, 11, 12] (fun i f _ _ => i = .int .i64 3 ∧ f = .int .i64 0) (fun _ _ _ _ => 0)
          case atStart => exact ⟨rfl, rfl⟩
          case round =>
            obtain ⟨rfl, rfl⟩ := hrel
            go_wp2
            go_ret
            exact ⟨rfl, (by repeat (first | exact Below.refl _ _ | assumption | refine below_grown ?_ (by first | omega | (simp [go_sem]; done) | (simp [go_sem] <;> omega)) _ | refine Below.alloc ?_ (by first | omega | (simp [go_sem]; done) | (simp [go_sem] <;> omega)) _ | refine below_bytesW ?_ (by first | omega | (simp [go_sem]; done) | (simp [go_sem] <;> omega)) _ | refine Below.drew ?_ | refine below_drewN ?_ _))⟩
end

section
open Go Go.RowKit
set_option maxRecDepth 20000
set_option linter.unusedSimpArgs false
set_option linter.unusedVariables false

theorem decode_run (s : ByteArray) (pos : Nat) (h : pos < s.size) (ha : 128 ≤ (s[pos]'h).toNat) (k : Nat) (hk : k < (Utf8.decode s pos).2) : 128 ≤ (s.get! (pos + k)).toNat := by
  have h0 : 128 ≤ (s.get! (pos + 0)).toNat := by rw [get_at s pos h]; exact ha
  have hn : ¬ (s.get! (pos + 0)).toNat < 128 := by omega
  simp only [Utf8.decode, hn, if_false] at hk
  have c : k = 0 ∨ k = 1 ∨ k = 2 ∨ k = 3 ∨ 4 ≤ k := by omega
  rcases c with rfl | rfl | rfl | rfl | hc
  · exact h0
  all_goals
    revert hk
    repeat' split
    all_goals intro hk
    all_goals simp_all
    all_goals omega
theorem iterAt_heap {w : World} {k : Nat} {S : ByteArray} {p q : Nat} (h : w.heap[k]? = some (.stringIter S p)) : (w.iterAt k S q).heap[k]? = some (.stringIter S q) := by
  have hl := (Array.getElem?_eq_some_iff.1 h).1
  simp [World.iterAt, Array.getElem?_setIfInBounds, hl]
theorem iterAt_below {B k : Nat} {w w2 : World} (h : Below B w w2) (hB : B ≤ k) (S : ByteArray) (q : Nat) : Below B w (w2.iterAt k S q) :=
  ⟨h.os, h.tape, h.output, by simp [World.iterAt]; exact h.size, fun j hj => by
    rw [show (w2.iterAt k S q).heap[j]? = w2.heap[j]? by simp [World.iterAt, Array.getElem?_setIfInBounds]; intro e; omega]
    exact h.block j hj⟩
theorem slash_no {cs : List UInt8} (hcs : slashes cs) (c : UInt8) (h : 128 ≤ c.toNat) : cs.contains c = false := by
  have key : ∀ i : Fin 256, 128 ≤ i.val → ([47, 63, 35] : List UInt8).contains (UInt8.ofNat i.val) = false ∧ ([63, 35] : List UInt8).contains (UInt8.ofNat i.val) = false := by decide +kernel
  have := key ⟨c.toNat, c.toNat_lt⟩ h
  simp only [UInt8.ofNat_toNat] at this
  rcases hcs with rfl | rfl
  · exact this.1
  · exact this.2
theorem ba_get (s : List UInt8) (j : Nat) (b : UInt8) (h : s[j]? = some b) : (ByteArray.mk s.toArray).get! j = b := by
  obtain ⟨hl, rfl⟩ := List.getElem?_eq_some_iff.1 h
  show (s.toArray)[j]! = _
  simp [hl]
theorem noAny_run {s cs : List UInt8} (hcs : slashes cs) {i : Nat} (h : Lib.NoAny s cs i) (hi : i < (ByteArray.mk s.toArray).size) (ha : 128 ≤ ((ByteArray.mk s.toArray)[i]'hi).toNat) : Lib.NoAny s cs (i + (Utf8.decode ⟨s.toArray⟩ i).2) := fun j b hj hb => by
  by_cases e : j < i
  · exact h j b e hb
  · have hk := decode_run ⟨s.toArray⟩ i hi ha (j - i) (by omega)
    rw [show i + (j - i) = j by omega, ba_get s j b hb] at hk
    exact slash_no hcs b hk
set_option maxHeartbeats 4000000 in
theorem indexAny_any (s cs : List UInt8) (hs : s.length ≤ 4294967000) (hcs : slashes cs) (w : World) :
    Calls Tryz.prog 82 #[.string ⟨s.toArray⟩, .string ⟨cs.toArray⟩] w fun e w' => e = .returned (.int .i64 (Lib.indexAny s cs)) ∧ Below w.heap.size w w' := by
  have hsz : (ByteArray.mk s.toArray).size = s.length := by simp [ByteArray.size]
  by_cases h8 : 8 < s.length
  · have hca : ∀ (j : Nat) b, cs[j]? = some b → b.toNat < 128 := fun j b hb => by
      rcases Nat.lt_or_ge b.toNat 128 with h | h
      · exact h
      · have := slash_no hcs b h
        have hm := List.mem_of_getElem? hb
        rw [List.contains_eq_mem] at this
        simp [hm] at this
    refine (Tryz.strings_IndexAny_long (fun w => by kernel_rfl) ⟨s.toArray⟩ ⟨cs.toArray⟩ w (by rcases hcs with rfl | rfl <;> decide) (by rw [hsz]; exact h8) (by rw [hsz]; omega) (by rcases hcs with rfl | rfl <;> decide) (by simpa using hca)).mono fun e w' ⟨e1, e2⟩ => ⟨by simpa using e1, ?_⟩
    rw [e2]
    exact (by repeat (first | exact Below.refl _ _ | assumption | refine below_grown ?_ (by first | omega | (simp [go_sem]; done) | (simp [go_sem] <;> omega)) _ | refine Below.alloc ?_ (by first | omega | (simp [go_sem]; done) | (simp [go_sem] <;> omega)) _ | refine below_bytesW ?_ (by first | omega | (simp [go_sem]; done) | (simp [go_sem] <;> omega)) _ | refine Below.drew ?_ | refine below_drewN ?_ _))
  · have h8z : decide ((8 : Int) < (s.length : Int)) = false := decide_eq_false (by omega)
    have HU : Hid (∀ w, Calls Tryz.prog 100 #[.int .i64 (s.length : Int)] w fun e w' => e = .returned (.bool false) ∧ w = w') := fun w =>
      (Tryz.strings_shouldUseASCIISet (s.length : Int) w).mono fun e w' ⟨e1, e2⟩ => ⟨by rw [e1, h8z], e2.symm⟩
    have HR : Hid (∀ (r : Nat) (w : World), 128 ≤ r → r ≤ 2147483647 → Calls Tryz.prog 99 #[.string ⟨cs.toArray⟩, .int .i32 (r : Int)] w fun e w' => e = .returned (.int .i64 (-1)) ∧ Below w.heap.size w w') := fun r w a b => indexRune_high cs hcs r a b w
    have HRA : Hid (∀ (x : UInt8) (w : World), x.toNat < 128 → Calls Tryz.prog 99 #[.string ⟨cs.toArray⟩, .int .i32 (x.toNat : Int)] w fun e w' => e = .returned (.int .i64 (Lib.indexByte cs x)) ∧ w = w') := fun x w a =>
      (Tryz.strings_IndexRune_ascii ⟨cs.toArray⟩ (x.toNat : Int) w (by omega) (by omega)).mono fun e w' ⟨e1, e2⟩ => ⟨by rw [e1]; simp, e2.symm⟩
    have HCS := Lib.hid hcs
    have hn1 : ((cs.length : Int) == 1) = false := by rcases hcs with rfl | rfl <;> decide
    have hemp : cs.isEmpty = false := by rcases hcs with rfl | rfl <;> rfl
    have hemp2 : (cs == []) = false := by rcases hcs with rfl | rfl <;> rfl
    clear hcs
    go_enter Tryz.func82, Tryz.ntmps82
    go_wp2_with (go_at_call 100; refine (HU.out _).mono ?_; intro e w' h; obtain ⟨rfl, h2⟩ := h; subst w')
    obtain ⟨B, hB⟩ : ∃ B, B = w.heap.size := ⟨_, rfl⟩
    go_loopg [9, 10] s.length (fun g _ _ wx => ∃ i : Nat, s.length ≤ i + g ∧ wx.heap[w.heap.size]? = some (.stringIter ⟨s.toArray⟩ i) ∧ Below w.heap.size w wx ∧ Lib.NoAny s cs i)
    case atStart => exact ⟨0, by omega, World.iter_heap _ _ _, (Below.refl _ _).alloc (Nat.le_refl _) _, Lib.NoAny.zero _ _⟩
    case round =>
      obtain ⟨i, hig, hit, hb, hno⟩ := hrel
      have HN := Lib.hid hno
      have HIT := Lib.hid hit
      have HB := Lib.hid hb
      clear hno hb
      by_cases hi : i < s.length
      · cases gk with
        | zero => omega
        | succ g =>
          have hi' : i < (ByteArray.mk s.toArray).size := by rw [hsz]; exact hi
          obtain ⟨x, hx⟩ : ∃ x : UInt8, (ByteArray.mk s.toArray)[i]'hi' = x := ⟨_, rfl⟩
          have hxs : s[i]? = some x := by rw [List.getElem?_eq_getElem hi, ← hx]; rfl
          by_cases h128 : x.toNat < 128
          · have hnx := fun ty => Lib.run_next_ascii_at (P := Tryz.prog) _ w.heap.size ⟨s.toArray⟩ i ty hit hi' (by rw [hx]; exact h128)
            rw [hx] at hnx
            have HXS := Lib.hid hxs
            have hcon := Lib.contains_iff_indexByte cs x
            have HRX := Lib.hid (fun w => HRA.out x w h128)
            clear hit hx hxs
            cases hin : cs.contains x
            · rw [hin] at hcon
              have hlt : ¬ ((0 : Int) ≤ Lib.indexByte cs x) := of_decide_eq_false hcon.symm
              clear hcon
              go_wp2_with (go_at_call 99; refine (HRX.out _).mono ?_; intro e w' h; obtain ⟨rfl, h2⟩ := h; subst w')
              go_roundg g
              case measure => omega
              case rel => exact ⟨i + 1, by omega, iterAt_heap HIT.out, iterAt_below HB.out (Nat.le_refl _) _ _, HN.out.succ HXS.out hin⟩
            · rw [hin] at hcon
              have hge : (0 : Int) ≤ Lib.indexByte cs x := of_decide_eq_true hcon.symm
              have HH : Hid (Lib.indexAny s cs = i) := Lib.indexAny_hit HN.out HXS.out hin
              clear hcon
              go_wp2_with (go_at_call 99; refine (HRX.out _).mono ?_; intro e w' h; obtain ⟨rfl, h2⟩ := h; subst w')
              go_ret
              exact ⟨by rw [HH.out]; rfl, iterAt_below HB.out (Nat.le_refl _) _ _⟩
          · have hnx := fun ty => Lib.run_next_any_at (P := Tryz.prog) _ w.heap.size ⟨s.toArray⟩ i ty hit hi'
            obtain ⟨d1, d2⟩ := decode_high ⟨s.toArray⟩ i hi' (by rw [hx]; omega)
            have d3 := decode_le ⟨s.toArray⟩ i
            have HNR := Lib.hid (noAny_run HCS.out HN.out hi' (by rw [hx]; omega))
            generalize (Utf8.decode ⟨s.toArray⟩ i).1 = r at *
            generalize (Utf8.decode ⟨s.toArray⟩ i).2 = v at *
            have HRX := Lib.hid (fun w => HR.out r w d1 d3)
            clear hit hx hxs
            have hkl := (Array.getElem?_eq_some_iff.1 HIT.out).1
            go_wp2_with (go_at_call 99; refine (HRX.out _).mono ?_; rintro e w1 ⟨rfl, hb1⟩; obtain ⟨p1, rfl⟩ := grown_of hb1; clear hb1)
            go_roundg g
            case measure => omega
            case rel => exact ⟨i + v, by omega, ((below_grown' _ _).block _ (Array.getElem?_eq_some_iff.1 (iterAt_heap HIT.out)).1).trans (iterAt_heap HIT.out), below_grown (iterAt_below HB.out (Nat.le_refl _) _ _) (by simp [World.iterAt]; omega) _, HNR.out⟩
      · have hnx := fun ty => Lib.run_next_end_at (P := Tryz.prog) _ w.heap.size ⟨s.toArray⟩ i ty hit (by rw [hsz]; exact hi)
        have HE : Hid (Lib.indexAny s cs = -1) := Lib.indexAny_none (fun j b hj hb => HN.out j b (by omega) hb)
        clear hit
        go_wp2
        go_ret
        exact ⟨by rw [HE.out]; rfl, HB.out⟩
end
end Go.Proofs.YtnkckejbkbbdlaaGreatDoor
