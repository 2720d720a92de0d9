/- The walks of letter, label, and of the searches for what is none. -/
import Derived.Test.YtmfjabpmhkechaaGreatDoorHostP
import Derived.Test.YtmfjabpmhkechaaGreatDoorSplitG
namespace Go.Proofs.YtmfjabpmhkechaaGreatDoor
open Go Go.RowKit
set_option maxRecDepth 20000
set_option linter.unusedSimpArgs false
set_option linter.unusedVariables false

theorem labC_cases (c : UInt8) : ((c.toNat : Int) < 48 ∧ (((c.toNat : Int) == 45) = false) ∧ labC c = false) ∨ ((c.toNat : Int) < 48 ∧ (((c.toNat : Int) == 45) = true) ∧ labC c = true) ∨ ((48 : Int) ≤ c.toNat ∧ (c.toNat : Int) ≤ 57 ∧ labC c = true) ∨
    ((57 : Int) < c.toNat ∧ (c.toNat : Int) < 97 ∧ (((c.toNat : Int) == 95) = false) ∧ labC c = false) ∨ ((57 : Int) < c.toNat ∧ (c.toNat : Int) < 97 ∧ (((c.toNat : Int) == 95) = true) ∧ labC c = true) ∨ ((97 : Int) ≤ c.toNat ∧ (c.toNat : Int) ≤ 122 ∧ labC c = true) ∨ ((122 : Int) < c.toNat ∧ labC c = false) := by
  have key : ∀ i : Fin 256, ((i.val : Int) < 48 ∧ (((i.val : Int) == 45) = false) ∧ labC (UInt8.ofNat i.val) = false) ∨ ((i.val : Int) < 48 ∧ (((i.val : Int) == 45) = true) ∧ labC (UInt8.ofNat i.val) = true) ∨ ((48 : Int) ≤ i.val ∧ (i.val : Int) ≤ 57 ∧ labC (UInt8.ofNat i.val) = true) ∨
    ((57 : Int) < i.val ∧ (i.val : Int) < 97 ∧ (((i.val : Int) == 95) = false) ∧ labC (UInt8.ofNat i.val) = false) ∨ ((57 : Int) < i.val ∧ (i.val : Int) < 97 ∧ (((i.val : Int) == 95) = true) ∧ labC (UInt8.ofNat i.val) = true) ∨ ((97 : Int) ≤ i.val ∧ (i.val : Int) ≤ 122 ∧ labC (UInt8.ofNat i.val) = true) ∨ ((122 : Int) < i.val ∧ labC (UInt8.ofNat i.val) = false) := by decide +kernel
  have := key ⟨c.toNat, c.toNat_lt⟩
  simpa using this
theorem letter_any (c : UInt8) (w : World) :
    Calls Tryz.prog 108 #[.int .u8 (c.toNat : Int)] w fun e w' => e = .returned (.bool (labC c)) ∧ w = w' := by
  rcases labC_cases c with ⟨h1, h2, hd⟩ | ⟨h1, h2, hd⟩ | ⟨h1, h2, hd⟩ | ⟨h1, h2, h3, hd⟩ | ⟨h1, h2, h3, hd⟩ | ⟨h1, h2, hd⟩ | ⟨h1, hd⟩
  all_goals
    rw [hd]
    clear hd
    try (have hx : (((c.toNat : Int) == 45) = false) := by rw [beq_eq_false_iff_ne]; omega)
    try (have hy : (((c.toNat : Int) == 95) = false) := by rw [beq_eq_false_iff_ne]; omega)
    go_enter Tryz.func108, Tryz.ntmps108
    go_wp2
    go_ret
    exact ⟨by first | rfl | exact ret_bool (by simp; omega), rfl⟩
theorem noLetter_any (c : UInt8) (w : World) :
    Calls Tryz.prog 107 #[.int .u8 (c.toNat : Int)] w fun e w' => e = .returned (.bool (!labC c)) ∧ w = w' := by
  have HL := Lib.hid (letter_any c)
  generalize labC c = b at *
  go_enter Tryz.func107, Tryz.ntmps107
  go_wp2_with (go_at_call 108; refine (HL.out _).mono ?_; intro e w' h; obtain ⟨rfl, h2⟩ := h; subst w')
  go_ret
  exact ⟨rfl, rfl⟩
theorem any_take_step (l : List UInt8) (p : UInt8 → Bool) (k : Nat) (h : k < l.length) : (l.take (k + 1)).any p = ((l.take k).any p || p (l[k]'h)) := by
  rw [List.take_succ_eq_append_getElem h, List.any_append]; simp
theorem any_at {α : Type} (l : List α) (p : α → Bool) (k : Nat) (h : k < l.length) (hp : p (l[k]'h) = true) : l.any p = true := List.any_eq_true.2 ⟨_, List.getElem_mem h, hp⟩
theorem any_take_stepL (l : List (List UInt8)) (p : List UInt8 → Bool) (k : Nat) (h : k < l.length) : (l.take (k + 1)).any p = ((l.take k).any p || p (l[k]'h)) := by
  rw [List.take_succ_eq_append_getElem h, List.any_append]; simp
/-- IndexFunc hands back a place at or above nought, or -1. -/
theorem indexB_any (l : List UInt8) (hl : l.length ≤ 9223372036854775807) (cap b : Nat) (w : World) (hb : bytesAt w ⟨b, 0, none⟩ l) :
    Calls Tryz.prog 121 #[.slice (some ⟨b, 0, none⟩) l.length cap, .func (.func 107) #[] #[]] w fun e w' => ∃ i : Int, -1 ≤ i ∧ (decide (0 ≤ i) = l.any (fun c => !labC c)) ∧ e = .returned (.int .i64 i) ∧ w = w' := by
  have HBY := Lib.hid hb
  have HANY : Hid (∀ k (h : k < l.length), labC (l[k]'h) = false → l.any (fun c => !labC c) = true) := fun k h hp => any_at l _ k h (by rw [hp]; rfl)
  have HEND : Hid ((l.take l.length).any (fun c => !labC c) = l.any (fun c => !labC c)) := show _ = _ by rw [List.take_length]
  generalize hA : l.any (fun c => !labC c) = A at *
  go_enter Tryz.func121, Tryz.ntmps121
  go_wp2
  go_loop [8, 5] (fun i _ => ∃ k : Nat, k ≤ l.length ∧ i = .int .i64 k ∧ Hid ((l.take k).any (fun c => !labC c) = false)) (fun i _ => l.length - (intOf i).toNat)
  case atStart => exact ⟨0, Nat.zero_le _, rfl, rfl⟩
  case round =>
    obtain ⟨k, hk, rfl, hinv⟩ := hrel
    by_cases hlt : k < l.length
    · have hcell := bytesAt_get HBY.out k hlt
      rw [Nat.zero_add] at hcell
      have HS := Lib.hid (any_take_step l (fun c => !labC c) k hlt)
      have HB := Lib.hid (HANY.out k hlt)
      have HN := Lib.hid (noLetter_any (l[k]'hlt))
      generalize l[k]'hlt = c at *
      cases hc : labC c
      · obtain rfl := HB.out hc
        rw [hc] at HN
        go_wp2_with (go_at_call 107; refine (HN.out _).mono ?_; intro e w' h; obtain ⟨rfl, h2⟩ := h; subst w')
        go_ret
        exact ⟨(k : Int), by omega, by simp, rfl, rfl⟩
      · rw [hc] at HN
        go_wp2_with (go_at_call 107; refine (HN.out _).mono ?_; intro e w' h; obtain ⟨rfl, h2⟩ := h; subst w')
        go_round
        case rel => exact ⟨k + 1, by omega, by go_num, show _ = false by rw [HS.out, hinv.out, hc]; rfl⟩
        case measure => simp [intOf]; omega
    · obtain rfl : k = l.length := by omega
      have hfin : A = false := by rw [← HEND.out]; exact hinv.out
      subst hfin
      go_wp2
      go_ret
      exact ⟨-1, by omega, by simp, rfl, rfl⟩
theorem containsB_any (l : List UInt8) (hl : l.length ≤ 9223372036854775807) (cap b : Nat) (w : World) (hb : bytesAt w ⟨b, 0, none⟩ l) :
    Calls Tryz.prog 106 #[.slice (some ⟨b, 0, none⟩) l.length cap, .func (.func 107) #[] #[]] w fun e w' => e = .returned (.bool (l.any (fun c => !labC c))) ∧ w = w' := by
  have HI := Lib.hid (indexB_any l hl cap b w hb)
  generalize l.any (fun c => !labC c) = A at *
  go_enter Tryz.func106, Tryz.ntmps106
  go_wp2_with (go_at_call 121; refine (HI.out).mono ?_; intro e w' h; obtain ⟨i, hi1, hi2, rfl, h2⟩ := h; subst w')
  go_ret
  exact ⟨by first | exact ret_bool hi2 | rfl, rfl⟩
set_option maxHeartbeats 400000 in
theorem label_any (l : List UInt8) (hl : l.length ≤ maxLen) (w : World) :
    Calls Tryz.prog 77 #[.string ⟨l.toArray⟩] w fun e w' => e = .returned (.bool (labOk l)) ∧ Below w.heap.size w w' := by
  unfold maxLen at hl
  have hall : l.all labC = !l.any (fun c => !labC c) := List.all_eq_not_any_not
  have HC := Lib.hid (fun cap b w hb => containsB_any l (by omega) cap b w hb)
  rw [labOk, hall]
  generalize l.any (fun c => !labC c) = A at *
  clear hall
  cases he : l.isEmpty
  · by_cases h63 : (l.length : Int) ≤ 63
    · have hd : decide (l.length ≤ 63) = true := decide_eq_true (by omega)
      rw [hd]
      go_enter Tryz.func77, Tryz.ntmps77
      go_wp2_with (go_at_call 106; refine (HC.out _ _ _ (bytesAt_bytesW _ _)).mono ?_; intro e w' h; obtain ⟨rfl, h2⟩ := h; subst w')
      go_ret
      exact ⟨by simp, (by repeat (first | exact Below.refl _ _ | assumption | refine below_grown ?_ (by first | omega | (simp [go_sem]; done) | (simp [go_sem] <;> omega)) _ | refine Below.alloc ?_ (by first | omega | (simp [go_sem]; done) | (simp [go_sem] <;> omega)) _ | refine below_bytesW ?_ (by first | omega | (simp [go_sem]; done) | (simp [go_sem] <;> omega)) _ | refine Below.drew ?_ | refine below_drewN ?_ _))⟩
    · have hd : decide (l.length ≤ 63) = false := decide_eq_false (by omega)
      rw [hd]
      go_enter Tryz.func77, Tryz.ntmps77
      go_wp2
      go_ret
      exact ⟨by simp, (by repeat (first | exact Below.refl _ _ | assumption | refine below_grown ?_ (by first | omega | (simp [go_sem]; done) | (simp [go_sem] <;> omega)) _ | refine Below.alloc ?_ (by first | omega | (simp [go_sem]; done) | (simp [go_sem] <;> omega)) _ | refine below_bytesW ?_ (by first | omega | (simp [go_sem]; done) | (simp [go_sem] <;> omega)) _ | refine Below.drew ?_ | refine below_drewN ?_ _))⟩
  · go_enter Tryz.func77, Tryz.ntmps77
    go_wp2
    go_ret
    exact ⟨by simp, (by repeat (first | exact Below.refl _ _ | assumption | refine below_grown ?_ (by first | omega | (simp [go_sem]; done) | (simp [go_sem] <;> omega)) _ | refine Below.alloc ?_ (by first | omega | (simp [go_sem]; done) | (simp [go_sem] <;> omega)) _ | refine below_bytesW ?_ (by first | omega | (simp [go_sem]; done) | (simp [go_sem] <;> omega)) _ | refine Below.drew ?_ | refine below_drewN ?_ _))⟩
theorem noLabel_any (l : List UInt8) (hl : l.length ≤ maxLen) (w : World) :
    Calls Tryz.prog 76 #[.string ⟨l.toArray⟩] w fun e w' => e = .returned (.bool (!labOk l)) ∧ Below w.heap.size w w' := by
  have HL := Lib.hid (label_any l hl)
  generalize labOk l = b at *
  go_enter Tryz.func76, Tryz.ntmps76
  go_wp2_with (go_at_call 77; refine (HL.out _).mono ?_; rintro e w1 ⟨rfl, hb1⟩; obtain ⟨p1, rfl⟩ := grown_of hb1; clear hb1)
  go_ret
  exact ⟨rfl, (by repeat (first | exact Below.refl _ _ | assumption | refine below_grown ?_ (by first | omega | (simp [go_sem]; done) | (simp [go_sem] <;> omega)) _ | refine Below.alloc ?_ (by first | omega | (simp [go_sem]; done) | (simp [go_sem] <;> omega)) _ | refine below_bytesW ?_ (by first | omega | (simp [go_sem]; done) | (simp [go_sem] <;> omega)) _ | refine Below.drew ?_ | refine below_drewN ?_ _))⟩
theorem indexS_any (L : List (List UInt8)) (n cap b o : Nat) (hn : n = L.length) (hl : L.length ≤ 9223372036854775807) (w : World) (hp : ∀ p ∈ L, p.length ≤ maxLen) (hb : b < w.heap.size) (hat : ListAt strCod w b o L) :
    Calls Tryz.prog 105 #[.slice (some ⟨b, o, none⟩) n cap, .func (.func 76) #[] #[]] w fun e w' => ∃ i : Int, -1 ≤ i ∧ (decide (0 ≤ i) = L.any (fun x => !labOk x)) ∧ e = .returned (.int .i64 i) ∧ Below w.heap.size w w' := by
  subst hn
  have HAT := Lib.hid hat
  have HP := Lib.hid hp
  have HANY : Hid (∀ k (h : k < L.length), labOk (L[k]'h) = false → L.any (fun x => !labOk x) = true) := fun k h hp => any_at L _ k h (by rw [hp]; rfl)
  have HEND : Hid ((L.take L.length).any (fun x => !labOk x) = L.any (fun x => !labOk x)) := show _ = _ by rw [List.take_length]
  generalize hA : L.any (fun x => !labOk x) = A at *
  clear hat hp
  go_enter Tryz.func105, Tryz.ntmps105
  go_wp2
  go_loopw [8, 5] (fun i _ wr => ∃ k : Nat, k ≤ L.length ∧ i = .int .i64 k ∧ Below w.heap.size w wr ∧ Hid ((L.take k).any (fun x => !labOk x) = false)) (fun i _ _ => L.length - (intOf i).toNat)
  case atStart => exact ⟨0, Nat.zero_le _, rfl, Below.refl _ _, rfl⟩
  case round =>
    obtain ⟨k, hk, rfl, hbl, hinv⟩ := hrel
    have HBL := Lib.hid hbl
    by_cases hlt : k < L.length
    · have hcell := strAt (HAT.out.below hbl) k hlt
      have HS := Lib.hid (any_take_stepL L (fun x => !labOk x) k hlt)
      have HB := Lib.hid (HANY.out k hlt)
      have HN := Lib.hid (noLabel_any (L[k]'hlt) (HP.out _ (List.getElem_mem hlt)))
      clear hbl
      generalize L[k]'hlt = x at *
      cases hc : labOk x
      · obtain rfl := HB.out hc
        rw [hc] at HN
        go_wp2_with (go_at_call 76; refine (HN.out _).mono ?_; rintro e w1 ⟨rfl, hb1⟩; obtain ⟨p1, rfl⟩ := grown_of hb1; clear hb1)
        go_ret
        exact ⟨(k : Int), by omega, by simp, rfl, below_grown HBL.out HBL.out.size _⟩
      · rw [hc] at HN
        go_wp2_with (go_at_call 76; refine (HN.out _).mono ?_; rintro e w1 ⟨rfl, hb1⟩; obtain ⟨p1, rfl⟩ := grown_of hb1; clear hb1)
        go_roundw
        case rel => exact ⟨k + 1, by omega, by go_num, below_grown HBL.out HBL.out.size _, show _ = false by rw [HS.out, hinv.out, hc]; rfl⟩
        case measure => simp [intOf]; omega
    · obtain rfl : k = L.length := by omega
      have hfin : A = false := by rw [← HEND.out]; exact hinv.out
      subst hfin
      go_wp2
      go_ret
      exact ⟨-1, by omega, by simp, rfl, HBL.out⟩
theorem containsS_any (L : List (List UInt8)) (n cap b o : Nat) (hn : n = L.length) (hl : L.length ≤ 9223372036854775807) (w : World) (hp : ∀ p ∈ L, p.length ≤ maxLen) (hb : b < w.heap.size) (hat : ListAt strCod w b o L) :
    Calls Tryz.prog 75 #[.slice (some ⟨b, o, none⟩) n cap, .func (.func 76) #[] #[]] w fun e w' => e = .returned (.bool (L.any (fun x => !labOk x))) ∧ Below w.heap.size w w' := by
  have HI := Lib.hid (indexS_any L n cap b o hn hl w hp hb hat)
  clear hn
  clear hp hb hat hl
  generalize L.any (fun x => !labOk x) = A at *
  go_enter Tryz.func75, Tryz.ntmps75
  go_wp2_with (go_at_call 105; refine (HI.out).mono ?_; intro e w1 h; obtain ⟨i, hi1, hi2, rfl, hb1⟩ := h; obtain ⟨p1, rfl⟩ := grown_of hb1; clear hb1)
  go_ret
  exact ⟨by first | exact ret_bool hi2 | rfl, (by repeat (first | exact Below.refl _ _ | assumption | refine below_grown ?_ (by first | omega | (simp [go_sem]; done) | (simp [go_sem] <;> omega)) _ | refine Below.alloc ?_ (by first | omega | (simp [go_sem]; done) | (simp [go_sem] <;> omega)) _ | refine below_bytesW ?_ (by first | omega | (simp [go_sem]; done) | (simp [go_sem] <;> omega)) _ | refine Below.drew ?_ | refine below_drewN ?_ _))⟩
end Go.Proofs.YtmfjabpmhkechaaGreatDoor
