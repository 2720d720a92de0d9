/- The walk of group: the number of one to four digits of sixteen. -/
import Derived.Test.YtmfjabpmhkechaaGreatDoorAddrFrom
import Derived.Test.YtmfjabpmhkechaaGreatDoorShelf
namespace Go.Proofs.YtmfjabpmhkechaaGreatDoor
open Go Go.RowKit
set_option maxRecDepth 20000
set_option linter.unusedSimpArgs false
set_option linter.unusedVariables false

def grpR (s : List UInt8) : UInt16 := if grpOk s = true then grpV s else 0
theorem grp_no {s : List UInt8} (h : grpOk s = false) : grpR s = 0 := by simp [grpR, h]
theorem grp_yes {s : List UInt8} (h : grpOk s = true) : grpR s = grpV s := by simp [grpR, h]
theorem all_take_hex (l : List UInt8) (k : Nat) (h : k < l.length) : hexAll (l.take (k + 1)) = (hexAll (l.take k) && decide (0 ≤ hexD (l[k]'h))) := by
  rw [hexAll, List.take_succ_eq_append_getElem h, List.all_append]; simp [hexAll]
theorem hexAll_get (l : List UInt8) (k : Nat) (h : k < l.length) (hn : hexD (l[k]'h) < 0) : grpOk l = false := by
  have : hexAll l = false := by
    rw [hexAll, List.all_eq_false]
    exact ⟨l[k]'h, List.getElem_mem h, by simpa using hn⟩
  simp [grpOk, this]
theorem hexN_step (n : Nat) (d : Int) (hn : n < 4096) (h0 : 0 ≤ d) (h1 : d < 16) : bits .or .u16 ((n : Int) * 16) d = ((16 * n + d.toNat : Nat) : Int) := by
  obtain ⟨m, rfl⟩ : ∃ m : Nat, d = m := ⟨d.toNat, by omega⟩
  have e1 : (n : Int) * 16 = ((2 ^ 4 * n : Nat) : Int) := by push_cast; omega
  rw [e1, u16_or_nat _ _ (by omega) (by omega), ← Nat.two_pow_add_eq_or_of_lt (by omega)]
  simp
theorem hexN_small (l : List UInt8) (k : Nat) (h : k < l.length) (h4 : l.length ≤ 4) : hexN (l.take k) < 4096 := by
  have h1 := hexN_lt l k (by omega)
  have h2 : 16 ^ k ≤ 16 ^ 3 := Nat.pow_le_pow_right (by decide) (by omega)
  have h3 : (16 : Nat) ^ 3 = 4096 := by decide
  omega
theorem ixb_any (c : UInt8) (w : World) : Calls Tryz.prog 95 #[.string ⟨[48, 49, 50, 51, 52, 53, 54, 55, 56, 57, 97, 98, 99, 100, 101, 102].toArray⟩, .int .u8 (c.toNat : Int)] w fun e w' => e = .returned (.int .i64 (hexV c)) ∧ w = w' := by
  refine (Tryz.strings_IndexByte ⟨[48, 49, 50, 51, 52, 53, 54, 55, 56, 57, 97, 98, 99, 100, 101, 102].toArray⟩ (c.toNat : Int) w).mono fun e w1 ⟨he, hw⟩ => ⟨?_, hw.symm⟩
  rw [he, hexV]
  simp
set_option maxHeartbeats 1000000 in
theorem group_any (l : List UInt8) (hl : l.length ≤ 4294967280) (w : World) :
    Calls Tryz.prog 120 #[.string ⟨l.toArray⟩] w fun e w' => e = .returned (.tuple #[.int .u16 ((grpR l).toNat : Int), .bool (grpOk l)]) ∧ Below w.heap.size w w' := by
  by_cases h1 : l.length < 1
  · have hok : grpOk l = false := by simp [grpOk]; omega
    rw [grp_no hok, hok]
    clear hok
    go_enter Tryz.func120, Tryz.ntmps120
    go_wp2
    go_ret2
    exact ⟨rfl, (by repeat (first | exact Below.refl _ _ | assumption | refine below_grown ?_ (by first | omega | (simp [go_sem]; done) | (simp [go_sem] <;> omega)) _ | refine Below.alloc ?_ (by first | omega | (simp [go_sem]; done) | (simp [go_sem] <;> omega)) _ | refine below_bytesW ?_ (by first | omega | (simp [go_sem]; done) | (simp [go_sem] <;> omega)) _ | refine Below.drew ?_ | refine below_drewN ?_ _))⟩
  · by_cases h4 : 4 < l.length
    · have hok : grpOk l = false := by simp [grpOk]; omega
      rw [grp_no hok, hok]
      clear hok
      go_enter Tryz.func120, Tryz.ntmps120
      go_wp2
      go_ret2
      exact ⟨rfl, (by repeat (first | exact Below.refl _ _ | assumption | refine below_grown ?_ (by first | omega | (simp [go_sem]; done) | (simp [go_sem] <;> omega)) _ | refine Below.alloc ?_ (by first | omega | (simp [go_sem]; done) | (simp [go_sem] <;> omega)) _ | refine below_bytesW ?_ (by first | omega | (simp [go_sem]; done) | (simp [go_sem] <;> omega)) _ | refine Below.drew ?_ | refine below_drewN ?_ _))⟩
    · have hml : l.length ≤ maxLen := by unfold maxLen; omega
      have hlo : Hid (∀ w, Calls Tryz.prog 72 #[.string ⟨l.toArray⟩] w fun e w' => e = .returned (.string ⟨(lowerL l).toArray⟩) ∧ Below w.heap.size w w') := fun w => lower_any l hml w
      have hle1 : (lowerL l).length ≤ l.length := by simp [lowerL]
      have hle2 : l.length ≤ (lowerL l).length := by simp [lowerL]
      have HG : Hid (∀ k (h : k < l.length) (h' : k < (lowerL l).length), (lowerL l)[k]'h' = lowC (l[k]'h)) := fun k h h' => by simp [lowerL]
      generalize lowerL l = m at *
      have HNO : Hid (grpOk l = false → grpR l = 0) := fun h => grp_no h
      have HYES : Hid (hexAll l = true → grpOk l = true ∧ grpR l = grpV l ∧ (grpV l).toNat = hexN l) := fun h => by
        have hok : grpOk l = true := by rw [grpOk, h]; simp; omega
        exact ⟨hok, grp_yes hok, grpV_nat l (by omega)⟩
      have HBAD : Hid (∀ k (h : k < l.length), hexD (l[k]'h) < 0 → grpOk l = false) := fun k h hn => hexAll_get l k h hn
      generalize hR : grpR l = R at *
      generalize hO : grpOk l = ok at *
      have HRO := Lib.hid (And.intro hR hO)
      clear hR hO
      go_enter Tryz.func120, Tryz.ntmps120
      go_wp2_with (go_at_call 72; refine (hlo.out _).mono ?_; rintro e w1 ⟨rfl, hb1⟩; obtain ⟨p1, rfl⟩ := grown_of hb1; clear hb1)
      go_loopw [4, 20] (fun n i wr => ∃ k : Nat, k ≤ l.length ∧ i = .int .i64 k ∧ n = .int .u16 (hexN (l.take k) : Int) ∧ Below (bytesW (grown w p1) m).heap.size (bytesW (grown w p1) m) wr ∧ Hid (hexAll (l.take k) = true)) (fun _ i _ => m.length - (intOf i).toNat)
      case atStart => exact ⟨0, Nat.zero_le _, rfl, rfl, Below.refl _ _, rfl⟩
      case round =>
        obtain ⟨k, hk, rfl, rfl, hb, hinv⟩ := hrel
        have HBB : Hid (Below w.heap.size w wr) := (below_bytesW (below_grown (Below.refl _ _) (Nat.le_refl _) _) (by simp [go_sem]) _).trans (hb.mono (by simp [go_sem]; omega))
        by_cases hlt : k < l.length
        · have hltm : k < m.length := by omega
          have hcell := bytesW_cell_after hb (b := w.heap.size + p1.os.size) (by simp [go_sem]) k hltm
          rw [HG.out k hlt hltm] at hcell
          obtain ⟨hd1, hd2⟩ := hexD_lt (l[k]'hlt)
          have hsm := hexN_small l k hlt (by omega)
          have HE := Lib.hid (hexN_take l k hlt)
          have HAS := Lib.hid (all_take_hex l k hlt)
          have HBK := Lib.hid (HBAD.out k hlt)
          have HST : Hid (∀ n : Nat, n < 4096 → 0 ≤ hexD (l[k]'hlt) → bits .or .u16 ((n : Int) * 16) (hexD (l[k]'hlt)) = ((16 * n + (hexD (l[k]'hlt)).toNat : Nat) : Int)) := fun n hn h0 => hexN_step n _ hn h0 hd1
          have HIX : Hid (∀ w, Calls Tryz.prog 95 #[.string ⟨[48, 49, 50, 51, 52, 53, 54, 55, 56, 57, 97, 98, 99, 100, 101, 102].toArray⟩, .int .u8 ((lowC (l[k]'hlt)).toNat : Int)] w fun e w' => e = .returned (.int .i64 (hexD (l[k]'hlt))) ∧ w = w') := fun w =>
            ixb_any _ w
          generalize hexD (l[k]'hlt) = d at *
          generalize lowC (l[k]'hlt) = c at *
          generalize hexN (l.take k) = n at *
          by_cases hneg : d < 0
          · have hok := HBK.out hneg
            have hr0 := HNO.out hok
            subst hok hr0
            go_wp2_with (go_at_call 95; refine (HIX.out _).mono ?_; rintro e w' ⟨rfl, rfl⟩)
            go_ret2
            exact ⟨rfl, HBB.out⟩
          · have HV := Lib.hid (HST.out n hsm (by omega))
            go_wp2_with (go_at_call 95; refine (HIX.out _).mono ?_; rintro e w' ⟨rfl, rfl⟩)
            go_roundw
            case rel => exact ⟨k + 1, by omega, by go_num, by rw [HE.out, HV.out], hb, show _ = true by rw [HAS.out, hinv.out]; simp; omega⟩
            case measure => simp [intOf]; omega
        · obtain rfl : k = l.length := by omega
          have hall := hinv.out
          rw [List.take_length] at hall ⊢
          obtain ⟨rfl, rfl, hv⟩ := HYES.out hall
          have HV := Lib.hid hv
          clear hall hv hinv
          rw [← HV.out]
          go_wp2
          go_ret2
          exact ⟨rfl, HBB.out⟩
end Go.Proofs.YtmfjabpmhkechaaGreatDoor
