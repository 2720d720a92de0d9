/- The walks of Path, Right, usual and Text of URLs. -/
import Derived.Test.YtfnhkpfkaiamjaaDoorUrln
import Derived.Test.YtfnhkpfkaiamjaaDoorUrlPn
import Derived.Test.YtfnhkpfkaiamjaaDoorHostParsen
namespace Go.Proofs.YtfnhkpfkaiamjaaDoor
open Go Go.RowKit
set_option maxRecDepth 20000
set_option linter.unusedSimpArgs false
set_option linter.unusedVariables false

theorem ret_cell_tmp2 {P : Program} {fn : Func} {p u x : Tmp} {ty : TypeId} {R : Ending → World → Prop} {a : Act} {w : World} (g : Nat) (cs : Array Value) (v v2 : Value) (h : fn.results = #[.cell p ty, .tmp u, .tmp x]) (hp : a.tmps.getD p undef = .pointer (some ⟨g, 0, none⟩)) (hv : a.tmps.getD u undef = v) (hx : a.tmps.getD x undef = v2) (hagg : isAggT P ty = true)
    (hr : hasRow w ⟨g, 0, none⟩ (P.cellsOf ty) = true) (hc : rowAt w ⟨g, 0, none⟩ (P.cellsOf ty) = cs) (hd : a.defers = []) (hR : R (.returned (.tuple #[.agg cs, v, v2])) w) : bodyPost P fn R .ret a w := by
  refine bodyPost_ret (v := .tuple #[.agg cs, v, v2]) ?_ hd hR
  have hp' : a.tmps[p]?.getD undef = .pointer (some ⟨g, 0, none⟩) := by simpa using hp
  have hv' : a.tmps[u]?.getD undef = v := by simpa using hv
  have hx' : a.tmps[x]?.getD undef = v2 := by simpa using hx
  have := run_loadVar_agg (P := P) hagg ⟨g, 0, none⟩ w hr
  rw [hc] at this
  simp [results, h, hp', hv', hx', asAddr, this]
theorem pathOk_bad {s : List UInt8} (k : Nat) (h : k < s.length) (hc : pathC (s[k]'h) = false) : pathOk s = false := by
  have : s.all pathC = false := List.all_eq_false.2 ⟨_, List.getElem_mem h, by rw [hc]; decide⟩
  unfold pathOk
  rw [this]; simp
theorem pathOk_first {s : List UInt8} (h : 0 < s.length) (hc : s[0]'h ≠ 47) : pathOk s = false := by
  have : (s.headD 0 == 47) = false := by
    cases s with
    | nil => cases h
    | cons c t => rw [List.headD_cons, beq_eq_false_iff_ne]; exact hc
  unfold pathOk
  rw [this]; simp
theorem pathOk_long {s : List UInt8} (h : 2048 < s.length) : pathOk s = false := by
  unfold pathOk
  rw [decide_eq_false (by omega : ¬ s.length ≤ 2048)]; simp
theorem pathOk_good {s : List UInt8} (h : 0 < s.length) (hc : s[0]'h = 47) (hl : s.length ≤ 2048) (ha : s.all pathC = true) : pathOk s = true := by
  have : (s.headD 0 == 47) = true := by
    cases s with
    | nil => cases h
    | cons c t => rw [List.headD_cons, beq_iff_eq]; exact hc
  unfold pathOk
  rw [this, ha, decide_eq_true hl, decide_eq_true (by omega : 1 ≤ s.length)]; rfl
theorem all_take_path (l : List UInt8) (k : Nat) (h : k < l.length) : (l.take (k + 1)).all pathC = ((l.take k).all pathC && pathC (l[k]'h)) := by
  rw [List.take_succ_eq_append_getElem h, List.all_append]; simp
set_option maxHeartbeats 1000000 in
theorem urlPath_any (s : List UInt8) (hs : s.length ≤ maxLen) (w : World) :
    Calls Tryd.prog 10 #[.string ⟨s.toArray⟩] w fun e w' => e = .returned (.bool (pathOk s)) ∧ Below w.heap.size w w' := by
  unfold maxLen at hs
  rcases Nat.eq_zero_or_pos s.length with h0 | h0
  · obtain rfl := List.length_eq_zero_iff.1 h0
    go_enter Tryd.func10, Tryd.ntmps10
    go_wp2
    go_ret
    exact ⟨rfl, (by repeat (first | exact Below.refl _ _ | assumption | refine below_grown ?_ (by first | omega | (simp [go_sem]; done) | (simp [go_sem] <;> omega)) _ | refine Below.alloc ?_ (by first | omega | (simp [go_sem]; done) | (simp [go_sem] <;> omega)) _ | refine below_bytesW ?_ (by first | omega | (simp [go_sem]; done) | (simp [go_sem] <;> omega)) _ | refine Below.drew ?_ | refine below_drewN ?_ _))⟩
  · have hem : s.isEmpty = false := by rw [List.isEmpty_eq_false_iff]; exact List.length_pos_iff.1 h0
    have hem2 : (s == []) = false := by rw [beq_eq_false_iff_ne]; exact List.length_pos_iff.1 h0
    by_cases h1 : (2048 : Int) < s.length
    · rw [pathOk_long (by omega)]
      go_enter Tryd.func10, Tryd.ntmps10
      go_wp2
      go_ret
      exact ⟨rfl, (by repeat (first | exact Below.refl _ _ | assumption | refine below_grown ?_ (by first | omega | (simp [go_sem]; done) | (simp [go_sem] <;> omega)) _ | refine Below.alloc ?_ (by first | omega | (simp [go_sem]; done) | (simp [go_sem] <;> omega)) _ | refine below_bytesW ?_ (by first | omega | (simp [go_sem]; done) | (simp [go_sem] <;> omega)) _ | refine Below.drew ?_ | refine below_drewN ?_ _))⟩
    · by_cases h2 : s[0]'h0 = 47
      · have h2' : ∀ h, (((s[0]'h).toNat : Int) != 47) = false := fun h => by rw [h2]; rfl
        have HBAD : Hid (∀ k (h : k < s.length), pathC (s[k]'h) = false → pathOk s = false) := fun k h hc => pathOk_bad k h hc
        have HALL : Hid ((s.take s.length).all pathC = true → pathOk s = true) := fun h => pathOk_good h0 h2 (by omega) (by rwa [List.take_length] at h)
        generalize pathOk s = ok at *
        clear h2
        go_enter Tryd.func10, Tryd.ntmps10
        go_wp2
        go_loopw [20, 4] (fun i _ wr => ∃ k : Nat, k ≤ s.length ∧ i = .int .i64 k ∧ Below (bytesW w s).heap.size (bytesW w s) wr ∧ Hid ((s.take k).all pathC = true)) (fun i _ _ => s.length - (intOf i).toNat)
        case atStart => exact ⟨0, Nat.zero_le _, rfl, Below.refl _ _, rfl⟩
        case round =>
          obtain ⟨k, hk, rfl, hb, hinv⟩ := hrel
          have HB := Lib.hid (Below.trans (below_bytesW (Below.refl w.heap.size w) (Nat.le_refl _) s) (hb.mono (by simp [go_sem])))
          by_cases hlt : k < s.length
          · have hcell := bytesW_cell_after hb (b := w.heap.size) rfl k hlt
            have HS := Lib.hid (all_take_path s k hlt)
            have HBK := Lib.hid (HBAD.out k hlt)
            generalize s[k]'hlt = c at *
            rcases pathC_cases c with ⟨c1, hc⟩ | ⟨c1, hc⟩ | ⟨c1, c2, c3, c4, hc⟩ | ⟨c1, c2, c3, c4, hc⟩ | ⟨c1, c2, c3, c4, hc⟩
            · obtain rfl := HBK.out hc
              go_wp2
              go_ret
              exact ⟨rfl, HB.out⟩
            · obtain rfl := HBK.out hc
              have c1' : ¬ (c.toNat : Int) < 33 := by omega
              go_wp2
              go_ret
              exact ⟨rfl, HB.out⟩
            · obtain rfl := HBK.out hc
              have c1' : ¬ (c.toNat : Int) < 33 := by omega
              have c2' : ¬ (126 : Int) < (c.toNat : Int) := by omega
              go_wp2
              go_ret
              exact ⟨rfl, HB.out⟩
            · obtain rfl := HBK.out hc
              have c1' : ¬ (c.toNat : Int) < 33 := by omega
              have c2' : ¬ (126 : Int) < (c.toNat : Int) := by omega
              go_wp2
              go_ret
              exact ⟨rfl, HB.out⟩
            · have c1' : ¬ (c.toNat : Int) < 33 := by omega
              have c2' : ¬ (126 : Int) < (c.toNat : Int) := by omega
              go_wp2
              go_roundw
              case rel => exact ⟨k + 1, by omega, by go_num, hb, show _ = true by rw [HS.out, hinv.out, hc]; rfl⟩
              case measure => simp [intOf]; omega
          · obtain rfl : k = s.length := by omega
            obtain rfl := HALL.out hinv.out
            clear hinv HALL
            go_wp2
            go_ret
            exact ⟨rfl, HB.out⟩
      · rw [pathOk_first h0 h2]
        have h2' : ∀ h, (((s[0]'h).toNat : Int) != 47) = true := fun h => by rw [u8_lit_ne _ 47 47 rfl]; simpa using h2
        clear h2
        go_enter Tryd.func10, Tryd.ntmps10
        go_wp2
        go_ret
        exact ⟨rfl, (by repeat (first | exact Below.refl _ _ | assumption | refine below_grown ?_ (by first | omega | (simp [go_sem]; done) | (simp [go_sem] <;> omega)) _ | refine Below.alloc ?_ (by first | omega | (simp [go_sem]; done) | (simp [go_sem] <;> omega)) _ | refine below_bytesW ?_ (by first | omega | (simp [go_sem]; done) | (simp [go_sem] <;> omega)) _ | refine Below.drew ?_ | refine below_drewN ?_ _))⟩
theorem usual_any (safe : Bool) (w : World) :
    Calls Tryd.prog 14 #[.bool safe] w fun e w' => e = .returned (.tuple #[.string ⟨(usualT safe).toArray⟩, .int .i64 (usualP safe)]) ∧ w = w' := by
  cases safe
  all_goals
    go_enter Tryd.func14, Tryd.ntmps14
    go_wp2
    go_ret2
    exact ⟨rfl, rfl⟩
end Go.Proofs.YtfnhkpfkaiamjaaDoor
