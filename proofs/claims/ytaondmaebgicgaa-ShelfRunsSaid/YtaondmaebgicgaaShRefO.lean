/- The document's Oldest walked. -/
import Derived.Test.YtaondmaebgicgaaShRefD
namespace Go.Proofs.Ytaondmaebgicgaa
open Go Go.RowKit
set_option maxRecDepth 20000
set_option linter.unusedSimpArgs false
set_option linter.unusedVariables false

def siteP (al : Bool) (s : List UInt8) : GKept → Bool := fun k => al || k.2 == s
theorem oldW_take (p : GKept → Bool) (W : List GKept) (j : Nat) (hj : j < W.length) : oldW p (W.take (j + 1)) = oldStep p (oldW p (W.take j)) (W[j]'hj) := by
  unfold oldW
  rw [List.take_succ_eq_append_getElem hj, List.foldl_append]
  rfl
theorem var_setRow_ck {w : World} {b : Nat} {cs : List Value} (h : Var w b cs) (c : GCookie) : Var (w.setRow b (cookieC c)) b (cookieL c) := h.setRow (cookieL c)
set_option maxRecDepth 100000 in
set_option maxHeartbeats 4000000 in
theorem refOldest_any (W : List GKept) (a : Option Addr) (cap last : Nat) (s : List UInt8) (al : Bool) (hW : W.length ≤ 1000) (w : World) (hin : ListIn dkCod w a W 0) :
    Calls Try.prog 33 #[.agg (shC a W.length cap last), .string ⟨s.toArray⟩, .bool al] w fun e w' => e = .returned (.tuple #[.agg (cookieC (oldW (siteP al s) W).2.1), .bool (oldW (siteP al s) W).1]) ∧ Below w.heap.size w w' := by
  have HIN := Lib.hid hin
  clear hin
  go_enter Try.func33, Try.ntmps33
  go_wp2_with fail
  change Code.wp _ _ _ _ (((w.alloc (.cells (shC a W.length cap last) 50)).alloc (.cells (cookieC zeroCk) 31)).alloc (.cells (cookieC zeroCk) 31))
  have hv8 : Var (((w.alloc (.cells (shC a W.length cap last) 50)).alloc (.cells (cookieC zeroCk) 31)).alloc (.cells (cookieC zeroCk) 31)) (w.heap.size + 1 + 1) (cookieL zeroCk) := Var.new _ _ _ rfl (by simp)
  have hv6 : Var (((w.alloc (.cells (shC a W.length cap last) 50)).alloc (.cells (cookieC zeroCk) 31)).alloc (.cells (cookieC zeroCk) 31)) (w.heap.size + 1) (cookieL zeroCk) := (Var.new _ _ _ rfl (by simp)).alloc _
  have hb2 : Below w.heap.size w (((w.alloc (.cells (shC a W.length cap last) 50)).alloc (.cells (cookieC zeroCk) 31)).alloc (.cells (cookieC zeroCk) 31)) := (by repeat (first | exact Below.refl _ _ | assumption | refine below_grown ?_ (by first | omega | (simp [go_sem]; done) | (simp [go_sem] <;> omega)) _ | refine Below.alloc ?_ (by first | omega | (simp [go_sem]; done) | (simp [go_sem] <;> omega)) _ | refine below_bytesW ?_ (by first | omega | (simp [go_sem]; done) | (simp [go_sem] <;> omega)) _ | refine Below.drew ?_ | refine below_drewN ?_ _))
  have HV8 := Lib.hid hv8
  have HV6 := Lib.hid hv6
  have HB2 := Lib.hid hb2
  clear hv8 hv6 hb2
  generalize (((w.alloc (.cells (shC a W.length cap last) 50)).alloc (.cells (cookieC zeroCk) 31)).alloc (.cells (cookieC zeroCk) 31)) = w2 at *
  go_loopw [9, 16] (fun s9 s16 wr => ∃ (j : Nat) (f : Bool) (b : GKept), s16 = .int .i64 (j : Int) ∧ j ≤ W.length ∧ s9 = .bool f ∧ oldW (siteP al s) (W.take j) = (f, b) ∧ Var wr (w.heap.size + 1 + 1) (cookieL b.1) ∧ hasVar wr (w.heap.size + 1) 29 = true ∧ Below w.heap.size w wr) (fun _ q _ => W.length - (intOf q).toNat)
  case atStart => exact ⟨0, false, zeroKt, rfl, Nat.zero_le _, rfl, rfl, HV8.out, HV6.out.has (cookieL_length _), HB2.out⟩
  case round =>
    obtain ⟨j, f, b, rfl, hj, rfl, hold, hv8, hv6, hbr⟩ := hrel
    have hzr := hbr.size
    have HBW := Lib.hid hbr
    have HOL := Lib.hid hold
    have HV8r := Lib.hid hv8
    have HV6r := Lib.hid hv6
    have hl8 := hv8.lt
    clear hbr hold hv6
    by_cases hlt : j < W.length
    · obtain ⟨g, o, rfl, hlo, hhi, hat⟩ := HIN.out.resolve_left (fun h => by subst h; exact absurd hlt (Nat.not_lt_zero _))
      obtain ⟨r1, q1⟩ := dkRow (hat.below HBW.out) j hlt
      have hio : isOld g wr = true := isOld_iff.2 (by omega)
      have hjj : (j : Int) < (W.length : Int) := by omega
      have HTK : Hid (oldW (siteP al s) (W.take (j + 1)) = oldStep (siteP al s) (f, b) (W[j]'hlt)) := by
        show _ = _
        rw [oldW_take _ _ _ hlt, HOL.out]
      generalize W[j]'hlt = k at *
      have c8 : wr.cell? ⟨w.heap.size + 1 + 1, 27, none⟩ = some (.int .i64 b.1.used) := hv8.cellAt (by rw [cookieL_at _ _ (by decide)]; rfl)
      have o8 : isOld (w.heap.size + 1 + 1) wr = true := isOld_iff.2 hl8
      clear hat hv8
      go_upto_region 6 with fail
      have hv11 : Var (wr.alloc (.cells (keptV k) 73)) wr.heap.size (keptR k) := Var.new _ _ _ rfl rfl
      have hnb : Below wr.heap.size wr (wr.alloc (.cells (keptV k) 73)) := (Below.refl _ _).alloc (Nat.le_refl _) _
      have hz6 : (wr.alloc (.cells (keptV k) 73)).heap.size = wr.heap.size + 1 := by simp
      have m1 : (wr.alloc (.cells (keptV k) 73)).cell? ⟨wr.heap.size, 27, none⟩ = some (.int .i64 k.1.used) := by simp [go_sem]
      have m2 : (wr.alloc (.cells (keptV k) 73)).cell? ⟨wr.heap.size, 29, none⟩ = some (.string ⟨k.2.toArray⟩) := by simp [go_sem]
      have m3 : hasRow (wr.alloc (.cells (keptV k) 73)) ⟨wr.heap.size, 0, none⟩ 29 = true := row0_has hv11 (by rw [keptR_length]; decide)
      have m4 : rowAt (wr.alloc (.cells (keptV k) 73)) ⟨wr.heap.size, 0, none⟩ 29 = cookieC k.1 := row0_kept hv11
      have m5 : (wr.alloc (.cells (keptV k) 73)).cell? ⟨w.heap.size + 1 + 1, 27, none⟩ = some (.int .i64 b.1.used) := by simp [go_sem, c8, o8]
      have HV86 := Lib.hid (HV8r.out.below hnb)
      have h86 : hasVar (wr.alloc (.cells (keptV k) 73)) (w.heap.size + 1 + 1) 29 = true := HV86.out.has (cookieL_length _)
      have HV66 : Hid (hasVar (wr.alloc (.cells (keptV k) 73)) (w.heap.size + 1) 29 = true) := by
        show _ = true
        rw [hasVar_congr (hnb.block _ (by omega))]; exact HV6r.out
      have HB6 := Lib.hid (HBW.out.trans (hnb.mono hzr))
      clear r1 q1 hio hv11 hnb c8 o8
      generalize (wr.alloc (.cells (keptV k) 73)) = w6 at *
      obtain ⟨t, ht⟩ : ∃ t, t = (siteP al s k && (!f || decide (k.1.used < b.1.used))) := ⟨_, rfl⟩
      have HT := Lib.hid ht
      go_cut [38] (fun s38 wx => s38 = .bool t ∧ wx = w6)
      case first =>
        have key : ∀ t' : Bool, (siteP al s k && (!f || decide (k.1.used < b.1.used))) = t' → Value.bool t' = Value.bool t := fun t' h => by rw [ht, h]
        have KEY := Lib.hid key
        clear key ht
        cases al with
        | true =>
          cases f with
          | false =>
            go_wp2
            go_meet
            exact ⟨KEY.out _ (by simp [siteP]), rfl⟩
          | true =>
            by_cases hu : k.1.used < b.1.used
            · go_wp2
              go_meet
              exact ⟨KEY.out _ (by simp [siteP, hu]), rfl⟩
            · go_wp2
              go_meet
              exact ⟨KEY.out _ (by simp [siteP, hu]), rfl⟩
        | false =>
          cases hs : (k.2 == s) with
          | false =>
            go_wp2
            go_meet
            exact ⟨KEY.out _ (by simp [siteP, hs]), rfl⟩
          | true =>
            cases f with
            | false =>
              go_wp2
              go_meet
              exact ⟨KEY.out _ (by simp [siteP, hs]), rfl⟩
            | true =>
              by_cases hu : k.1.used < b.1.used
              · go_wp2
                go_meet
                exact ⟨KEY.out _ (by simp [siteP, hs, hu]), rfl⟩
              · go_wp2
                go_meet
                exact ⟨KEY.out _ (by simp [siteP, hs, hu]), rfl⟩
      case rest =>
      obtain ⟨rfl, rfl⟩ := hcut
      clear ht
      cases t with
      | true =>
        go_wp2
        go_roundw
        case rel =>
          refine ⟨j + 1, true, k, by simp, by omega, rfl, ?_, var_setRow_ck HV86.out k.1, ?_, below_setRow HB6.out (by omega) _⟩
          · rw [HTK.out]; unfold oldStep; rw [← HT.out]; rfl
          · rw [hasVar_setRow_other _ _ _ _ _ (by omega)]; exact HV66.out
        case measure => first | (simp [intOf]; done) | (simp [intOf]; omega)
      | false =>
        go_wp2
        go_roundw
        case rel =>
          refine ⟨j + 1, f, b, by simp, by omega, rfl, ?_, HV86.out, HV66.out, HB6.out⟩
          rw [HTK.out]; unfold oldStep; rw [← HT.out]; rfl
        case measure => first | (simp [intOf]; done) | (simp [intOf]; omega)
    · obtain rfl : j = W.length := by omega
      rw [List.take_of_length_le (Nat.le_refl _)] at HOL
      have k1 : hasRow wr ⟨w.heap.size + 1 + 1, 0, none⟩ 29 = true := hv8.hasRow (cookieL_length _)
      have k2 : rowAt wr ⟨w.heap.size + 1 + 1, 0, none⟩ 29 = cookieC b.1 := hv8.rowAt (cookieL_length _)
      have k3 : hasVar wr (w.heap.size + 1) 29 = true := HV6r.out
      clear hv8
      go_wp2
      refine ret_cell_tmp (w.heap.size + 1) (cookieC b.1) (.bool f) rfl rfl rfl agg_cookie (by simp [go_sem, k3]) (by simp [go_sem, k3]) rfl ⟨?_, below_setRow HBW.out (by omega) _⟩
      rw [HOL.out]
end Go.Proofs.Ytaondmaebgicgaa
