/- The document's Expire walked. -/
import Derived.Test.YtaondmaebgicgaaShRefU
import Derived.Test.YtaondmaebgicgaaShExp
namespace Go.Proofs.Ytaondmaebgicgaa
open Go Go.RowKit
set_option maxRecDepth 20000
set_option linter.unusedSimpArgs false
set_option linter.unusedVariables false

@[go_sem] theorem allOne_sh' (a : Option Addr) (n cap : Nat) (l : Int) : allOne #[.slice a n cap, .int .i64 l] = true := by simp [allOne, Value.oneCell']
theorem dk_encs1 (k : GKept) : (keptV k).toList = dkCod.encs [k] := by
  show keptR k = keptR k ++ []
  rw [List.append_nil]
theorem exp_take (W : List GKept) (now : Int) (j : Nat) (hj : j < W.length) : expW (W.take (j + 1)) now = expW (W.take j) now ++ (if now < (W[j]'hj).1.expires then [W[j]'hj] else []) := by
  unfold expW
  rw [List.take_succ_eq_append_getElem hj, List.filter_append]
  congr 1
  by_cases h : now < (W[j]'hj).1.expires
  · simp [h]
  · simp [h]
theorem exp_le (W : List GKept) (now : Int) : (expW W now).length ≤ W.length := List.length_filter_le _ _
set_option maxRecDepth 100000 in
set_option maxHeartbeats 8000000 in
theorem refExpire_any (W : List GKept) (a : Option Addr) (cap last : Nat) (now : Int) (hW : W.length ≤ 1000) (w : World) (hin : ListIn dkCod w a W 0) :
    Calls Try.prog 30 #[.agg (shC a W.length cap last), .int .i64 now] w (DocGives (expW W now) last (.int .i64 ((W.length - (expW W now).length : Nat) : Int)) w) := by
  obtain ⟨POST, hpost⟩ : ∃ POST : Ending → World → Prop, DocGives (expW W now) last (.int .i64 ((W.length - (expW W now).length : Nat) : Int)) w = POST := ⟨_, rfl⟩
  rw [hpost]
  have HPOST := Lib.hid hpost
  have HIN := Lib.hid hin
  clear hin hpost
  go_enter Try.func30, Try.ntmps30
  go_wp2_with fail
  change Code.wp _ _ _ _ (((w.alloc (.cells (shC a W.length cap last) 50)).alloc (.cells (shC none 0 0 0) 50)).alloc (.cells #[] 73))
  have hv2 : Var (((w.alloc (.cells (shC a W.length cap last) 50)).alloc (.cells (shC none 0 0 0) 50)).alloc (.cells #[] 73)) w.heap.size (shL a W.length cap last) := ((Var.new w _ _ rfl rfl).alloc _).alloc _
  have hv4 : Var (((w.alloc (.cells (shC a W.length cap last) 50)).alloc (.cells (shC none 0 0 0) 50)).alloc (.cells #[] 73)) (w.heap.size + 1) (shL none 0 0 0) := (Var.new _ _ _ rfl (by simp)).alloc _
  have hb2 : Below w.heap.size w (((w.alloc (.cells (shC a W.length cap last) 50)).alloc (.cells (shC none 0 0 0) 50)).alloc (.cells #[] 73)) := (by repeat (first | exact Below.refl _ _ | assumption | refine below_grown ?_ (by first | omega | (simp [go_sem]; done) | (simp [go_sem] <;> omega)) _ | refine Below.alloc ?_ (by first | omega | (simp [go_sem]; done) | (simp [go_sem] <;> omega)) _ | refine below_bytesW ?_ (by first | omega | (simp [go_sem]; done) | (simp [go_sem] <;> omega)) _ | refine Below.drew ?_ | refine below_drewN ?_ _))
  have hz2 : (((w.alloc (.cells (shC a W.length cap last) 50)).alloc (.cells (shC none 0 0 0) 50)).alloc (.cells #[] 73)).heap.size = w.heap.size + 3 := by simp
  have ho2 : Own dkCod (From (w.heap.size + 2)) (((w.alloc (.cells (shC a W.length cap last) 50)).alloc (.cells (shC none 0 0 0) 50)).alloc (.cells #[] 73)) (.slice (some ⟨w.heap.size + 1 + 1, 0, none⟩) 0 0) [] := by
    have := Own.made0 (c := dkCod) (Q := From (w.heap.size + 2)) (w := (w.alloc (.cells (shC a W.length cap last) 50)).alloc (.cells (shC none 0 0 0) 50)) (by show w.heap.size + 2 ≤ _; simp) (t := 73) rfl
    rw [World.size_alloc, World.size_alloc] at this
    exact this
  have HV2 := Lib.hid hv2
  have HV4 := Lib.hid hv4
  have HB2 := Lib.hid hb2
  have HO2 := Lib.hid ho2
  have HZ2 := Lib.hid hz2
  clear hv2 hv4 hb2 ho2 hz2
  generalize (((w.alloc (.cells (shC a W.length cap last) 50)).alloc (.cells (shC none 0 0 0) 50)).alloc (.cells #[] 73)) = w2 at *
  go_loopw [6, 13] (fun v s13 wr => ∃ j : Nat, s13 = .int .i64 (j : Int) ∧ j ≤ W.length ∧ Own dkCod (From (w.heap.size + 2)) wr v (expW (W.take j) now) ∧ Keeps (From (w.heap.size + 2)) w2 wr) (fun _ q _ => W.length - (intOf q).toNat)
  case atStart => exact ⟨0, rfl, Nat.zero_le _, HO2.out, Keeps.refl _ _⟩
  case round =>
    obtain ⟨j, rfl, hj, ho, hk2⟩ := hrel
    have HZ := HZ2.out
    have hzr := hk2.size
    have HO := Lib.hid ho
    have HK2 := Lib.hid hk2
    have HBW : Hid (Below w.heap.size w wr) := HB2.out.trans (hk2.below (fun q hq => ⟨by omega, fun h => by have : w.heap.size + 2 ≤ q := h; omega⟩))
    obtain ⟨a5, c5, rfl, hc5, hl5⟩ := ho.slice (B := w.heap.size + 2) (fun _ h => h)
    have HL5 := Lib.hid hl5
    by_cases hlt : j < W.length
    · obtain ⟨g, o, rfl, hlo, hhi, hat⟩ := HIN.out.resolve_left (fun h => by subst h; exact absurd hlt (Nat.not_lt_zero _))
      obtain ⟨r1, q1⟩ := dkRow (hat.below HBW.out) j hlt
      have hio : isOld g wr = true := isOld_iff.2 (by omega)
      have hjj : (j : Int) < (W.length : Int) := by omega
      have HET := Lib.hid (exp_take W now j hlt)
      have hpl : (expW (W.take j) now).length ≤ 1000 := by
        have := exp_le (W.take j) now
        rw [List.length_take] at this
        omega
      generalize W[j]'hlt = k at *
      generalize expW (W.take j) now = P at *
      clear hat ho hk2 hl5 HZ
      by_cases hx : now < k.1.expires
      · rw [if_pos hx] at HET
        go_wp2_with (at_builtin; refine wpList_append_list rfl dkCod (.tmp 22) (.tmp 24) 48 rfl rfl (From (w.heap.size + 2)) _ _ P rfl ((HO.out.alloc _).alloc _) _ 0 _ _ [k] rfl rfl (listAt_new _ _ [_] _ (dk_encs1 _) (by first | rfl | (simp [go_sem]; done))) (by simp [dkCod]; omega) (by simp; omega) (by have := HZ2.out; show _ ≤ _; simp; omega) ?_; intro v' w9 ho1 hb1; have HO9 := Lib.hid ho1; have HK9 := Lib.hid hb1; clear ho1 hb1)
        go_roundw
        case rel =>
          have hka := (Keeps.of_below (Q := From (w.heap.size + 2)) (((Below.refl wr.heap.size wr).alloc (Nat.le_refl _) (Obj.cells (keptV k) 73)).alloc (by simp) (Obj.cells (keptV k) 73))).trans HK9.out
          exact ⟨j + 1, by simp, by omega, by rw [HET.out]; exact HO9.out, HK2.out.trans hka⟩
        case measure => first | (simp [intOf]; done) | (simp [intOf]; omega)
      · rw [if_neg hx, List.append_nil] at HET
        go_wp2
        have hnb : Below wr.heap.size wr (wr.alloc (Obj.cells (keptV k) 73)) := (Below.refl wr.heap.size wr).alloc (Nat.le_refl _) _
        go_roundw
        case rel => exact ⟨j + 1, by simp, by omega, by rw [HET.out]; exact HO.out.below hnb, HK2.out.bel hnb⟩
        case measure => first | (simp [intOf]; done) | (simp [intOf]; omega)
    · obtain rfl : j = W.length := by omega
      rw [List.take_of_length_le (Nat.le_refl _)] at HO HL5 hc5
      rw [List.take_of_length_le (Nat.le_refl _)]
      have hn : ∀ b, b < w.heap.size + 2 → ¬ From (w.heap.size + 2) b := fun b h h' => by have : w.heap.size + 2 ≤ b := h'; omega
      have hv2 := HV2.out.keeps hk2 (hn _ (by omega))
      have hv4 := HV4.out.keeps hk2 (hn _ (by omega))
      have c20 : wr.cell? ⟨w.heap.size, 0, none⟩ = some (.slice a W.length cap) := hv2.cellAt rfl
      have c21 : wr.cell? ⟨w.heap.size, 1, none⟩ = some (.int .i64 (last : Int)) := hv2.cellAt rfl
      have h4 : hasVar wr (w.heap.size + 1) 2 = true := hv4.has rfl
      have HV4r := Lib.hid hv4
      have hel := exp_le W now
      have hwk : IntKind.i64.wrap ((W.length : Int) - ((expW W now).length : Int)) = (W.length : Int) - ((expW W now).length : Int) := IntWalk.i64_in _ (by omega)
      have HRES : Hid (((W.length - (expW W now).length : Nat) : Int) = (W.length : Int) - ((expW W now).length : Int)) := by show _ = _; omega
      clear ho hk2 hl5 hv2 hv4 HZ
      generalize expW W now = P at *
      go_upto_region 8 with fail
      go_region
      all_goals
        go_wp2
        refine ret_sh (w.heap.size + 1) a5 P.length c5 last (.int .i64 ((W.length - P.length : Nat) : Int)) rfl rfl (by rw [HRES.out]; rfl) (by simp [go_sem, h4]) (by simp [go_sem, h4]) rfl ?_
        rw [← HPOST.out]
        have hbd : Below w.heap.size w wr.drew := below_drew HBW.out
        refine ⟨a5, c5, rfl, hc5, ?_, below_setRow hbd (by omega) _⟩
        have hl' : ListIn dkCod wr.drew a5 P (w.heap.size + 2) := HL5.out.below (below_drew (Below.refl _ _))
        exact (hl'.keeps (Q := fun j => j = w.heap.size + 1) (keeps_setRow (Q := fun j => j = w.heap.size + 1) (Keeps.refl _ _) (.inr rfl) _) (fun j hj _ => by omega)).mono (Nat.zero_le _)
end Go.Proofs.Ytaondmaebgicgaa
