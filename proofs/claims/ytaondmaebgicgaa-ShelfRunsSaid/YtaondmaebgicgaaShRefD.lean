/- The document's shelf as data; its At, Count, All, Same walked. -/
import Derived.Test.YtaondmaebgicgaaShAct
import Derived.Test.YtaondmaebgicgaaShOld2
import Derived.IntWalk
namespace Go.Proofs.Ytaondmaebgicgaa
open Go Go.RowKit
set_option maxRecDepth 20000
set_option linter.unusedSimpArgs false
set_option linter.unusedVariables false

@[go_sem] theorem agg_dkept : isAggT Try.prog 73 = true := by kernel_rfl
@[go_sem] theorem cellsOf_dkept : Try.prog.cellsOf 73 = 30 := by kernel_rfl
@[go_sem] theorem agg_dshelf : isAggT Try.prog 50 = true := by kernel_rfl
@[go_sem] theorem cellsOf_dshelf : Try.prog.cellsOf 50 = 2 := by kernel_rfl
theorem dkept_info : (Try.prog.info? 73).map (fun i => (i.zero, i.size, i.bytes)) = some (some (.agg (keptV zeroKt)), 30, 160) := by kernel_rfl
def dkCod : Cod GKept where
  E := 73
  S := 48
  sz := 30
  bys := 160
  z := .agg (keptV zeroKt)
  enc := keptR
  und := Try.underlying48
  info := dkept_info
  zsz := by show (keptV zeroKt).size = 30; exact keptV_size _
  pos := by decide
  len := keptR_length
  one := kept_one
theorem dkRow {w : World} {b o : Nat} {xs : List GKept} (h : ListAt dkCod w b o xs) (i : Nat) (hi : i < xs.length) : hasRow w ⟨b, o + i * 30, none⟩ 30 = true ∧ rowAt w ⟨b, o + i * 30, none⟩ 30 = keptV (xs[i]'hi) := listRow h i hi
def shL (a : Option Addr) (n cap : Nat) (last : Nat) : List Value := [.slice a n cap, .int .i64 (last : Int)]
def shC (a : Option Addr) (n cap : Nat) (last : Nat) : Array Value := #[.slice a n cap, .int .i64 (last : Int)]
@[go_sem] theorem shC_size (a : Option Addr) (n cap last : Nat) : (shC a n cap last).size = 2 := by simp [shC]
@[go_sem] theorem shC_one (a : Option Addr) (n cap last : Nat) : allOne (shC a n cap last) = true := by simp [shC, allOne, Value.oneCell']
@[go_sem] theorem shC_all (a : Option Addr) (n cap last : Nat) : (shC a n cap last).extract 0 2 = shC a n cap last := by
  have := shC_size a n cap last
  rw [← this]; simp
@[go_sem ↓ high] theorem shC_0 (a : Option Addr) (n cap last : Nat) : (shC a n cap last)[0]? = some (.slice a n cap) := rfl
@[go_sem ↓ high] theorem shC_1 (a : Option Addr) (n cap last : Nat) : (shC a n cap last)[1]? = some (.int .i64 (last : Int)) := rfl
/-! ### where a cookie stands -/
def idxW (W : List GKept) (c : GCookie) : Nat := W.findIdx (fun k => samePl k.1 c)
def atW (W : List GKept) (c : GCookie) : Int := if (findW W c).isSome = true then (idxW W c : Nat) else -1
theorem atW_found {W : List GKept} {c : GCookie} {j : Nat} (hj : j < W.length) (h0 : ∀ i (hi : i < W.length), i < j → samePl (W[i]'hi).1 c = false) (h : samePl (W[j]'hj).1 c = true) : atW W c = (j : Nat) ∧ findW W c = some (W[j]'hj) ∧ idxW W c = j := by
  have e1 : idxW W c = j := by
    unfold idxW
    rw [List.findIdx_eq hj]
    exact ⟨h, fun i hij => h0 i (by omega) hij⟩
  have e2 : findW W c = some (W[j]'hj) := by
    unfold findW
    rw [List.find?_eq_some_iff_getElem]
    exact ⟨h, j, hj, rfl, fun i hij => by rw [h0 i (by omega) hij]; rfl⟩
  refine ⟨?_, e2, e1⟩
  unfold atW
  rw [e2, e1]
  rfl
theorem atW_none {W : List GKept} {c : GCookie} (h0 : ∀ i (hi : i < W.length), samePl (W[i]'hi).1 c = false) : atW W c = -1 ∧ findW W c = none := by
  have e2 : findW W c = none := by
    unfold findW
    rw [List.find?_eq_none]
    intro x hx
    obtain ⟨i, hi, rfl⟩ := List.getElem_of_mem hx
    rw [h0 i hi]
    decide
  refine ⟨?_, e2⟩
  unfold atW
  rw [e2]
  rfl
theorem atW_some {W : List GKept} {c : GCookie} {k : GKept} (h : findW W c = some k) : ∃ hi : idxW W c < W.length, atW W c = (idxW W c : Nat) ∧ W[idxW W c]'hi = k := by
  have hh := h
  unfold findW at h
  rw [List.find?_eq_some_iff_getElem] at h
  obtain ⟨hk, j, hj, rfl, h0⟩ := h
  obtain ⟨e1, e2, e3⟩ := atW_found hj (fun i hi hij => by have := h0 i hij; simpa using this) hk
  subst e3
  exact ⟨hj, e1, rfl⟩
set_option maxRecDepth 100000 in
set_option maxHeartbeats 4000000 in
theorem refAt_any (W : List GKept) (a : Option Addr) (cap last : Nat) (c : GCookie) (hW : W.length ≤ 1000) (w : World) (hin : ListIn dkCod w a W 0) :
    Calls Try.prog 26 #[.agg (shC a W.length cap last), .agg (cookieC c)] w fun e w' => e = .returned (.int .i64 (atW W c)) ∧ Below w.heap.size w w' := by
  have HIN := Lib.hid hin
  clear hin
  go_enter Try.func26, Try.ntmps26
  go_wp2_with fail
  have hv3 : Var ((w.alloc (.cells (shC a W.length cap last) 50)).alloc (.cells (cookieC c) 31)) (w.heap.size + 1) (cookieL c) := Var.new _ _ _ rfl (by simp)
  have hb2 : Below w.heap.size w ((w.alloc (.cells (shC a W.length cap last) 50)).alloc (.cells (cookieC c) 31)) := (by repeat (first | exact Below.refl _ _ | assumption | refine below_grown ?_ (by first | omega | (simp [go_sem]; done) | (simp [go_sem] <;> omega)) _ | refine Below.alloc ?_ (by first | omega | (simp [go_sem]; done) | (simp [go_sem] <;> omega)) _ | refine below_bytesW ?_ (by first | omega | (simp [go_sem]; done) | (simp [go_sem] <;> omega)) _ | refine Below.drew ?_ | refine below_drewN ?_ _))
  have hz2 : ((w.alloc (.cells (shC a W.length cap last) 50)).alloc (.cells (cookieC c) 31)).heap.size = w.heap.size + 2 := by simp
  have HV3 := Lib.hid hv3
  have HB2 := Lib.hid hb2
  have HZ2 := Lib.hid hz2
  clear hv3 hb2 hz2
  generalize ((w.alloc (.cells (shC a W.length cap last) 50)).alloc (.cells (cookieC c) 31)) = w2 at *
  go_loopw [10] (fun s10 wr => ∃ j : Nat, s10 = .int .i64 (j : Int) ∧ j ≤ W.length ∧ (∀ i (hi : i < W.length), i < j → samePl (W[i]'hi).1 c = false) ∧ Below w2.heap.size w2 wr) (fun q _ => W.length - (intOf q).toNat)
  case atStart => exact ⟨0, rfl, Nat.zero_le _, (fun i hi h => absurd h (Nat.not_lt_zero _)), Below.refl _ _⟩
  case round =>
    obtain ⟨j, rfl, hj, h0, hbr⟩ := hrel
    have HZ := HZ2.out
    have hzr := hbr.size
    have HH0 := Lib.hid h0
    have HBR := Lib.hid hbr
    have hvr := HV3.out.below hbr
    have k30 : hasRow wr ⟨w.heap.size + 1, 0, none⟩ 29 = true := hvr.hasRow (cookieL_length _)
    have k31 : rowAt wr ⟨w.heap.size + 1, 0, none⟩ 29 = cookieC c := hvr.rowAt (cookieL_length _)
    have i30 : isOld (w.heap.size + 1) wr = true := isOld_iff.2 hvr.lt
    have HBW := Lib.hid (HB2.out.trans (hbr.mono (by omega)))
    clear h0 hbr hvr
    by_cases hlt : j < W.length
    · obtain ⟨g, o, rfl, hlo, hhi, hat⟩ := HIN.out.resolve_left (fun h => by subst h; exact absurd hlt (Nat.not_lt_zero _))
      obtain ⟨r1, q1⟩ := dkRow (hat.below HBW.out) j hlt
      have hio : isOld g wr = true := isOld_iff.2 (by omega)
      have hjj : (j : Int) < (W.length : Int) := by omega
      clear HZ
      cases hs : samePl (W[j]'hlt).1 c with
      | true =>
        obtain ⟨e1, _, _⟩ := atW_found hlt HH0.out hs
        have HE1 := Lib.hid e1
        have HKEY : Hid (∀ w, Calls Try.prog 13 #[.agg (cookieC (W[j]'hlt).1), .agg (cookieC c)] w fun e w' => e = .returned (.bool true) ∧ Below w.heap.size w w') := fun w => by have := refKey_any (W[j]'hlt).1 c w; rw [hs] at this; exact this
        clear hat hs e1
        generalize W[j]'hlt = k at *
        go_wp2_with (go_at_call 13; (with_reducible refine (HKEY.out _).mono ?_); rintro e w1 ⟨rfl, hb1⟩; obtain ⟨p1, rfl⟩ := grown_of hb1; clear hb1)
        go_ret
        exact ⟨by rw [HE1.out]; rfl, HBW.out.trans (Below.mono (by repeat (first | exact Below.refl _ _ | assumption | refine below_grown ?_ (by first | omega | (simp [go_sem]; done) | (simp [go_sem] <;> omega)) _ | refine Below.alloc ?_ (by first | omega | (simp [go_sem]; done) | (simp [go_sem] <;> omega)) _ | refine below_bytesW ?_ (by first | omega | (simp [go_sem]; done) | (simp [go_sem] <;> omega)) _ | refine Below.drew ?_ | refine below_drewN ?_ _)) HBW.out.size)⟩
      | false =>
        have HS := Lib.hid hs
        have HKEY : Hid (∀ w, Calls Try.prog 13 #[.agg (cookieC (W[j]'hlt).1), .agg (cookieC c)] w fun e w' => e = .returned (.bool false) ∧ Below w.heap.size w w') := fun w => by have := refKey_any (W[j]'hlt).1 c w; rw [hs] at this; exact this
        clear hat hs
        generalize hkE : W[j]'hlt = k at *
        have HKE := Lib.hid hkE
        clear hkE
        go_wp2_with (go_at_call 13; (with_reducible refine (HKEY.out _).mono ?_); rintro e w1 ⟨rfl, hb1⟩; obtain ⟨p1, rfl⟩ := grown_of hb1; clear hb1)
        go_roundw
        case rel =>
          refine ⟨j + 1, by simp, by omega, fun i hi hij => ?_, HBR.out.trans (Below.mono (by repeat (first | exact Below.refl _ _ | assumption | refine below_grown ?_ (by first | omega | (simp [go_sem]; done) | (simp [go_sem] <;> omega)) _ | refine Below.alloc ?_ (by first | omega | (simp [go_sem]; done) | (simp [go_sem] <;> omega)) _ | refine below_bytesW ?_ (by first | omega | (simp [go_sem]; done) | (simp [go_sem] <;> omega)) _ | refine Below.drew ?_ | refine below_drewN ?_ _)) hzr)⟩
          by_cases e : i = j
          · subst e; rw [HKE.out]; exact HS.out
          · exact HH0.out i hi (by omega)
        case measure => first | (simp [intOf]; done) | (simp [intOf]; omega)
    · obtain rfl : j = W.length := by omega
      obtain ⟨e1, _⟩ := atW_none (W := W) (c := c) (fun i hi => HH0.out i hi hi)
      have HE1 := Lib.hid e1
      clear e1 HZ
      go_wp2
      go_ret
      exact ⟨by rw [HE1.out]; rfl, HBW.out⟩
/-! ### how many count to a site -/
theorem countW_take (W : List GKept) (s : List UInt8) (j : Nat) (hj : j < W.length) : countW (W.take (j + 1)) s = countW (W.take j) s + (if (W[j]'hj).2 = s then 1 else 0) := by
  rw [List.take_succ_eq_append_getElem hj]
  unfold countW
  rw [List.filter_append, List.length_append]
  congr 1
  by_cases e : (W[j]'hj).2 = s
  · simp [e]
  · simp [e]
set_option maxRecDepth 100000 in
set_option maxHeartbeats 4000000 in
theorem refCount_any (W : List GKept) (a : Option Addr) (cap last : Nat) (s : List UInt8) (hW : W.length ≤ 1000) (w : World) (hin : ListIn dkCod w a W 0) :
    Calls Try.prog 34 #[.agg (shC a W.length cap last), .string ⟨s.toArray⟩] w fun e w' => e = .returned (.int .i64 (countW W s : Nat)) ∧ Below w.heap.size w w' := by
  have HIN := Lib.hid hin
  clear hin
  go_enter Try.func34, Try.ntmps34
  go_wp2_with fail
  have hb2 : Below w.heap.size w (w.alloc (.cells (shC a W.length cap last) 50)) := (by repeat (first | exact Below.refl _ _ | assumption | refine below_grown ?_ (by first | omega | (simp [go_sem]; done) | (simp [go_sem] <;> omega)) _ | refine Below.alloc ?_ (by first | omega | (simp [go_sem]; done) | (simp [go_sem] <;> omega)) _ | refine below_bytesW ?_ (by first | omega | (simp [go_sem]; done) | (simp [go_sem] <;> omega)) _ | refine Below.drew ?_ | refine below_drewN ?_ _))
  have HB2 := Lib.hid hb2
  clear hb2
  generalize (w.alloc (.cells (shC a W.length cap last) 50)) = w2 at *
  go_loopw [5, 11] (fun s5 s11 wr => ∃ j : Nat, s11 = .int .i64 (j : Int) ∧ j ≤ W.length ∧ s5 = .int .i64 (countW (W.take j) s : Nat) ∧ Below w.heap.size w wr) (fun _ q _ => W.length - (intOf q).toNat)
  case atStart => exact ⟨0, rfl, Nat.zero_le _, rfl, HB2.out⟩
  case round =>
    obtain ⟨j, rfl, hj, rfl, hbr⟩ := hrel
    have hzr := hbr.size
    have HBW := Lib.hid hbr
    clear hbr
    by_cases hlt : j < W.length
    · obtain ⟨g, o, rfl, hlo, hhi, hat⟩ := HIN.out.resolve_left (fun h => by subst h; exact absurd hlt (Nat.not_lt_zero _))
      obtain ⟨r1, q1⟩ := dkRow (hat.below HBW.out) j hlt
      have hio : isOld g wr = true := isOld_iff.2 (by omega)
      have hjj : (j : Int) < (W.length : Int) := by omega
      have HCT := Lib.hid (countW_take W s j hlt)
      have hcl := countW_le (W.take j) s
      rw [List.length_take] at hcl
      generalize countW (W.take j) s = cn at *
      have hwk : IntKind.i64.wrap ((cn : Int) + 1) = (cn : Int) + 1 := IntWalk.i64_in _ (by omega)
      generalize W[j]'hlt = k at *
      clear hat
      cases hs : (k.2 == s) with
      | true =>
        have he : k.2 = s := by simpa using hs
        go_wp2
        go_roundw
        case rel => exact ⟨j + 1, by simp, by omega, by rw [HCT.out, if_pos he]; simp, HBW.out.trans (Below.mono (by repeat (first | exact Below.refl _ _ | assumption | refine below_grown ?_ (by first | omega | (simp [go_sem]; done) | (simp [go_sem] <;> omega)) _ | refine Below.alloc ?_ (by first | omega | (simp [go_sem]; done) | (simp [go_sem] <;> omega)) _ | refine below_bytesW ?_ (by first | omega | (simp [go_sem]; done) | (simp [go_sem] <;> omega)) _ | refine Below.drew ?_ | refine below_drewN ?_ _)) hzr)⟩
        case measure => first | (simp [intOf]; done) | (simp [intOf]; omega)
      | false =>
        have he : ¬ k.2 = s := by simpa using hs
        go_wp2
        go_roundw
        case rel => exact ⟨j + 1, by simp, by omega, by rw [HCT.out, if_neg he]; simp, HBW.out.trans (Below.mono (by repeat (first | exact Below.refl _ _ | assumption | refine below_grown ?_ (by first | omega | (simp [go_sem]; done) | (simp [go_sem] <;> omega)) _ | refine Below.alloc ?_ (by first | omega | (simp [go_sem]; done) | (simp [go_sem] <;> omega)) _ | refine below_bytesW ?_ (by first | omega | (simp [go_sem]; done) | (simp [go_sem] <;> omega)) _ | refine Below.drew ?_ | refine below_drewN ?_ _)) hzr)⟩
        case measure => first | (simp [intOf]; done) | (simp [intOf]; omega)
    · obtain rfl : j = W.length := by omega
      rw [List.take_of_length_le (Nat.le_refl _)]
      go_wp2
      go_ret
      exact ⟨rfl, HBW.out⟩
end Go.Proofs.Ytaondmaebgicgaa
