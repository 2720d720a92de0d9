/- The shelf's oldest, Oldest, OldestOfAll walked. -/
import Derived.Test.YtaondmaebgicgaaShN
import Derived.Test.YtaondmaebgicgaaShW
import Derived.Test.YtaondmaebgicgaaShDr
import Derived.Shelf.Abstract
namespace Go.Proofs.Ytaondmaebgicgaa
open Go Go.RowKit
set_option maxRecDepth 20000
set_option linter.unusedSimpArgs false
set_option linter.unusedVariables false

def IsOld (p : GKept → Bool) (ps : List GKept) (found : Bool) (best : GKept) : Prop :=
  (found = false ∧ best = zeroKt ∧ ∀ k ∈ ps, p k = false) ∨ (found = true ∧ best ∈ ps ∧ p best = true ∧ ∀ k ∈ ps, p k = true → best.1.used < k.1.used ∨ best.1.used = k.1.used ∧ best.1.seq ≤ k.1.seq)
def olderB (found : Bool) (best k : GKept) : Bool := !found || (decide (k.1.used < best.1.used) || (decide (k.1.used = best.1.used) && decide (k.1.seq < best.1.seq)))
theorem isOld_start (p : GKept → Bool) : IsOld p [] false zeroKt := .inl ⟨rfl, rfl, fun _ h => (List.not_mem_nil h).elim⟩
theorem isOld_yes {p : GKept → Bool} {ps : List GKept} {found : Bool} {best k : GKept} (h : IsOld p ps found best) (hp : p k = true) (ho : olderB found best k = true) : IsOld p (ps ++ [k]) true k := by
  refine .inr ⟨rfl, by simp, hp, fun x hx hpx => ?_⟩
  rcases List.mem_append.1 hx with hx | hx
  · rcases h with ⟨rfl, _, h⟩ | ⟨rfl, _, _, h⟩
    · rw [h x hx] at hpx; cases hpx
    · have h1 := h x hx hpx
      simp only [olderB, Bool.not_true, Bool.false_or, Bool.or_eq_true, Bool.and_eq_true, decide_eq_true_eq] at ho
      omega
  · rw [List.mem_singleton] at hx
    subst hx
    exact .inr ⟨rfl, Int.le_refl _⟩
theorem isOld_no {p : GKept → Bool} {ps : List GKept} {found : Bool} {best k : GKept} (h : IsOld p ps found best) (ho : (p k && olderB found best k) = false) : IsOld p (ps ++ [k]) found best := by
  rcases h with ⟨rfl, hb, h⟩ | ⟨rfl, h1, h2, h⟩
  · refine .inl ⟨rfl, hb, fun x hx => ?_⟩
    rcases List.mem_append.1 hx with hx | hx
    · exact h x hx
    · rw [List.mem_singleton] at hx
      subst hx
      simpa [olderB] using ho
  · refine .inr ⟨rfl, List.mem_append_left _ h1, h2, fun x hx hpx => ?_⟩
    rcases List.mem_append.1 hx with hx | hx
    · exact h x hx hpx
    · rw [List.mem_singleton] at hx
      subst hx
      rw [hpx, Bool.true_and] at ho
      simp only [olderB, Bool.not_true, Bool.false_or, Bool.or_eq_false_iff, Bool.and_eq_false_iff, decide_eq_false_iff_not] at ho
      omega
def OldPost (p : GKept → Bool) (W : List GKept) (w : World) (e : Ending) (w' : World) : Prop := ∃ ps found best, ps.Perm W ∧ IsOld p ps found best ∧ e = .returned (.tuple #[.agg (cookieC best.1), .bool found]) ∧ Below w.heap.size w w'
def cookieN' (c : GCookie) : List Value := [.bool c.only, .string ⟨c.path.toArray⟩, .bool c.secure, .bool c.httpOnly, .int .i64 c.same, .int .i64 c.expires, .int .i64 c.born, .int .i64 c.used, .int .i64 c.seq]
theorem cookieL_at' (c : GCookie) (i : Nat) (h : 20 ≤ i) : (cookieL c)[i]? = (cookieN' c)[i - 20]? := by
  have e : cookieL c = ([.string ⟨c.name.toArray⟩, .string ⟨c.value.toArray⟩] ++ hostL c.host) ++ cookieN' c := by simp [cookieL, cookieN']
  rw [e, List.getElem?_append_right (by simp [hostL_length]; exact h)]
  simp [hostL_length]
theorem keptR_at' (k : GKept) (i : Nat) (h : i < 29) : (keptR k)[i]? = (cookieL k.1)[i]? := by
  unfold keptR
  rw [List.getElem?_append_left (by rw [cookieL_length]; exact h)]
theorem row0_has {w : World} {b : Nat} {cs : List Value} (h : Var w b cs) {n : Nat} (hn : n ≤ cs.length) : hasRow w ⟨b, 0, none⟩ n = true := by
  rw [hasRow_iff]
  intro j hj
  rw [add_mk, Nat.zero_add, h.cell j (by omega)]; rfl
theorem row0_kept {w : World} {b : Nat} {k : GKept} (h : Var w b (keptR k)) : rowAt w ⟨b, 0, none⟩ 29 = cookieC k.1 := by
  have h1 := h.rowAt (keptR_length k)
  have e : rowAt w ⟨b, 0, none⟩ 29 = (rowAt w ⟨b, 0, none⟩ 30).extract 0 29 := by
    apply Array.ext_getElem?
    intro j
    simp only [rowAt, List.getElem?_toArray, List.getElem?_map, Array.getElem?_extract]
    by_cases hj : j < 29
    · simp [hj, show j < 30 by omega]
    · simp [hj]
  rw [e, h1]
  exact keptV_cookie k
theorem keptV_at' (k : GKept) (i : Nat) (v : Value) (h1 : 20 ≤ i) (h2 : i < 29) (h : (cookieN' k.1)[i - 20]? = some v) : (keptV k)[i]? = some v := by
  unfold keptV
  rw [List.getElem?_toArray, keptR_at' _ _ h2, cookieL_at' _ _ h1, h]
@[go_sem ↓ high] theorem keptV_25 (k : GKept) : (keptV k)[25]? = some (.int .i64 k.1.expires) := keptV_at' k 25 _ (by decide) (by decide) rfl
@[go_sem ↓ high] theorem keptV_27 (k : GKept) : (keptV k)[27]? = some (.int .i64 k.1.used) := keptV_at' k 27 _ (by decide) (by decide) rfl
@[go_sem ↓ high] theorem keptV_28 (k : GKept) : (keptV k)[28]? = some (.int .i64 k.1.seq) := keptV_at' k 28 _ (by decide) (by decide) rfl
set_option maxHeartbeats 4000000 in
theorem shOldest_any (W : List GKept) (hA : Apart W) (p : GKept → Bool) (g : Nat) (cb : Array Value) (eg : ∀ args w, (callFunc g args).run Try.prog w = .ok (.enter g args) w) (last B bs ba bi : Nat) (w : World) (h : ShR w bs ba bi W last B)
    (hcl : ∀ k w', Below w.heap.size w w' → Calls Try.prog g (#[.agg (keptV k)] ++ cb) w' fun e w'' => e = .returned (.bool (p k)) ∧ Below w'.heap.size w' w'') :
    Calls Try.prog 24 #[.pointer (some ⟨bs, 0, none⟩), .func (.func g) #[] cb] w (OldPost p W w) := by
  obtain ⟨POST, hpost⟩ : ∃ POST : Ending → World → Prop, OldPost p W w = POST := ⟨_, rfl⟩
  rw [hpost]
  have HPOST := Lib.hid hpost
  have HSH := Lib.hid h
  have HCL := Lib.hid hcl
  have hlba := h.2.1.lt
  have hlbs := h.1.lt
  have h0 : w.cell? ⟨bs, 0, none⟩ = some (.map (some ba)) := h.1.cellAt rfl
  have hbs : isOld bs w = true := isOld_iff.2 h.1.lt
  have HAP := Lib.hid hA
  clear hpost h hcl hA
  go_enter Try.func24, Try.ntmps24
  go_upto_region 3 with fail
  change Code.wp _ _ _ _ ((w.alloc (.cells (cookieC zeroCk) 31)).alloc (.cells (keptV zeroKt) 59))
  have hv6 : Var ((w.alloc (.cells (cookieC zeroCk) 31)).alloc (.cells (keptV zeroKt) 59)) (w.heap.size + 1) (keptR zeroKt) := Var.new _ _ _ rfl (by simp)
  have hv4 : Var ((w.alloc (.cells (cookieC zeroCk) 31)).alloc (.cells (keptV zeroKt) 59)) w.heap.size (cookieL zeroCk) := (Var.new w _ _ rfl rfl).alloc _
  have hb2 : Below w.heap.size w ((w.alloc (.cells (cookieC zeroCk) 31)).alloc (.cells (keptV zeroKt) 59)) := (by repeat (first | exact Below.refl _ _ | assumption | refine below_grown ?_ (by first | omega | (simp [go_sem]; done) | (simp [go_sem] <;> omega)) _ | refine Below.alloc ?_ (by first | omega | (simp [go_sem]; done) | (simp [go_sem] <;> omega)) _ | refine below_bytesW ?_ (by first | omega | (simp [go_sem]; done) | (simp [go_sem] <;> omega)) _ | refine Below.drew ?_ | refine below_drewN ?_ _))
  have hz2 : ((w.alloc (.cells (cookieC zeroCk) 31)).alloc (.cells (keptV zeroKt) 59)).heap.size = w.heap.size + 2 := by simp
  generalize ((w.alloc (.cells (cookieC zeroCk) 31)).alloc (.cells (keptV zeroKt) 59)) = w2 at *
  have HV6 := Lib.hid hv6
  have HV4 := Lib.hid hv4
  have HB2 := Lib.hid hb2
  have h0 : w2.cell? ⟨bs, 0, none⟩ = some (.map (some ba)) := (HSH.out.below hb2).1.cellAt rfl
  have hbs : isOld bs w2 = true := isOld_iff.2 (by omega)
  have HM2 := Lib.hid (HSH.out.below hb2).2.1
  have HZ2 := Lib.hid hz2
  clear hv6 hv4 hb2 hz2
  go_wp2_with (first
    | (at_range; refine wpList_range_W _ rfl _ rfl ba W rfl HM2.out ?_; intro w3 hrg0 hg0 hs0; have HRG0 := Lib.hid hrg0; have HG0 := Lib.hid hg0; clear hrg0 hg0)
    | go_in)
  go_frame
  go_loopw [7] (fun s7 wr => ∃ left cnt ps found best, s7 = .bool found ∧ RangeF Try.prog 62 wr ba w2.heap.size (allF W) W.length left cnt ∧ ColW W left ps ∧ IsOld p ps found best ∧ Var wr (w.heap.size + 1) (keptR best) ∧ hasVar wr w.heap.size 29 = true ∧ Below w.heap.size w wr) (fun s7 wr => wr.rangeLeft ba w2.heap.size)
  case atStart =>
    have e3 := Below.refl w2.heap.size w2 |>.grown HG0.out (Nat.le_refl _) (fun k e => by cases e)
    exact ⟨_, _, [], false, zeroKt, rfl, HRG0.out, colW_start W, isOld_start p, HV6.out.below e3, (HV4.out.below e3).has (cookieL_length _), HB2.out.trans (e3.mono (by have := HZ2.out; omega))⟩
  case round =>
    obtain ⟨left, cnt, ps, found, best, rfl, hrg, hC, hI, hv6, hv4, hbw⟩ := hrel
    have HRG := Lib.hid hrg
    have HC := Lib.hid hC
    have HI := Lib.hid hI
    have HV6r := Lib.hid hv6
    have HV4r := Lib.hid hv4
    have HBW := Lib.hid hbw
    clear hrg hC hI hv6 hv4 hbw
    go_wp2_with (first
      | (at_next; refine wpList_next_W _ rfl _ rfl ba w2.heap.size _ cnt W ps HAP.out left rfl HRG.out HC.out ?_ ?_)
      | go_in)
    · intro hperm
      have k60 : hasRow wr ⟨w.heap.size + 1, 0, none⟩ 29 = true := row0_has HV6r.out (by rw [keptR_length]; decide)
      have k61 : rowAt wr ⟨w.heap.size + 1, 0, none⟩ 29 = cookieC best.1 := row0_kept HV6r.out
      have v4 := HV4r.out
      go_wp2
      rw [← HPOST.out]
      refine ret_cell_tmp w.heap.size (cookieC best.1) (.bool found) rfl rfl rfl agg_cookie (by simp [go_sem, v4]) (by simp [go_sem, v4]) rfl ⟨ps, found, best, hperm, HI.out, rfl, ?_⟩
      exact below_setRow HBW.out (Nat.le_refl _) _
    · intro key kc ks left' w4 cnt' hrg4 hC4 hkW hlt hg4 hs4 hen
      generalize (kc, ks) = k at *
      have hszr := HBW.out.size
      have hrn := HRG.out.ne.2
      have hbr : Below w2.heap.size wr w4 := (Below.refl _ wr).grown hg4 (by have := HZ2.out; omega) (fun k e => by cases e; have := HZ2.out; omega)
      have hb4 : Below w.heap.size w w4 := HBW.out.trans (hbr.mono (by have := HZ2.out; omega))
      have hv6 : Var w4 (w.heap.size + 1) (keptR best) := HV6r.out.old (hbr.block _ (by have := HZ2.out; omega))
      have hv4 : hasVar w4 w.heap.size 29 = true := by rw [hasVar_congr (hbr.block _ (by have := HZ2.out; omega))]; exact HV4r.out
      have c27 : w4.cell? ⟨w.heap.size + 1, 27, none⟩ = some (.int .i64 best.1.used) := hv6.cellAt (by rw [keptR_at' _ _ (by decide), cookieL_at' _ _ (by decide)]; rfl)
      have c28 : w4.cell? ⟨w.heap.size + 1, 28, none⟩ = some (.int .i64 best.1.seq) := hv6.cellAt (by rw [keptR_at' _ _ (by decide), cookieL_at' _ _ (by decide)]; rfl)
      have o6 : isOld (w.heap.size + 1) w4 = true := isOld_iff.2 (by have := HZ2.out; omega)
      go_upto_region 6 with fail
      go_cut [10] (fun s10 wx => s10 = .bool (olderB found best k) ∧ Below w4.heap.size w4 wx ∧ Var wx w4.heap.size (keptR k))
      case first =>
        cases found with
        | false =>
          go_wp2
          go_meet
          exact ⟨rfl, (by repeat (first | exact Below.refl _ _ | assumption | refine below_grown ?_ (by first | omega | (simp [go_sem]; done) | (simp [go_sem] <;> omega)) _ | refine Below.alloc ?_ (by first | omega | (simp [go_sem]; done) | (simp [go_sem] <;> omega)) _ | refine below_bytesW ?_ (by first | omega | (simp [go_sem]; done) | (simp [go_sem] <;> omega)) _ | refine Below.drew ?_ | refine below_drewN ?_ _)), Var.new _ _ _ rfl rfl⟩
        | true =>
          rcases Int.lt_trichotomy k.1.used best.1.used with hu | hu | hu
          · have ho : olderB true best k = true := by simp [olderB, hu]
            have HO := Lib.hid ho
            clear ho
            go_wp2
            go_meet
            exact ⟨by rw [HO.out]; try (simp <;> omega), (by repeat (first | exact Below.refl _ _ | assumption | refine below_grown ?_ (by first | omega | (simp [go_sem]; done) | (simp [go_sem] <;> omega)) _ | refine Below.alloc ?_ (by first | omega | (simp [go_sem]; done) | (simp [go_sem] <;> omega)) _ | refine below_bytesW ?_ (by first | omega | (simp [go_sem]; done) | (simp [go_sem] <;> omega)) _ | refine Below.drew ?_ | refine below_drewN ?_ _)), Var.new _ _ _ rfl rfl⟩
          · have hu2 : (k.1.used == best.1.used) = true := by rw [beq_iff_eq]; exact hu
            have hu3 : best.1.used ≤ k.1.used := by omega
            rcases Int.lt_or_le k.1.seq best.1.seq with hs | hs
            · have ho : olderB true best k = true := by simp [olderB, hu, hs]
              have HO := Lib.hid ho
              clear ho hu
              go_wp2
              go_meet
              exact ⟨by rw [HO.out]; try (simp <;> omega), (by repeat (first | exact Below.refl _ _ | assumption | refine below_grown ?_ (by first | omega | (simp [go_sem]; done) | (simp [go_sem] <;> omega)) _ | refine Below.alloc ?_ (by first | omega | (simp [go_sem]; done) | (simp [go_sem] <;> omega)) _ | refine below_bytesW ?_ (by first | omega | (simp [go_sem]; done) | (simp [go_sem] <;> omega)) _ | refine Below.drew ?_ | refine below_drewN ?_ _)), Var.new _ _ _ rfl rfl⟩
            · have ho : olderB true best k = false := by simp [olderB, hu, hs]
              have HO := Lib.hid ho
              clear ho hu
              go_wp2
              go_meet
              exact ⟨by rw [HO.out]; try (simp <;> omega), (by repeat (first | exact Below.refl _ _ | assumption | refine below_grown ?_ (by first | omega | (simp [go_sem]; done) | (simp [go_sem] <;> omega)) _ | refine Below.alloc ?_ (by first | omega | (simp [go_sem]; done) | (simp [go_sem] <;> omega)) _ | refine below_bytesW ?_ (by first | omega | (simp [go_sem]; done) | (simp [go_sem] <;> omega)) _ | refine Below.drew ?_ | refine below_drewN ?_ _)), Var.new _ _ _ rfl rfl⟩
          · have hu2 : (k.1.used == best.1.used) = false := by rw [beq_eq_false_iff_ne]; omega
            have hu3 : best.1.used ≤ k.1.used := by omega
            have ho : olderB true best k = false := by simp [olderB]; omega
            have HO := Lib.hid ho
            clear ho
            go_wp2
            go_meet
            exact ⟨by rw [HO.out]; try (simp <;> omega), (by repeat (first | exact Below.refl _ _ | assumption | refine below_grown ?_ (by first | omega | (simp [go_sem]; done) | (simp [go_sem] <;> omega)) _ | refine Below.alloc ?_ (by first | omega | (simp [go_sem]; done) | (simp [go_sem] <;> omega)) _ | refine below_bytesW ?_ (by first | omega | (simp [go_sem]; done) | (simp [go_sem] <;> omega)) _ | refine Below.drew ?_ | refine below_drewN ?_ _)), Var.new _ _ _ rfl rfl⟩
      case rest =>
      obtain ⟨rfl, hbx, hv9⟩ := hcut
      have hzx := hbx.size
      rw [hs4] at hv9
      have hbwx : Below w.heap.size w wc := hb4.trans (hbx.mono (by have := HZ2.out; omega))
      have hv6x := hv6.old (hbx.block _ (by have := HZ2.out; omega))
      have h6x : hasVar wc (w.heap.size + 1) 30 = true := hv6x.has (keptR_length _)
      have h4x : hasVar wc w.heap.size 29 = true := by rw [hasVar_congr (hbx.block _ (by have := HZ2.out; omega))]; exact hv4
      have k90 : hasRow wc ⟨wr.heap.size, 0, none⟩ 30 = true := hv9.hasRow (keptR_length _)
      have k91 : rowAt wc ⟨wr.heap.size, 0, none⟩ 30 = keptV k := hv9.rowAt (keptR_length _)
      have i90 : isOld wr.heap.size wc = true := isOld_iff.2 hv9.lt
      have i60 : isOld (w.heap.size + 1) wc = true := isOld_iff.2 hv6x.lt
      have hrgx : RangeF Try.prog 62 wc ba w2.heap.size (allF W) W.length left' cnt' := hrg4.kept (by_below hbx) (by simp) (by have := HZ2.out; simp <;> omega)
      have HRX := Lib.hid hrgx
      have HCX := Lib.hid hC4
      have HBX := Lib.hid hbwx
      have HV6X := Lib.hid hv6x
      clear hbx hv9 hbwx hv6x hrgx hC4 hrg4 hg4 hbr hb4 hv6 hv4 c27 c28 o6 hen
      have hl9 : wr.heap.size < wc.heap.size := isOld_iff.1 i90
      have hl6 : w.heap.size + 1 < wc.heap.size := isOld_iff.1 i60
      have HK9 := Lib.hid k90
      have HK91 := Lib.hid k91
      have H6X := Lib.hid h6x
      have H4X := Lib.hid h4x
      generalize hol : olderB found best k = ol at *
      have HOL := Lib.hid hol
      have hcl := HCL.out k wc HBX.out
      generalize hpk : p k = pk at *
      have HPK := Lib.hid hpk
      have HCLK := Lib.hid hcl
      clear hol hcl hpk
      cases pk with
      | true =>
        cases ol with
        | true =>
          go_wp2_with (go_at_fn g; (with_reducible refine HCLK.out.mono ?_); intro e w7 he; obtain ⟨rfl, hb7⟩ := he; have k97 : hasRow w7 ⟨wr.heap.size, 0, none⟩ 30 = true := (by rw [(brow hb7).2 _ _ _ hl9]; exact HK9.out); have k98 : rowAt w7 ⟨wr.heap.size, 0, none⟩ 30 = keptV k := (by rw [(brow hb7).1 _ _ _ hl9]; exact HK91.out); have h67 : hasVar w7 (w.heap.size + 1) 30 = true := (by rw [hasVar_congr (hb7.block _ hl6)]; exact H6X.out); have HB7 := Lib.hid hb7; clear hb7)
          have hz7 := HB7.out.size
          have hrg7 := HRX.out.kept (by_below HB7.out) (by simp) (by have := HZ2.out; simp <;> omega)
          have hbw7 : Below w.heap.size w w7 := HBX.out.trans (HB7.out.mono (by have := HZ2.out; omega))
          have hv67 := HV6X.out.old (HB7.out.block _ hl6)
          have hv47 : hasVar w7 w.heap.size 29 = true := by rw [hasVar_congr (HB7.out.block _ (by have := HZ2.out; omega))]; exact H4X.out
          have hk : Keeps (fun j => j = w.heap.size + 1) w7 (w7.setRow (w.heap.size + 1) (keptV k)) := keeps_setRow (Q := fun j => j = w.heap.size + 1) (Keeps.refl _ _) (.inr rfl) _
          have hrg8 : RangeF Try.prog 62 (w7.setRow (w.heap.size + 1) (keptV k)) ba w2.heap.size (allF W) W.length left' cnt' := hrg7.kept (row := some (w.heap.size + 1)) ⟨hk.os, hk.tape, hk.output, hk.size, fun i hi hn => hk.block i hi (fun e => hn (by rw [e]))⟩ (by have := HZ2.out; simp <;> omega) (by have := HZ2.out; simp <;> omega)
          have hR : ∃ left cnt ps found' best, Value.bool true = Value.bool found' ∧ RangeF Try.prog 62 (w7.setRow (w.heap.size + 1) (keptV k)) ba w2.heap.size (allF W) W.length left cnt ∧ ColW W left ps ∧ IsOld p ps found' best ∧ Var (w7.setRow (w.heap.size + 1) (keptV k)) (w.heap.size + 1) (keptR best) ∧ hasVar (w7.setRow (w.heap.size + 1) (keptV k)) w.heap.size 29 = true ∧ Below w.heap.size w (w7.setRow (w.heap.size + 1) (keptV k)) := ⟨left', cnt', ps ++ [k], true, k, rfl, hrg8, HCX.out, isOld_yes HI.out HPK.out HOL.out, Var.setRow hv67 (keptR k), by rw [hasVar_setRow_other _ _ _ _ _ (by have := HZ2.out; omega)]; exact hv47, below_setRow hbw7 (by have := HZ2.out; omega) _⟩
          skip
          go_roundw
          case rel => repeat (first | exact hR | exact ⟨hR, rfl⟩ | apply Exists.intro)
          case measure => rw [hrg8.left_eq, HRG.out.left_eq]; exact hlt
        | false =>
          go_wp2_with (go_at_fn g; (with_reducible refine HCLK.out.mono ?_); intro e w7 he; obtain ⟨rfl, hb7⟩ := he; have k97 : hasRow w7 ⟨wr.heap.size, 0, none⟩ 30 = true := (by rw [(brow hb7).2 _ _ _ hl9]; exact HK9.out); have k98 : rowAt w7 ⟨wr.heap.size, 0, none⟩ 30 = keptV k := (by rw [(brow hb7).1 _ _ _ hl9]; exact HK91.out); have h67 : hasVar w7 (w.heap.size + 1) 30 = true := (by rw [hasVar_congr (hb7.block _ hl6)]; exact H6X.out); have HB7 := Lib.hid hb7; clear hb7)
          have hz7 := HB7.out.size
          have hrg7 := HRX.out.kept (by_below HB7.out) (by simp) (by have := HZ2.out; simp <;> omega)
          have hbw7 : Below w.heap.size w w7 := HBX.out.trans (HB7.out.mono (by have := HZ2.out; omega))
          have hv67 := HV6X.out.old (HB7.out.block _ hl6)
          have hv47 : hasVar w7 w.heap.size 29 = true := by rw [hasVar_congr (HB7.out.block _ (by have := HZ2.out; omega))]; exact H4X.out
          have hR : ∃ left cnt ps found' best, Value.bool found = Value.bool found' ∧ RangeF Try.prog 62 w7 ba w2.heap.size (allF W) W.length left cnt ∧ ColW W left ps ∧ IsOld p ps found' best ∧ Var w7 (w.heap.size + 1) (keptR best) ∧ hasVar w7 w.heap.size 29 = true ∧ Below w.heap.size w w7 := ⟨left', cnt', ps ++ [k], found, best, rfl, hrg7, HCX.out, isOld_no HI.out (by rw [HPK.out, HOL.out]; rfl), hv67, hv47, hbw7⟩
          skip
          go_roundw
          case rel => repeat (first | exact hR | exact ⟨hR, rfl⟩ | apply Exists.intro)
          case measure => rw [hrg7.left_eq, HRG.out.left_eq]; exact hlt
      | false =>
        go_wp2_with (go_at_fn g; (with_reducible refine HCLK.out.mono ?_); intro e w7 he; obtain ⟨rfl, hb7⟩ := he; have k97 : hasRow w7 ⟨wr.heap.size, 0, none⟩ 30 = true := (by rw [(brow hb7).2 _ _ _ hl9]; exact HK9.out); have k98 : rowAt w7 ⟨wr.heap.size, 0, none⟩ 30 = keptV k := (by rw [(brow hb7).1 _ _ _ hl9]; exact HK91.out); have h67 : hasVar w7 (w.heap.size + 1) 30 = true := (by rw [hasVar_congr (hb7.block _ hl6)]; exact H6X.out); have HB7 := Lib.hid hb7; clear hb7)
        have hz7 := HB7.out.size
        have hrg7 := HRX.out.kept (by_below HB7.out) (by simp) (by have := HZ2.out; simp <;> omega)
        have hbw7 : Below w.heap.size w w7 := HBX.out.trans (HB7.out.mono (by have := HZ2.out; omega))
        have hv67 := HV6X.out.old (HB7.out.block _ hl6)
        have hv47 : hasVar w7 w.heap.size 29 = true := by rw [hasVar_congr (HB7.out.block _ (by have := HZ2.out; omega))]; exact H4X.out
        have hR : ∃ left cnt ps found' best, Value.bool found = Value.bool found' ∧ RangeF Try.prog 62 w7 ba w2.heap.size (allF W) W.length left cnt ∧ ColW W left ps ∧ IsOld p ps found' best ∧ Var w7 (w.heap.size + 1) (keptR best) ∧ hasVar w7 w.heap.size 29 = true ∧ Below w.heap.size w w7 := ⟨left', cnt', ps ++ [k], found, best, rfl, hrg7, HCX.out, isOld_no HI.out (by rw [HPK.out, HOL.out]; rfl), hv67, hv47, hbw7⟩
        skip
        go_roundw
        case rel => repeat (first | exact hR | exact ⟨hR, rfl⟩ | apply Exists.intro)
        case measure => rw [hrg7.left_eq, HRG.out.left_eq]; exact hlt
end Go.Proofs.Ytaondmaebgicgaa
