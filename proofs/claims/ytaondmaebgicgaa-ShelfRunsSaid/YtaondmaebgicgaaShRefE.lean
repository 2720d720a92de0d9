/- The document's All, Same, Oldest walked. -/
import Derived.Test.YtaondmaebgicgaaShRefD
import Derived.Test.YtaondmaebgicgaaBuildS
namespace Go.Proofs.Ytaondmaebgicgaa
open Go Go.RowKit
set_option maxRecDepth 20000
set_option linter.unusedSimpArgs false
set_option linter.unusedVariables false

theorem ck_encs1 (c : GCookie) : (cookieC c).toList = cookCod.encs [c] := by
  show cookieL c = cookieL c ++ []
  rw [List.append_nil]
set_option maxRecDepth 100000 in
set_option maxHeartbeats 4000000 in
theorem refAll_any (W : List GKept) (a : Option Addr) (cap last : Nat) (hW : W.length ≤ 1000) (w : World) (hin : ListIn dkCod w a W 0) :
    Calls Try.prog 36 #[.agg (shC a W.length cap last)] w (Gives cookCod (W.map (·.1)) w) := by
  obtain ⟨POST, hpost⟩ : ∃ POST : Ending → World → Prop, Gives cookCod (W.map (·.1)) w = POST := ⟨_, rfl⟩
  rw [hpost]
  have HPOST := Lib.hid hpost
  have HIN := Lib.hid hin
  clear hin hpost
  go_enter Try.func36, Try.ntmps36
  go_wp2_with fail
  have hb2 : Below w.heap.size w ((w.alloc (.cells (shC a W.length cap last) 50)).alloc (.cells #[] 31)) := (by repeat (first | exact Below.refl _ _ | assumption | refine below_grown ?_ (by first | omega | (simp [go_sem]; done) | (simp [go_sem] <;> omega)) _ | refine Below.alloc ?_ (by first | omega | (simp [go_sem]; done) | (simp [go_sem] <;> omega)) _ | refine below_bytesW ?_ (by first | omega | (simp [go_sem]; done) | (simp [go_sem] <;> omega)) _ | refine Below.drew ?_ | refine below_drewN ?_ _))
  have ho2 : Own cookCod (From w.heap.size) ((w.alloc (.cells (shC a W.length cap last) 50)).alloc (.cells #[] 31)) (.slice (some ⟨w.heap.size + 1, 0, none⟩) 0 0) [] := by
    have := Own.made0 (c := cookCod) (Q := From w.heap.size) (w := w.alloc (.cells (shC a W.length cap last) 50)) (by show w.heap.size ≤ _; simp) (t := 31) rfl
    rw [World.size_alloc] at this
    exact this
  have HB2 := Lib.hid hb2
  have HO2 := Lib.hid ho2
  clear hb2 ho2
  generalize ((w.alloc (.cells (shC a W.length cap last) 50)).alloc (.cells #[] 31)) = w2 at *
  go_loopw [3, 10] (fun v s10 wr => ∃ j : Nat, s10 = .int .i64 (j : Int) ∧ j ≤ W.length ∧ Own cookCod (From w.heap.size) wr v ((W.take j).map (·.1)) ∧ Below w.heap.size w wr) (fun _ q _ => W.length - (intOf q).toNat)
  case atStart => exact ⟨0, rfl, Nat.zero_le _, HO2.out, HB2.out⟩
  case round =>
    obtain ⟨j, rfl, hj, ho, hbr⟩ := hrel
    have hzr := hbr.size
    have HBW := Lib.hid hbr
    have HO := Lib.hid ho
    by_cases hlt : j < W.length
    · obtain ⟨g, o, rfl, hlo, hhi, hat⟩ := HIN.out.resolve_left (fun h => by subst h; exact absurd hlt (Nat.not_lt_zero _))
      obtain ⟨r1, q1⟩ := dkRow (hat.below HBW.out) j hlt
      have hio : isOld g wr = true := isOld_iff.2 (by omega)
      have hjj : (j : Int) < (W.length : Int) := by omega
      obtain ⟨a5, c5, rfl, hc5, hl5⟩ := ho.slice (B := w.heap.size) (fun _ h => h)
      have HTK : Hid ((W.take (j + 1)).map (fun k : GKept => k.1) = (W.take j).map (fun k : GKept => k.1) ++ [(W[j]'hlt).1]) := by
        show _ = _
        rw [List.take_succ_eq_append_getElem hlt, List.map_append]; rfl
      have hpl : ((W.take j).map (fun k : GKept => k.1)).length ≤ 1000 := by rw [List.length_map, List.length_take]; omega
      generalize W[j]'hlt = k at *
      generalize (W.take j).map (fun k : GKept => k.1) = P at *
      clear hat hbr ho hl5
      go_wp2_with (at_builtin; refine wpList_append_list rfl cookCod (.tmp 14) (.tmp 17) 38 rfl rfl (From w.heap.size) _ _ P rfl ((HO.out.alloc _).alloc _) _ 0 _ _ [k.1] rfl rfl (listAt_new _ _ [_] _ (ck_encs1 _) (by first | rfl | (simp [go_sem]; done))) (by simp [cookCod]; omega) (by simp; omega) (by show _ ≤ _; simp; omega) ?_; intro v' w9 ho1 hb1; have HO9 := Lib.hid ho1; have HK9 := Lib.hid hb1; clear ho1 hb1)
      go_roundw
      case rel =>
        have hka := (Keeps.of_below (Q := From w.heap.size) (((Below.refl wr.heap.size wr).alloc (Nat.le_refl _) (Obj.cells (keptV k) 73)).alloc (by simp) (Obj.cells (cookieC k.1) 31))).trans HK9.out
        exact ⟨j + 1, by simp, by omega, by rw [HTK.out]; exact HO9.out, HBW.out.trans (hka.below_from hzr)⟩
      case measure => first | (simp [intOf]; done) | (simp [intOf]; omega)
    · obtain rfl : j = W.length := by omega
      rw [List.take_of_length_le (Nat.le_refl _)] at HO
      clear ho hbr
      go_wp2
      rw [← HPOST.out]
      exact HO.out.gives (fun _ h => h) HBW.out
set_option maxHeartbeats 4000000 in
theorem refSame_eq (L : List GCookie) (a1 a2 : Option Addr) (c1 c2 : Nat) (hL : L.length ≤ 1000) (w : World) (h1 : ListIn cookCod w a1 L 0) (h2 : ListIn cookCod w a2 L 0) :
    Calls Try.prog 35 #[.slice a1 L.length c1, .slice a2 L.length c2] w fun e w' => e = .returned (.bool true) ∧ Below w.heap.size w w' := by
  have H1 := Lib.hid h1
  have H2 := Lib.hid h2
  clear h1 h2
  go_enter Try.func35, Try.ntmps35
  go_wp2_with fail
  go_loopw [13] (fun s13 wr => ∃ j : Nat, s13 = .int .i64 (j : Int) ∧ j ≤ L.length ∧ Below w.heap.size w wr) (fun q _ => L.length - (intOf q).toNat)
  case atStart => exact ⟨0, rfl, Nat.zero_le _, Below.refl _ _⟩
  case round =>
    obtain ⟨j, rfl, hj, hbr⟩ := hrel
    have hzr := hbr.size
    have HBW := Lib.hid hbr
    by_cases hlt : j < L.length
    · obtain ⟨g, o, rfl, hlo, hhi, hat⟩ := H1.out.resolve_left (fun h => by subst h; exact absurd hlt (Nat.not_lt_zero _))
      obtain ⟨g', o', rfl, hlo', hhi', hat'⟩ := H2.out.resolve_left (fun h => by subst h; exact absurd hlt (Nat.not_lt_zero _))
      obtain ⟨r1, q1⟩ := ckRow (hat.below HBW.out) j hlt
      obtain ⟨r2, q2⟩ := ckRow (hat'.below HBW.out) j hlt
      have hjj : (j : Int) < (L.length : Int) := by omega
      generalize L[j]'hlt = c at *
      have he : ckEq c c = true := ckEq_refl c
      have r1d : hasRow wr.drew ⟨g, o + j * 29, none⟩ 29 = true := r1
      have q1d : rowAt wr.drew ⟨g, o + j * 29, none⟩ 29 = cookieC c := q1
      have r2d : hasRow wr.drew ⟨g', o' + j * 29, none⟩ 29 = true := r2
      have q2d : rowAt wr.drew ⟨g', o' + j * 29, none⟩ 29 = cookieC c := q2
      clear hat hat' hbr
      go_upto_region 6 with fail
      go_region
      all_goals
        go_wp2
        go_roundw
        case rel => exact ⟨j + 1, by simp, by omega, HBW.out.trans (Below.mono (by repeat (first | exact Below.refl _ _ | assumption | refine below_grown ?_ (by first | omega | (simp [go_sem]; done) | (simp [go_sem] <;> omega)) _ | refine Below.alloc ?_ (by first | omega | (simp [go_sem]; done) | (simp [go_sem] <;> omega)) _ | refine below_bytesW ?_ (by first | omega | (simp [go_sem]; done) | (simp [go_sem] <;> omega)) _ | refine Below.drew ?_ | refine below_drewN ?_ _)) hzr)⟩
        case measure => first | (simp [intOf]; done) | (simp [intOf]; omega)
    · obtain rfl : j = L.length := by omega
      go_wp2
      go_ret
      exact ⟨rfl, HBW.out⟩
end Go.Proofs.Ytaondmaebgicgaa
