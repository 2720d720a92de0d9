/- One doing on both sides: 'do' walked. -/
import Derived.Test.YtaondmaebgicgaaShDoL
import Derived.Test.YtaondmaebgicgaaShRefX
import Derived.Test.YtaondmaebgicgaaShUse
import Derived.Test.YtaondmaebgicgaaShExp
import Derived.Test.YtaondmaebgicgaaShRefQ
import Derived.Test.YtaondmaebgicgaaShRefU
import Derived.Test.YtaondmaebgicgaaShRefPut
import Derived.Test.YtaondmaebgicgaaShCk
namespace Go.Proofs.Ytaondmaebgicgaa
open Go Go.RowKit
set_option maxRecDepth 20000
set_option linter.unusedSimpArgs false
set_option linter.unusedVariables false

theorem act_midD {w : World} {b : Nat} {x : GAct} (h : Var w b (actL x)) : hasRow w ⟨b, 1, none⟩ 29 = true ∧ rowAt w ⟨b, 1, none⟩ 29 = cookieC x.c := by
  have key : ∀ j, j < 29 → w.cell? ⟨b, 1 + j, none⟩ = (cookieL x.c)[j]? := fun j hj => by
    have hl : j < (cookieL x.c).length := by rw [cookieL_length]; exact hj
    rw [List.getElem?_eq_getElem hl]
    refine h.cellAt ?_
    unfold actL
    rw [List.singleton_append, Nat.add_comm, List.getElem?_cons_succ, List.getElem?_append_left hl, List.getElem?_eq_getElem hl]
  constructor
  · rw [hasRow_iff]
    intro j hj
    rw [add_mk, key j hj, List.getElem?_eq_getElem (by rw [cookieL_length]; exact hj)]; rfl
  · apply Array.ext_getElem?
    intro j
    simp only [rowAt, List.getElem?_toArray, List.getElem?_map, add_mk]
    by_cases hj : j < 29
    · have e : (List.range 29)[j]? = some j := by simp [hj]
      rw [e, Option.map_some, key j hj, cookieC, List.getElem?_toArray, List.getElem?_eq_getElem (by rw [cookieL_length]; exact hj)]; rfl
    · have e : (List.range 29)[j]? = none := by simp; omega
      rw [e, Array.getElem?_eq_none (by rw [cookieC_size]; omega)]; rfl
theorem shR_mono {w : World} {bs ba bi : Nat} {W : List GKept} {last B B' : Nat} (h : ShR w bs ba bi W last B) (hB : B ≤ B') : ShR w bs ba bi W last B' := by
  obtain ⟨h1, h2, ⟨n, h3, h4⟩, h5⟩ := h
  exact ⟨h1, h2, ⟨n, Nat.le_trans h3 hB, h4⟩, h5⟩
theorem row29 {w : World} {b o : Nat} {k : GKept} (r1 : hasRow w ⟨b, o, none⟩ 30 = true) (r2 : rowAt w ⟨b, o, none⟩ 30 = keptV k) : hasRow w ⟨b, o, none⟩ 29 = true ∧ rowAt w ⟨b, o, none⟩ 29 = cookieC k.1 := by
  constructor
  · rw [hasRow_iff] at *
    exact fun j hj => r1 j (by omega)
  · apply Array.ext_getElem?
    intro j
    have h := congrArg (fun z : Array Value => z[j]?) r2
    simp only [rowAt, List.getElem?_toArray, List.getElem?_map] at h ⊢
    by_cases hj : j < 29
    · have e : (List.range 29)[j]? = some j := by simp [hj]
      have h30 : j < 30 := by omega
      have e' : (List.range 30)[j]? = some j := by simp [h30]
      rw [e]
      rw [e'] at h
      rw [h]
      simp only [keptV, cookieC, List.getElem?_toArray]
      exact keptR_at k j hj
    · have e : (List.range 29)[j]? = none := by simp; omega
      rw [e, Array.getElem?_eq_none (by rw [cookieC_size]; omega)]; rfl
set_option maxRecDepth 100000 in
set_option maxHeartbeats 8000000 in
theorem do_any (W : List GKept) (last B : Nat) (hO : OkW W last) (hlast : last < 900) (hB : B < 900) (x : GAct) (bs ba bi : Nat) (a : Option Addr) (cap : Nat) (hcap : W.length ≤ cap) (w : World) (hsh : ShR w bs ba bi W last B) (hin : ListIn dkCod w a W 0) :
    Calls Try.prog 18 #[.pointer (some ⟨bs, 0, none⟩), .agg (shC a W.length cap last), .agg (actC x)] w fun e w' => ∃ W' last' a' cap', e = .returned (.tuple #[.agg (shC a' W'.length cap' last'), .bool true]) ∧ OkW W' last' ∧ last' ≤ last + 1 ∧ W'.length ≤ cap' ∧ ShR w' bs ba bi W' last' (B + 1) ∧ ListIn dkCod w' a' W' 0 ∧ Keeps (ShO bs ba bi) w w' := by
  obtain ⟨POST, hpost⟩ : ∃ POST : Ending → World → Prop, (fun e w' => ∃ W' last' a' cap', e = Ending.returned (.tuple #[.agg (shC a' W'.length cap' last'), .bool true]) ∧ OkW W' last' ∧ last' ≤ last + 1 ∧ W'.length ≤ cap' ∧ ShR w' bs ba bi W' last' (B + 1) ∧ ListIn dkCod w' a' W' 0 ∧ Keeps (ShO bs ba bi) w w') = POST := ⟨_, rfl⟩
  rw [hpost]
  have HPOST := Lib.hid hpost
  have HIN := Lib.hid hin
  have HSH := Lib.hid hsh
  have HO := Lib.hid hO
  have hWl := hO.length
  have HAT : Hid (∀ w', ListIn dkCod w' a W 0 → Calls Try.prog 26 #[.agg (shC a W.length cap last), .agg (cookieC x.c)] w' fun e w'' => e = .returned (.int .i64 (atW W x.c)) ∧ Below w'.heap.size w' w'') := fun w' h => refAt_any W a cap last x.c (by omega) w' h
  have HGET : Hid (∀ w', ShR w' bs ba bi W last B → Calls Try.prog 11 #[.pointer (some ⟨bs, 0, none⟩), .agg (cookieC x.c)] w' fun e w'' => e = .returned (.tuple #[.agg (cookieC ((findW W x.c).getD zeroKt).1), .bool (findW W x.c).isSome]) ∧ Below w'.heap.size w' w'') := fun w' h => shGet_any W last B bs ba bi x.c w' h
  clear hin hsh hpost hO
  go_enter Try.func18, Try.ntmps18
  go_upto_region 1 with fail
  change Code.wp _ _ _ _ (((w.alloc (.cells (shC a W.length cap last) 50)).alloc (.cells (actC x) 33)).alloc (.cells (shC none 0 0 0) 50))
  have hv4 : Var (((w.alloc (.cells (shC a W.length cap last) 50)).alloc (.cells (actC x) 33)).alloc (.cells (shC none 0 0 0) 50)) w.heap.size (shL a W.length cap last) := ((Var.new w _ _ rfl rfl).alloc _).alloc _
  have hv5 : Var (((w.alloc (.cells (shC a W.length cap last) 50)).alloc (.cells (actC x) 33)).alloc (.cells (shC none 0 0 0) 50)) (w.heap.size + 1) (actL x) := (Var.new _ _ _ rfl (by simp)).alloc _
  have hv6 : Var (((w.alloc (.cells (shC a W.length cap last) 50)).alloc (.cells (actC x) 33)).alloc (.cells (shC none 0 0 0) 50)) (w.heap.size + 1 + 1) (shL none 0 0 0) := Var.new _ _ _ rfl (by simp)
  have hb2 : Below w.heap.size w (((w.alloc (.cells (shC a W.length cap last) 50)).alloc (.cells (actC x) 33)).alloc (.cells (shC none 0 0 0) 50)) := (by repeat (first | exact Below.refl _ _ | assumption | refine below_grown ?_ (by first | omega | (simp [go_sem]; done) | (simp [go_sem] <;> omega)) _ | refine Below.alloc ?_ (by first | omega | (simp [go_sem]; done) | (simp [go_sem] <;> omega)) _ | refine below_bytesW ?_ (by first | omega | (simp [go_sem]; done) | (simp [go_sem] <;> omega)) _ | refine Below.drew ?_ | refine below_drewN ?_ _))
  generalize (((w.alloc (.cells (shC a W.length cap last) 50)).alloc (.cells (actC x) 33)).alloc (.cells (shC none 0 0 0) 50)) = w2 at *
  have HV4 := Lib.hid hv4
  have HV5 := Lib.hid hv5
  have HV6 := Lib.hid hv6
  have HB2 := Lib.hid hb2
  have k40 : hasRow w2 ⟨w.heap.size, 0, none⟩ 2 = true := hv4.hasRow rfl
  have k41 : rowAt w2 ⟨w.heap.size, 0, none⟩ 2 = shC a W.length cap last := hv4.rowAt rfl
  have c40 : w2.cell? ⟨w.heap.size, 0, none⟩ = some (.slice a W.length cap) := hv4.cellAt rfl
  have o4 : isOld w.heap.size w2 = true := isOld_iff.2 hv4.lt
  have o5 : isOld (w.heap.size + 1) w2 = true := isOld_iff.2 hv5.lt
  have o6 : isOld (w.heap.size + 1 + 1) w2 = true := isOld_iff.2 hv6.lt
  obtain ⟨m1, m2⟩ := act_midD hv5
  clear hv4 hv5 hv6 hb2
  go_upto_region 3 with (first
    | (go_at_call 11; (with_reducible refine (HGET.out _ (HSH.out.below HB2.out)).mono ?_); rintro e w1 ⟨rfl, hb1⟩; obtain ⟨p1, rfl⟩ := grown_of hb1; clear hb1)
    | (go_at_call 26; (with_reducible refine (HAT.out _ ((HIN.out.below HB2.out).below (by repeat (first | exact Below.refl _ _ | assumption | refine below_grown ?_ (by first | omega | (simp [go_sem]; done) | (simp [go_sem] <;> omega)) _ | refine Below.alloc ?_ (by first | omega | (simp [go_sem]; done) | (simp [go_sem] <;> omega)) _ | refine below_bytesW ?_ (by first | omega | (simp [go_sem]; done) | (simp [go_sem] <;> omega)) _ | refine Below.drew ?_ | refine below_drewN ?_ _)))).mono ?_); rintro e w1 ⟨rfl, hb1⟩; obtain ⟨p1, rfl⟩ := grown_of hb1; clear hb1))
  rename_i q1 _ _ _ _
  have hb3 : Below w2.heap.size w2 (grown ((grown w2 q1).alloc (Obj.cells (cookieC ((findW W x.c).getD zeroKt).1) 31)) p1) := (by repeat (first | exact Below.refl _ _ | assumption | refine below_grown ?_ (by first | omega | (simp [go_sem]; done) | (simp [go_sem] <;> omega)) _ | refine Below.alloc ?_ (by first | omega | (simp [go_sem]; done) | (simp [go_sem] <;> omega)) _ | refine below_bytesW ?_ (by first | omega | (simp [go_sem]; done) | (simp [go_sem] <;> omega)) _ | refine Below.drew ?_ | refine below_drewN ?_ _))
  have hv8 : Var (grown ((grown w2 q1).alloc (Obj.cells (cookieC ((findW W x.c).getD zeroKt).1) 31)) p1) (w2.heap.size + q1.os.size) (cookieL ((findW W x.c).getD zeroKt).1) := by
    have := (Var.new (grown w2 q1) (cookieC ((findW W x.c).getD zeroKt).1) 31 rfl rfl).grown p1
    rw [size_grown] at this
    exact this
  generalize (grown ((grown w2 q1).alloc (Obj.cells (cookieC ((findW W x.c).getD zeroKt).1) 31)) p1) = w3 at *
  generalize w2.heap.size + q1.os.size = b8 at *
  have HB3 := Lib.hid hb3
  have n40 : hasRow w3 ⟨w.heap.size, 0, none⟩ 2 = true := (HV4.out.below hb3).hasRow rfl
  have n41 : rowAt w3 ⟨w.heap.size, 0, none⟩ 2 = shC a W.length cap last := (HV4.out.below hb3).rowAt rfl
  have d40 : w3.cell? ⟨w.heap.size, 0, none⟩ = some (.slice a W.length cap) := (HV4.out.below hb3).cellAt rfl
  have q4 : isOld w.heap.size w3 = true := isOld_iff.2 (HV4.out.below hb3).lt
  have q5 : isOld (w.heap.size + 1) w3 = true := isOld_iff.2 (HV5.out.below hb3).lt
  have q6 : isOld (w.heap.size + 1 + 1) w3 = true := isOld_iff.2 (HV6.out.below hb3).lt
  have q8 : isOld b8 w3 = true := isOld_iff.2 hv8.lt
  have k80 : hasRow w3 ⟨b8, 0, none⟩ 29 = true := hv8.hasRow (cookieL_length _)
  have k81 : rowAt w3 ⟨b8, 0, none⟩ 29 = cookieC ((findW W x.c).getD zeroKt).1 := hv8.rowAt (cookieL_length _)
  have hIN3 := (HIN.out.below HB2.out).below hb3
  have HIN3 := Lib.hid hIN3
  clear hb3 hv8 k40 k41 c40 o4 o5 o6 m1 m2
  generalize hfb : (findW W x.c).isSome = fb at *
  generalize hai : atW W x.c = ai at *
  go_cut [50] (fun s50 wx => s50 = .bool false ∧ Below w3.heap.size w3 wx)
  case first =>
    cases hf : findW W x.c with
    | none =>
      have hat : ai = -1 := by rw [← hai]; unfold atW; rw [hf]; rfl
      subst hat
      have hz : ((none : Option GKept).getD zeroKt).1 = zeroCk := rfl
      rw [hf, hz] at k81
      have hck : ckEq zeroCk zeroCk = true := ckEq_refl _
      clear hIN3 hf hfb hai hz
      go_region
      all_goals
        go_wp2_with fail
        go_meet
        exact ⟨rfl, (by repeat (first | exact Below.refl _ _ | assumption | refine below_grown ?_ (by first | omega | (simp [go_sem]; done) | (simp [go_sem] <;> omega)) _ | refine Below.alloc ?_ (by first | omega | (simp [go_sem]; done) | (simp [go_sem] <;> omega)) _ | refine below_bytesW ?_ (by first | omega | (simp [go_sem]; done) | (simp [go_sem] <;> omega)) _ | refine Below.drew ?_ | refine below_drewN ?_ _))⟩
    | some k =>
      obtain ⟨hi, hat, hik⟩ := atW_some hf
      have hat' := hai.symm.trans hat
      have hz : ((some k).getD zeroKt).1 = k.1 := rfl
      rw [hf, hz] at k81
      have hck : ckEq k.1 k.1 = true := ckEq_refl _
      obtain ⟨g, o, rfl, hlo, hhi, hls⟩ := hIN3.resolve_left (fun h => by subst h; exact absurd hi (Nat.not_lt_zero _))
      obtain ⟨r1, r2⟩ := dkRow hls _ hi
      rw [hik] at r2
      obtain ⟨r1', r2'⟩ := row29 r1 r2
      generalize idxW W x.c = i at *
      subst hat'
      have r1d : hasRow w3.drew ⟨g, o + i * 30, none⟩ 29 = true := r1'
      have r2d : rowAt w3.drew ⟨g, o + i * 30, none⟩ 29 = cookieC k.1 := r2'
      have hio : isOld g w3 = true := isOld_iff.2 hhi
      have hii : (i : Int) < (W.length : Int) := by omega
      have hi0 : (0 : Int) ≤ (i : Int) := by omega
      have hi1 : ¬ ((i : Int) < 0) := by omega
      have hi2 : decide ((i : Int) < 0) = false := by simp
      clear hls hat hf hik hfb hai r1 r2 hz
      go_region
      all_goals
        go_wp2_with fail
        go_meet
        exact ⟨rfl, (by repeat (first | exact Below.refl _ _ | assumption | refine below_grown ?_ (by first | omega | (simp [go_sem]; done) | (simp [go_sem] <;> omega)) _ | refine Below.alloc ?_ (by first | omega | (simp [go_sem]; done) | (simp [go_sem] <;> omega)) _ | refine below_bytesW ?_ (by first | omega | (simp [go_sem]; done) | (simp [go_sem] <;> omega)) _ | refine Below.drew ?_ | refine below_drewN ?_ _))⟩
  case rest =>
  obtain ⟨rfl, hbc⟩ := hcut
  have HBC : Hid (Below w2.heap.size w2 wc) := HB3.out.trans (hbc.mono HB3.out.size)
  have HBW : Hid (Below w.heap.size w wc) := HB2.out.trans (HBC.out.mono HB2.out.size)
  have hv4 := HV4.out.below HBC.out
  have hv5 := HV5.out.below HBC.out
  have hv6 := HV6.out.below HBC.out
  obtain ⟨m1, m2⟩ := act_midD hv5
  have m0 : wc.cell? ⟨w.heap.size + 1, 0, none⟩ = some (.int .i64 x.kind) := hv5.cellAt rfl
  have m3 : wc.cell? ⟨w.heap.size + 1, 30, none⟩ = some (.string ⟨x.site.toArray⟩) := hv5.cellAt (by have := actC_30 x; rwa [actC, List.getElem?_toArray] at this)
  have k40 : hasRow wc ⟨w.heap.size, 0, none⟩ 2 = true := hv4.hasRow rfl
  have k41 : rowAt wc ⟨w.heap.size, 0, none⟩ 2 = shC a W.length cap last := hv4.rowAt rfl
  have o4 : isOld w.heap.size wc = true := isOld_iff.2 hv4.lt
  have o5 : isOld (w.heap.size + 1) wc = true := isOld_iff.2 hv5.lt
  have o6 : isOld (w.heap.size + 1 + 1) wc = true := isOld_iff.2 hv6.lt
  have h6 : hasVar wc (w.heap.size + 1 + 1) 2 = true := hv6.has rfl
  have HV5c := Lib.hid hv5
  have HV6c := Lib.hid hv6
  have HSHc := Lib.hid (HSH.out.below HBW.out)
  have HINc := Lib.hid (HIN.out.below HBW.out)
  clear hbc hv4 hv5 hv6 n40 n41 d40 q4 q5 q6 q8 k80 k81 hIN3 hfb hai
  by_cases h0 : x.kind = 0
  · obtain ⟨b, c', W', last', hp⟩ := putW_ex W last x.c x.site (by omega)
    obtain ⟨o1, l1, l2, _, _⟩ := hp.ok HO.out x.hsite
    have HPU : Hid (∀ w', ShR w' bs ba bi W last B → _) := Lib.hid (fun w' h => shPut_ok hp HO.out (by omega) B bs ba bi (by omega) x.hsite w' h)
    have HRP := Lib.hid (refPut_any W HO.out.apart a cap last (by omega) x.c x.site x.hsite (by omega) wc HINc.out b c' W' last' hp)
    have HO1 := Lib.hid o1
    clear o1 hp
    go_upto_region 8 with (go_at_call 27; (with_reducible refine HRP.out.mono ?_); intro e w7 hg; obtain ⟨a7, c7, rfl, hc7, hl7, hb7⟩ := hg; have HL7 := Lib.hid hl7; have HB7 := Lib.hid hb7; clear hl7 hb7)
    have hz7 := HB7.out.size
    have hb8 : Below wc.heap.size wc (w7.alloc (Obj.cells (shC a7 W'.length c7 last') 50)) := HB7.out.alloc hz7 _
    have hv11 : Var (w7.alloc (Obj.cells (shC a7 W'.length c7 last') 50)) w7.heap.size (shL a7 W'.length c7 last') := Var.new _ _ _ rfl rfl
    have HL8 := Lib.hid (HL7.out.below ((Below.refl w7.heap.size w7).alloc (Nat.le_refl _) (Obj.cells (shC a7 W'.length c7 last') 50)))
    generalize w7.alloc (Obj.cells (shC a7 W'.length c7 last') 50) = w8 at *
    generalize hb11E : w7.heap.size = b11 at *
    have hv5 := HV5c.out.below hb8
    have hv6 := HV6c.out.below hb8
    obtain ⟨r1, r2⟩ := act_midD hv5
    have r3 : w8.cell? ⟨w.heap.size + 1, 30, none⟩ = some (.string ⟨x.site.toArray⟩) := hv5.cellAt (by have := actC_30 x; rwa [actC, List.getElem?_toArray] at this)
    have r4 : hasRow w8 ⟨b11, 0, none⟩ 2 = true := hv11.hasRow rfl
    have r5 : rowAt w8 ⟨b11, 0, none⟩ 2 = shC a7 W'.length c7 last' := hv11.rowAt rfl
    have r6 : hasVar w8 (w.heap.size + 1 + 1) 2 = true := hv6.has rfl
    have p5 : isOld (w.heap.size + 1) w8 = true := isOld_iff.2 hv5.lt
    have p6 : isOld (w.heap.size + 1 + 1) w8 = true := isOld_iff.2 hv6.lt
    have p11 : isOld b11 w8 = true := isOld_iff.2 hv11.lt
    have HSH8 := Lib.hid (HSHc.out.below hb8)
    have HV6e := Lib.hid hv6
    have HV11 := Lib.hid hv11
    have HB8 := Lib.hid hb8
    have hls := HSH.out.1.lt
    have hla := HSH.out.2.1.lt
    have hlbi : bi < w.heap.size := by obtain ⟨n, _, h4⟩ := HSH.out.2.2.1; exact h4.lt
    have hwl := HBW.out.size
    have hz8 := hb8.size
    have hn : ∀ {q : Nat}, w.heap.size ≤ q → ¬ ShO bs ba bi q := by rintro q hq (e | e | e) <;> omega
    clear hv5 hv6 hb8 hv11 m0 m1 m2 m3 k40 k41 o4 o5 o6 h6 h0
    go_cut [7] (fun s7 wx => s7 = .bool true ∧ Var wx (w.heap.size + 1 + 1) (shL a7 W'.length c7 last') ∧ ListIn dkCod wx a7 W' 0 ∧ ShR wx bs ba bi W' last' (B + 1) ∧ Keeps (ShO bs ba bi) w wx)
    case first =>
      go_region_law (first
        | (go_simp; (with_reducible refine (HPU.out _ (ShR.below HSH8.out (by repeat (first | exact Below.refl _ _ | assumption | refine below_grown ?_ (by first | omega | (simp [go_sem]; done) | (simp [go_sem] <;> omega)) _ | refine Below.alloc ?_ (by first | omega | (simp [go_sem]; done) | (simp [go_sem] <;> omega)) _ | refine below_bytesW ?_ (by first | omega | (simp [go_sem]; done) | (simp [go_sem] <;> omega)) _ | refine Below.drew ?_ | refine below_drewN ?_ _)))).mono ?_); rintro e w9 ⟨rfl, hsh9, hk9⟩; have hk9 : Keeps (ShO bs ba bi) w8 w9 := Keeps.trans (Keeps.of_below (by repeat (first | exact Below.refl _ _ | assumption | refine below_grown ?_ (by first | omega | (simp [go_sem]; done) | (simp [go_sem] <;> omega)) _ | refine Below.alloc ?_ (by first | omega | (simp [go_sem]; done) | (simp [go_sem] <;> omega)) _ | refine below_bytesW ?_ (by first | omega | (simp [go_sem]; done) | (simp [go_sem] <;> omega)) _ | refine Below.drew ?_ | refine below_drewN ?_ _))) hk9; have hv69 := HV6e.out.keeps hk9 (hn (by omega)); have s4 : hasRow w9 ⟨b11, 0, none⟩ 2 = true := (HV11.out.keeps hk9 (hn (by omega))).hasRow rfl; have s5 : rowAt w9 ⟨b11, 0, none⟩ 2 = shC a7 W'.length c7 last' := (HV11.out.keeps hk9 (hn (by omega))).rowAt rfl; have s6 : hasVar w9 (w.heap.size + 1 + 1) 2 = true := hv69.has rfl; have HSH9 := Lib.hid hsh9; have HK9 := Lib.hid hk9; clear hsh9 hk9 hv69; dsimp only))
      all_goals
        go_wp2_with fail
        go_meet
        have hks : Keeps (fun j => j = w.heap.size + 1 + 1) w9 (w9.setRow (w.heap.size + 1 + 1) (shC a7 W'.length c7 last')) := keeps_setRow (Q := fun j => j = w.heap.size + 1 + 1) (Keeps.refl _ _) (.inr rfl) _
        have hv69 := HV6e.out.keeps HK9.out (hn (by omega))
        refine ⟨by simp, hv69.setRow_same (shC a7 W'.length c7 last') (by simp [shL, shC]), listIn_var hv69 (by simp [shL]) (listIn_sh HSH8.out HL8.out HK9.out) hks, shR_keeps HSH9.out hks (fun j e => hn (by omega)), ?_⟩
        exact keeps_setRow ((Keeps.of_below (HBW.out.trans (HB8.out.mono hwl))).trans HK9.out) (.inl (by omega)) _
    case rest =>
      obtain ⟨rfl, hv, hl, hs, hk⟩ := hcut
      have k1 : hasRow wc ⟨w.heap.size + 1 + 1, 0, none⟩ 2 = true := hv.hasRow rfl
      have k2 : rowAt wc ⟨w.heap.size + 1 + 1, 0, none⟩ 2 = shC a7 W'.length c7 last' := hv.rowAt rfl
      have HL := Lib.hid hl
      have HS := Lib.hid hs
      have HK := Lib.hid hk
      clear hv hl hs hk
      go_wp2
      refine ret_sh (w.heap.size + 1 + 1) a7 W'.length c7 last' (.bool true) rfl rfl rfl k1 k2 rfl ?_
      rw [← HPOST.out]
      exact ⟨W', last', a7, c7, rfl, HO1.out, l2, hc7, HS.out, HL.out, HK.out⟩
  · by_cases h1 : x.kind = 1
    · obtain ⟨W', hW'⟩ : ∃ W', dropW W x.c = W' := ⟨_, rfl⟩
      obtain ⟨b, hb⟩ : ∃ b, (findW W x.c).isSome = b := ⟨_, rfl⟩
      have HPU : Hid (∀ w', ShR w' bs ba bi W last B → Calls Try.prog 9 #[.pointer (some ⟨bs, 0, none⟩), .agg (cookieC x.c)] w' fun e w'' => e = .returned (.bool b) ∧ ShR w'' bs ba bi W' last (B + 1) ∧ Keeps (ShO bs ba bi) w' w'') := fun w' h => by
        have := shDrop_any W last HO.out (by omega) B bs ba bi (by omega) x.c w' h
        rw [hb, hW'] at this
        exact this.mono (fun e w'' hh => ⟨hh.1, shR_mono hh.2.1 (by omega), hh.2.2⟩)
      have HRP : Hid (Calls Try.prog 28 #[.agg (shC a W.length cap last), .agg (cookieC x.c)] wc (DocGives W' last (.bool b) wc)) := by
        cases hf : findW W x.c with
        | none =>
          have := refDrop_no W a cap last hcap x.c (by omega) wc HINc.out hf
          rw [← hb, ← hW', hf, drop_none hf]
          exact this
        | some k =>
          have := refDrop_yes W HO.out.apart a cap last hcap x.c (by omega) wc HINc.out k hf
          rw [← hb, ← hW', hf]
          exact this
      have HO1 : Hid (OkW W' last) := by rw [← hW']; exact HO.out.drop x.c
      clear hb hW'
      go_upto_region 11 with (go_at_call 28; (with_reducible refine HRP.out.mono ?_); intro e w7 hg; obtain ⟨a7, c7, rfl, hc7, hl7, hb7⟩ := hg; have HL7 := Lib.hid hl7; have HB7 := Lib.hid hb7; clear hl7 hb7)
      have hz7 := HB7.out.size
      have hb8 : Below wc.heap.size wc (w7.alloc (Obj.cells (shC a7 W'.length c7 last) 50)) := HB7.out.alloc hz7 _
      have hv11 : Var (w7.alloc (Obj.cells (shC a7 W'.length c7 last) 50)) w7.heap.size (shL a7 W'.length c7 last) := Var.new _ _ _ rfl rfl
      have HL8 := Lib.hid (HL7.out.below ((Below.refl w7.heap.size w7).alloc (Nat.le_refl _) (Obj.cells (shC a7 W'.length c7 last) 50)))
      generalize w7.alloc (Obj.cells (shC a7 W'.length c7 last) 50) = w8 at *
      generalize hb11E : w7.heap.size = b11 at *
      have hv5 := HV5c.out.below hb8
      have hv6 := HV6c.out.below hb8
      obtain ⟨r1, r2⟩ := act_midD hv5
      have r3 : w8.cell? ⟨w.heap.size + 1, 30, none⟩ = some (.string ⟨x.site.toArray⟩) := hv5.cellAt (by have := actC_30 x; rwa [actC, List.getElem?_toArray] at this)
      have r4 : hasRow w8 ⟨b11, 0, none⟩ 2 = true := hv11.hasRow rfl
      have r5 : rowAt w8 ⟨b11, 0, none⟩ 2 = shC a7 W'.length c7 last := hv11.rowAt rfl
      have r6 : hasVar w8 (w.heap.size + 1 + 1) 2 = true := hv6.has rfl
      have p5 : isOld (w.heap.size + 1) w8 = true := isOld_iff.2 hv5.lt
      have p6 : isOld (w.heap.size + 1 + 1) w8 = true := isOld_iff.2 hv6.lt
      have p11 : isOld b11 w8 = true := isOld_iff.2 hv11.lt
      have HSH8 := Lib.hid (HSHc.out.below hb8)
      have HV6e := Lib.hid hv6
      have HV11 := Lib.hid hv11
      have HB8 := Lib.hid hb8
      have hls := HSH.out.1.lt
      have hla := HSH.out.2.1.lt
      have hlbi : bi < w.heap.size := by obtain ⟨n, _, h4⟩ := HSH.out.2.2.1; exact h4.lt
      have hwl := HBW.out.size
      have hz8 := hb8.size
      have hn : ∀ {q : Nat}, w.heap.size ≤ q → ¬ ShO bs ba bi q := by rintro q hq (e | e | e) <;> omega
      clear hv5 hv6 hb8 hv11 m0 m1 m2 m3 k40 k41 o4 o5 o6 h6 h0 h1
      go_cut [7] (fun s7 wx => s7 = .bool true ∧ Var wx (w.heap.size + 1 + 1) (shL a7 W'.length c7 last) ∧ ListIn dkCod wx a7 W' 0 ∧ ShR wx bs ba bi W' last (B + 1) ∧ Keeps (ShO bs ba bi) w wx)
      case first =>
        go_region_law (first
          | (go_simp; (with_reducible refine (HPU.out _ (ShR.below HSH8.out (by repeat (first | exact Below.refl _ _ | assumption | refine below_grown ?_ (by first | omega | (simp [go_sem]; done) | (simp [go_sem] <;> omega)) _ | refine Below.alloc ?_ (by first | omega | (simp [go_sem]; done) | (simp [go_sem] <;> omega)) _ | refine below_bytesW ?_ (by first | omega | (simp [go_sem]; done) | (simp [go_sem] <;> omega)) _ | refine Below.drew ?_ | refine below_drewN ?_ _)))).mono ?_); rintro e w9 ⟨rfl, hsh9, hk9⟩; have hk9 : Keeps (ShO bs ba bi) w8 w9 := Keeps.trans (Keeps.of_below (by repeat (first | exact Below.refl _ _ | assumption | refine below_grown ?_ (by first | omega | (simp [go_sem]; done) | (simp [go_sem] <;> omega)) _ | refine Below.alloc ?_ (by first | omega | (simp [go_sem]; done) | (simp [go_sem] <;> omega)) _ | refine below_bytesW ?_ (by first | omega | (simp [go_sem]; done) | (simp [go_sem] <;> omega)) _ | refine Below.drew ?_ | refine below_drewN ?_ _))) hk9; have hv69 := HV6e.out.keeps hk9 (hn (by omega)); have s4 : hasRow w9 ⟨b11, 0, none⟩ 2 = true := (HV11.out.keeps hk9 (hn (by omega))).hasRow rfl; have s5 : rowAt w9 ⟨b11, 0, none⟩ 2 = shC a7 W'.length c7 last := (HV11.out.keeps hk9 (hn (by omega))).rowAt rfl; have s6 : hasVar w9 (w.heap.size + 1 + 1) 2 = true := hv69.has rfl; have HSH9 := Lib.hid hsh9; have HK9 := Lib.hid hk9; clear hsh9 hk9 hv69; dsimp only))
        all_goals
          go_wp2_with fail
          go_meet
          have hks : Keeps (fun j => j = w.heap.size + 1 + 1) w9 (w9.setRow (w.heap.size + 1 + 1) (shC a7 W'.length c7 last)) := keeps_setRow (Q := fun j => j = w.heap.size + 1 + 1) (Keeps.refl _ _) (.inr rfl) _
          have hv69 := HV6e.out.keeps HK9.out (hn (by omega))
          refine ⟨by simp, hv69.setRow_same (shC a7 W'.length c7 last) (by simp [shL, shC]), listIn_var hv69 (by simp [shL]) (listIn_sh HSH8.out HL8.out HK9.out) hks, shR_keeps HSH9.out hks (fun j e => hn (by omega)), ?_⟩
          exact keeps_setRow ((Keeps.of_below (HBW.out.trans (HB8.out.mono hwl))).trans HK9.out) (.inl (by omega)) _
      case rest =>
        obtain ⟨rfl, hv, hl, hs, hk⟩ := hcut
        have k1 : hasRow wc ⟨w.heap.size + 1 + 1, 0, none⟩ 2 = true := hv.hasRow rfl
        have k2 : rowAt wc ⟨w.heap.size + 1 + 1, 0, none⟩ 2 = shC a7 W'.length c7 last := hv.rowAt rfl
        have HL := Lib.hid hl
        have HS := Lib.hid hs
        have HK := Lib.hid hk
        clear hv hl hs hk
        go_wp2
        refine ret_sh (w.heap.size + 1 + 1) a7 W'.length c7 last (.bool true) rfl rfl rfl k1 k2 rfl ?_
        rw [← HPOST.out]
        exact ⟨W', last, a7, c7, rfl, HO1.out, Nat.le_succ _, hc7, HS.out, HL.out, HK.out⟩
    · by_cases h2 : x.kind = 2
      · have m4 : wc.cell? ⟨w.heap.size + 1, 31, none⟩ = some (.int .i64 x.n) := HV5c.out.cellAt (by have := actC_31 x; rwa [actC, List.getElem?_toArray] at this)
        obtain ⟨b, W', hrp, hpu, ho1⟩ : ∃ b W', Calls Try.prog 29 #[.agg (shC a W.length cap last), .agg (cookieC x.c), .int .i64 x.n] wc (DocGives W' last (.bool b) wc) ∧ (∀ w', ShR w' bs ba bi W last B → Calls Try.prog 15 #[.pointer (some ⟨bs, 0, none⟩), .agg (cookieC x.c), .int .i64 x.n] w' fun e w'' => e = .returned (.bool b) ∧ ShR w'' bs ba bi W' last (B + 1) ∧ Keeps (ShO bs ba bi) w' w'') ∧ OkW W' last := by
          cases hf : findW W x.c with
          | none => exact ⟨false, W, refUse_no W a cap last hcap x.c x.n (by omega) wc HINc.out hf, fun w' h => (shUse_no W last B bs ba bi x.c x.n w' h hf).mono (fun e w'' hh => ⟨hh.1, shR_mono (h.below hh.2) (by omega), Keeps.of_below hh.2⟩), HO.out⟩
          | some k => exact ⟨true, _, refUse_yes W HO.out.apart a cap last x.c x.n x.hn (by omega) wc HINc.out k hf, fun w' h => (shUse_yes W HO.out.apart (by omega) last B bs ba bi x.c x.n x.hn w' h k hf).mono (fun e w'' hh => ⟨hh.1, shR_mono hh.2.1 (by omega), hh.2.2⟩), HO.out.repl (x := (useC k.1 x.n x.hn, k.2)) hf (by have := List.find?_some hf; exact this) rfl (HO.out.site k (List.mem_of_find?_eq_some hf))⟩
        have HRP := Lib.hid hrp
        have HPU := Lib.hid hpu
        have HO1 := Lib.hid ho1
        clear hrp hpu ho1
        go_upto_region 14 with (go_at_call 29; (with_reducible refine HRP.out.mono ?_); intro e w7 hg; obtain ⟨a7, c7, rfl, hc7, hl7, hb7⟩ := hg; have HL7 := Lib.hid hl7; have HB7 := Lib.hid hb7; clear hl7 hb7)
        have hz7 := HB7.out.size
        have hb8 : Below wc.heap.size wc (w7.alloc (Obj.cells (shC a7 W'.length c7 last) 50)) := HB7.out.alloc hz7 _
        have hv11 : Var (w7.alloc (Obj.cells (shC a7 W'.length c7 last) 50)) w7.heap.size (shL a7 W'.length c7 last) := Var.new _ _ _ rfl rfl
        have HL8 := Lib.hid (HL7.out.below ((Below.refl w7.heap.size w7).alloc (Nat.le_refl _) (Obj.cells (shC a7 W'.length c7 last) 50)))
        generalize w7.alloc (Obj.cells (shC a7 W'.length c7 last) 50) = w8 at *
        generalize hb11E : w7.heap.size = b11 at *
        have hv5 := HV5c.out.below hb8
        have hv6 := HV6c.out.below hb8
        obtain ⟨r1, r2⟩ := act_midD hv5
        have r3 : w8.cell? ⟨w.heap.size + 1, 31, none⟩ = some (.int .i64 x.n) := hv5.cellAt (by have := actC_31 x; rwa [actC, List.getElem?_toArray] at this)
        have r4 : hasRow w8 ⟨b11, 0, none⟩ 2 = true := hv11.hasRow rfl
        have r5 : rowAt w8 ⟨b11, 0, none⟩ 2 = shC a7 W'.length c7 last := hv11.rowAt rfl
        have r6 : hasVar w8 (w.heap.size + 1 + 1) 2 = true := hv6.has rfl
        have p5 : isOld (w.heap.size + 1) w8 = true := isOld_iff.2 hv5.lt
        have p6 : isOld (w.heap.size + 1 + 1) w8 = true := isOld_iff.2 hv6.lt
        have p11 : isOld b11 w8 = true := isOld_iff.2 hv11.lt
        have HSH8 := Lib.hid (HSHc.out.below hb8)
        have HV6e := Lib.hid hv6
        have HV11 := Lib.hid hv11
        have HB8 := Lib.hid hb8
        have hls := HSH.out.1.lt
        have hla := HSH.out.2.1.lt
        have hlbi : bi < w.heap.size := by obtain ⟨n, _, h4⟩ := HSH.out.2.2.1; exact h4.lt
        have hwl := HBW.out.size
        have hz8 := hb8.size
        have hn : ∀ {q : Nat}, w.heap.size ≤ q → ¬ ShO bs ba bi q := by rintro q hq (e | e | e) <;> omega
        clear hv5 hv6 hb8 hv11 m4 m0 m1 m2 m3 k40 k41 o4 o5 o6 h6 h0 h1 h2
        go_cut [7] (fun s7 wx => s7 = .bool true ∧ Var wx (w.heap.size + 1 + 1) (shL a7 W'.length c7 last) ∧ ListIn dkCod wx a7 W' 0 ∧ ShR wx bs ba bi W' last (B + 1) ∧ Keeps (ShO bs ba bi) w wx)
        case first =>
          go_region_law (first
            | (go_simp; (with_reducible refine (HPU.out _ (ShR.below HSH8.out (by repeat (first | exact Below.refl _ _ | assumption | refine below_grown ?_ (by first | omega | (simp [go_sem]; done) | (simp [go_sem] <;> omega)) _ | refine Below.alloc ?_ (by first | omega | (simp [go_sem]; done) | (simp [go_sem] <;> omega)) _ | refine below_bytesW ?_ (by first | omega | (simp [go_sem]; done) | (simp [go_sem] <;> omega)) _ | refine Below.drew ?_ | refine below_drewN ?_ _)))).mono ?_); rintro e w9 ⟨rfl, hsh9, hk9⟩; have hk9 : Keeps (ShO bs ba bi) w8 w9 := Keeps.trans (Keeps.of_below (by repeat (first | exact Below.refl _ _ | assumption | refine below_grown ?_ (by first | omega | (simp [go_sem]; done) | (simp [go_sem] <;> omega)) _ | refine Below.alloc ?_ (by first | omega | (simp [go_sem]; done) | (simp [go_sem] <;> omega)) _ | refine below_bytesW ?_ (by first | omega | (simp [go_sem]; done) | (simp [go_sem] <;> omega)) _ | refine Below.drew ?_ | refine below_drewN ?_ _))) hk9; have hv69 := HV6e.out.keeps hk9 (hn (by omega)); have s4 : hasRow w9 ⟨b11, 0, none⟩ 2 = true := (HV11.out.keeps hk9 (hn (by omega))).hasRow rfl; have s5 : rowAt w9 ⟨b11, 0, none⟩ 2 = shC a7 W'.length c7 last := (HV11.out.keeps hk9 (hn (by omega))).rowAt rfl; have s6 : hasVar w9 (w.heap.size + 1 + 1) 2 = true := hv69.has rfl; have HSH9 := Lib.hid hsh9; have HK9 := Lib.hid hk9; clear hsh9 hk9 hv69; dsimp only))
          all_goals
            go_wp2_with fail
            go_meet
            have hks : Keeps (fun j => j = w.heap.size + 1 + 1) w9 (w9.setRow (w.heap.size + 1 + 1) (shC a7 W'.length c7 last)) := keeps_setRow (Q := fun j => j = w.heap.size + 1 + 1) (Keeps.refl _ _) (.inr rfl) _
            have hv69 := HV6e.out.keeps HK9.out (hn (by omega))
            refine ⟨by simp, hv69.setRow_same (shC a7 W'.length c7 last) (by simp [shL, shC]), listIn_var hv69 (by simp [shL]) (listIn_sh HSH8.out HL8.out HK9.out) hks, shR_keeps HSH9.out hks (fun j e => hn (by omega)), ?_⟩
            exact keeps_setRow ((Keeps.of_below (HBW.out.trans (HB8.out.mono hwl))).trans HK9.out) (.inl (by omega)) _
        case rest =>
          obtain ⟨rfl, hv, hl, hs, hk⟩ := hcut
          have k1 : hasRow wc ⟨w.heap.size + 1 + 1, 0, none⟩ 2 = true := hv.hasRow rfl
          have k2 : rowAt wc ⟨w.heap.size + 1 + 1, 0, none⟩ 2 = shC a7 W'.length c7 last := hv.rowAt rfl
          have HL := Lib.hid hl
          have HS := Lib.hid hs
          have HK := Lib.hid hk
          clear hv hl hs hk
          go_wp2
          refine ret_sh (w.heap.size + 1 + 1) a7 W'.length c7 last (.bool true) rfl rfl rfl k1 k2 rfl ?_
          rw [← HPOST.out]
          exact ⟨W', last, a7, c7, rfl, HO1.out, Nat.le_succ _, hc7, HS.out, HL.out, HK.out⟩
      · by_cases h3 : x.kind = 3
        · have m4 : wc.cell? ⟨w.heap.size + 1, 31, none⟩ = some (.int .i64 x.n) := HV5c.out.cellAt (by have := actC_31 x; rwa [actC, List.getElem?_toArray] at this)
          obtain ⟨b, W', hrp, hpu, ho1⟩ : ∃ (b : Nat) (W' : List GKept), Calls Try.prog 30 #[.agg (shC a W.length cap last), .int .i64 x.n] wc (DocGives W' last (.int .i64 (b : Int)) wc) ∧ (∀ w', ShR w' bs ba bi W last B → Calls Try.prog 31 #[.pointer (some ⟨bs, 0, none⟩), .int .i64 x.n] w' fun e w'' => e = .returned (.int .i64 (b : Int)) ∧ ShR w'' bs ba bi W' last (B + 1) ∧ Keeps (ShO bs ba bi) w' w'') ∧ OkW W' last :=
            ⟨_, _, refExpire_any W a cap last x.n (by omega) wc HINc.out, fun w' h => (shExpire_any W last HO.out (by omega) B bs ba bi (by omega) x.n w' h).mono (fun e w'' hh => ⟨hh.1, shR_mono hh.2.1 (by omega), hh.2.2⟩), HO.out.filter _⟩
          have HRP := Lib.hid hrp
          have HPU := Lib.hid hpu
          have HO1 := Lib.hid ho1
          clear hrp hpu ho1
          go_upto_region 17 with (go_at_call 30; (with_reducible refine HRP.out.mono ?_); intro e w7 hg; obtain ⟨a7, c7, rfl, hc7, hl7, hb7⟩ := hg; have HL7 := Lib.hid hl7; have HB7 := Lib.hid hb7; clear hl7 hb7)
          have hz7 := HB7.out.size
          have hb8 : Below wc.heap.size wc (w7.alloc (Obj.cells (shC a7 W'.length c7 last) 50)) := HB7.out.alloc hz7 _
          have hv11 : Var (w7.alloc (Obj.cells (shC a7 W'.length c7 last) 50)) w7.heap.size (shL a7 W'.length c7 last) := Var.new _ _ _ rfl rfl
          have HL8 := Lib.hid (HL7.out.below ((Below.refl w7.heap.size w7).alloc (Nat.le_refl _) (Obj.cells (shC a7 W'.length c7 last) 50)))
          generalize w7.alloc (Obj.cells (shC a7 W'.length c7 last) 50) = w8 at *
          generalize hb11E : w7.heap.size = b11 at *
          have hv5 := HV5c.out.below hb8
          have hv6 := HV6c.out.below hb8
          obtain ⟨r1, r2⟩ := act_midD hv5
          have r3 : w8.cell? ⟨w.heap.size + 1, 31, none⟩ = some (.int .i64 x.n) := hv5.cellAt (by have := actC_31 x; rwa [actC, List.getElem?_toArray] at this)
          have r4 : hasRow w8 ⟨b11, 0, none⟩ 2 = true := hv11.hasRow rfl
          have r5 : rowAt w8 ⟨b11, 0, none⟩ 2 = shC a7 W'.length c7 last := hv11.rowAt rfl
          have r6 : hasVar w8 (w.heap.size + 1 + 1) 2 = true := hv6.has rfl
          have p5 : isOld (w.heap.size + 1) w8 = true := isOld_iff.2 hv5.lt
          have p6 : isOld (w.heap.size + 1 + 1) w8 = true := isOld_iff.2 hv6.lt
          have p11 : isOld b11 w8 = true := isOld_iff.2 hv11.lt
          have HSH8 := Lib.hid (HSHc.out.below hb8)
          have HV6e := Lib.hid hv6
          have HV11 := Lib.hid hv11
          have HB8 := Lib.hid hb8
          have hls := HSH.out.1.lt
          have hla := HSH.out.2.1.lt
          have hlbi : bi < w.heap.size := by obtain ⟨n, _, h4⟩ := HSH.out.2.2.1; exact h4.lt
          have hwl := HBW.out.size
          have hz8 := hb8.size
          have hn : ∀ {q : Nat}, w.heap.size ≤ q → ¬ ShO bs ba bi q := by rintro q hq (e | e | e) <;> omega
          clear hv5 hv6 hb8 hv11 m4 m0 m1 m2 m3 k40 k41 o4 o5 o6 h6 h0 h1 h2 h3
          go_cut [7] (fun s7 wx => s7 = .bool true ∧ Var wx (w.heap.size + 1 + 1) (shL a7 W'.length c7 last) ∧ ListIn dkCod wx a7 W' 0 ∧ ShR wx bs ba bi W' last (B + 1) ∧ Keeps (ShO bs ba bi) w wx)
          case first =>
            go_region_law (first
              | (go_simp; (with_reducible refine (HPU.out _ (ShR.below HSH8.out (by repeat (first | exact Below.refl _ _ | assumption | refine below_grown ?_ (by first | omega | (simp [go_sem]; done) | (simp [go_sem] <;> omega)) _ | refine Below.alloc ?_ (by first | omega | (simp [go_sem]; done) | (simp [go_sem] <;> omega)) _ | refine below_bytesW ?_ (by first | omega | (simp [go_sem]; done) | (simp [go_sem] <;> omega)) _ | refine Below.drew ?_ | refine below_drewN ?_ _)))).mono ?_); rintro e w9 ⟨rfl, hsh9, hk9⟩; have hk9 : Keeps (ShO bs ba bi) w8 w9 := Keeps.trans (Keeps.of_below (by repeat (first | exact Below.refl _ _ | assumption | refine below_grown ?_ (by first | omega | (simp [go_sem]; done) | (simp [go_sem] <;> omega)) _ | refine Below.alloc ?_ (by first | omega | (simp [go_sem]; done) | (simp [go_sem] <;> omega)) _ | refine below_bytesW ?_ (by first | omega | (simp [go_sem]; done) | (simp [go_sem] <;> omega)) _ | refine Below.drew ?_ | refine below_drewN ?_ _))) hk9; have hv69 := HV6e.out.keeps hk9 (hn (by omega)); have s4 : hasRow w9 ⟨b11, 0, none⟩ 2 = true := (HV11.out.keeps hk9 (hn (by omega))).hasRow rfl; have s5 : rowAt w9 ⟨b11, 0, none⟩ 2 = shC a7 W'.length c7 last := (HV11.out.keeps hk9 (hn (by omega))).rowAt rfl; have s6 : hasVar w9 (w.heap.size + 1 + 1) 2 = true := hv69.has rfl; have HSH9 := Lib.hid hsh9; have HK9 := Lib.hid hk9; clear hsh9 hk9 hv69; dsimp only))
            all_goals
              go_wp2_with fail
              go_meet
              have hks : Keeps (fun j => j = w.heap.size + 1 + 1) w9 (w9.setRow (w.heap.size + 1 + 1) (shC a7 W'.length c7 last)) := keeps_setRow (Q := fun j => j = w.heap.size + 1 + 1) (Keeps.refl _ _) (.inr rfl) _
              have hv69 := HV6e.out.keeps HK9.out (hn (by omega))
              refine ⟨by simp, hv69.setRow_same (shC a7 W'.length c7 last) (by simp [shL, shC]), listIn_var hv69 (by simp [shL]) (listIn_sh HSH8.out HL8.out HK9.out) hks, shR_keeps HSH9.out hks (fun j e => hn (by omega)), ?_⟩
              exact keeps_setRow ((Keeps.of_below (HBW.out.trans (HB8.out.mono hwl))).trans HK9.out) (.inl (by omega)) _
          case rest =>
            obtain ⟨rfl, hv, hl, hs, hk⟩ := hcut
            have k1 : hasRow wc ⟨w.heap.size + 1 + 1, 0, none⟩ 2 = true := hv.hasRow rfl
            have k2 : rowAt wc ⟨w.heap.size + 1 + 1, 0, none⟩ 2 = shC a7 W'.length c7 last := hv.rowAt rfl
            have HL := Lib.hid hl
            have HS := Lib.hid hs
            have HK := Lib.hid hk
            clear hv hl hs hk
            go_wp2
            refine ret_sh (w.heap.size + 1 + 1) a7 W'.length c7 last (.bool true) rfl rfl rfl k1 k2 rfl ?_
            rw [← HPOST.out]
            exact ⟨W', last, a7, c7, rfl, HO1.out, Nat.le_succ _, hc7, HS.out, HL.out, HK.out⟩
        · have hv6 := HV6c.out
          have HSHd := Lib.hid (shR_mono HSHc.out (Nat.le_succ B))
          have hls := HSH.out.1.lt
          have hla := HSH.out.2.1.lt
          have hlbi : bi < w.heap.size := by obtain ⟨n, _, h4⟩ := HSH.out.2.2.1; exact h4.lt
          have hn : ∀ {q : Nat}, w.heap.size ≤ q → ¬ ShO bs ba bi q := by rintro q hq (e | e | e) <;> omega
          clear hv6
          go_upto_region 18 with fail
          go_cut [7] (fun s7 wx => s7 = .bool true ∧ Var wx (w.heap.size + 1 + 1) (shL a W.length cap last) ∧ ListIn dkCod wx a W 0 ∧ ShR wx bs ba bi W last (B + 1) ∧ Keeps (ShO bs ba bi) w wx)
          case first =>
            go_wp2_with fail
            go_meet
            have hks : Keeps (fun j => j = w.heap.size + 1 + 1) wc (wc.setRow (w.heap.size + 1 + 1) (shC a W.length cap last)) := keeps_setRow (Q := fun j => j = w.heap.size + 1 + 1) (Keeps.refl _ _) (.inr rfl) _
            refine ⟨rfl, HV6c.out.setRow_same (shC a W.length cap last) (by simp [shL, shC]), listIn_var HV6c.out (by simp [shL]) HINc.out hks, shR_keeps HSHd.out hks (fun j e => hn (by omega)), ?_⟩
            exact keeps_setRow (Keeps.of_below HBW.out) (.inl (by omega)) _
          case rest =>
            obtain ⟨rfl, hv, hl, hs, hk⟩ := hcut
            have k1 : hasRow wc ⟨w.heap.size + 1 + 1, 0, none⟩ 2 = true := hv.hasRow rfl
            have k2 : rowAt wc ⟨w.heap.size + 1 + 1, 0, none⟩ 2 = shC a W.length cap last := hv.rowAt rfl
            have HL := Lib.hid hl
            have HS := Lib.hid hs
            have HK := Lib.hid hk
            clear hv hl hs hk
            go_wp2
            refine ret_sh (w.heap.size + 1 + 1) a W.length cap last (.bool true) rfl rfl rfl k1 k2 rfl ?_
            rw [← HPOST.out]
            exact ⟨W, last, a, cap, rfl, HO.out, Nat.le_succ _, hcap, HS.out, HL.out, HK.out⟩
end Go.Proofs.Ytaondmaebgicgaa
