/- The walk of the statement ShelfOnce. -/
import Derived.Test.YtaondmaebgicgaaShAct
import Derived.IntWalk
namespace Go.Proofs.Ytaondmaebgicgaa
open Go Go.RowKit
set_option maxRecDepth 20000
set_option linter.unusedSimpArgs false
set_option linter.unusedVariables false

theorem ShR.mono {w : World} {bs ba bi : Nat} {W : List GKept} {last B B' : Nat} (h : ShR w bs ba bi W last B) (hB : B ≤ B') : ShR w bs ba bi W last B' := by
  obtain ⟨h1, h2, ⟨n, h3, h4⟩, h5⟩ := h
  exact ⟨h1, h2, ⟨n, Nat.le_trans h3 hB, h4⟩, h5⟩
theorem all_apart {W : List GKept} {last : Nat} (hO : OkW W last) (i j : Nat) (hi : i < (W.map (fun k : GKept => k.1)).length) (hj : j < (W.map (fun k : GKept => k.1)).length) (h : j < i) : samePl ((W.map (fun k : GKept => k.1))[i]'hi) ((W.map (fun k : GKept => k.1))[j]'hj) = false ∧ ((W.map (fun k : GKept => k.1))[j]'hj).seq < ((W.map (fun k : GKept => k.1))[i]'hi).seq := by
  rw [List.getElem_map, List.getElem_map]
  rw [List.length_map] at hi hj
  have h1 := List.pairwise_iff_getElem.1 hO.apart j i hj hi h
  have h2 := List.pairwise_iff_getElem.1 hO.rises j i hj hi h
  exact ⟨by rw [samePl_symm]; exact h1, h2⟩
theorem act_mid {w : World} {b : Nat} {x : GAct} (h : Var w b (actL x)) : hasRow w ⟨b, 1, none⟩ 29 = true ∧ rowAt w ⟨b, 1, none⟩ 29 = cookieC x.c := by
  have key : ∀ j, j < 29 → w.cell? ⟨b, 1 + j, none⟩ = (cookieL x.c)[j]? := fun j hj => by
    have hl : j < (cookieL x.c).length := by rw [cookieL_length]; exact hj
    rw [List.getElem?_eq_getElem hl]
    refine h.cellAt ?_
    unfold actL
    rw [List.singleton_append, Nat.add_comm, List.getElem?_cons_succ, List.getElem?_append_left hl, List.getElem?_eq_getElem hl]
  constructor
  · rw [hasRow_iff]
    intro j hj
    rw [add_mk, key j hj, List.getElem?_eq_getElem (by rw [cookieL_length]; exact hj)]; rfl
  · apply Array.ext_getElem?
    intro j
    simp only [rowAt, List.getElem?_toArray, List.getElem?_map, add_mk]
    by_cases hj : j < 29
    · have e : (List.range 29)[j]? = some j := by simp [hj]
      rw [e, Option.map_some, key j hj, cookieC, List.getElem?_toArray, List.getElem?_eq_getElem (by rw [cookieL_length]; exact hj)]; rfl
    · have e : (List.range 29)[j]? = none := by simp; omega
      rw [e, Array.getElem?_eq_none (by rw [cookieC_size]; omega)]; rfl
theorem get_found {W : List GKept} {last B bs ba bi : Nat} {c c' : GCookie} {s : List UInt8} {w : World} (hf : findW W c = some (c', s)) (h : ShR w bs ba bi W last B) :
    Calls Try.prog 11 #[.pointer (some ⟨bs, 0, none⟩), .agg (cookieC c)] w fun e w' => e = .returned (.tuple #[.agg (cookieC c'), .bool true]) ∧ Below w.heap.size w w' := by
  have := shGet_any W last B bs ba bi c w h
  rw [hf] at this
  exact this
theorem shelfOnce_far (xs : List GAct) (a : Option Addr) (ca : Nat) (w : World) (h40 : ¬ xs.length ≤ 40) :
    Calls Try.prog 3 #[.slice a xs.length ca] w fun e w' => e = .returned (.bool true) ∧ Below w.heap.size w w' := by
  have h1 : (40 : Int) < (xs.length : Int) := by omega
  go_enter Try.func3, Try.ntmps3
  go_wp2_with (go_at_call 7; refine (shAlive_any _).mono ?_; rintro e w1 ⟨rfl, hb1⟩; obtain ⟨p1, rfl⟩ := grown_of hb1; clear hb1)
  go_ret
  exact ⟨rfl, (by repeat (first | exact Below.refl _ _ | assumption | refine below_grown ?_ (by first | omega | (simp [go_sem]; done) | (simp [go_sem] <;> omega)) _ | refine Below.alloc ?_ (by first | omega | (simp [go_sem]; done) | (simp [go_sem] <;> omega)) _ | refine below_bytesW ?_ (by first | omega | (simp [go_sem]; done) | (simp [go_sem] <;> omega)) _ | refine Below.drew ?_ | refine below_drewN ?_ _))⟩
set_option maxRecDepth 100000 in
set_option maxHeartbeats 8000000 in
theorem shelfOnce_near (xs : List GAct) (a : Option Addr) (ca : Nat) (w : World) (hin : ListIn actCod w a xs 0) (h40 : xs.length ≤ 40) :
    Calls Try.prog 3 #[.slice a xs.length ca] w fun e w' => e = .returned (.bool true) ∧ Below w.heap.size w w' := by
  have HIN := Lib.hid hin
  have h1 : (xs.length : Int) ≤ 40 := by omega
  clear hin
  go_enter Try.func3, Try.ntmps3
  go_upto_region 6 with (first
    | (go_at_call 7; refine (shAlive_any _).mono ?_; rintro e w1 ⟨rfl, hb1⟩; obtain ⟨p1, rfl⟩ := grown_of hb1; clear hb1)
    | (go_at_call 8; refine (shNew_any _).mono ?_; rintro e w1 ⟨bs, ba, bi, rfl, hsh, hb, hl1, hl2, hl3⟩; have HSH := Lib.hid hsh; have HB := Lib.hid (bel_up (w := w) (by repeat (first | exact Below.refl _ _ | assumption | refine below_grown ?_ (by first | omega | (simp [go_sem]; done) | (simp [go_sem] <;> omega)) _ | refine Below.alloc ?_ (by first | omega | (simp [go_sem]; done) | (simp [go_sem] <;> omega)) _ | refine below_bytesW ?_ (by first | omega | (simp [go_sem]; done) | (simp [go_sem] <;> omega)) _ | refine Below.drew ?_ | refine below_drewN ?_ _)) hb); simp only [size_grown] at hl1 hl2 hl3; clear hsh hb))
  have hl1' : w.heap.size ≤ bs := by omega
  have hl2' : w.heap.size ≤ ba := by omega
  have hl3' : w.heap.size ≤ bi := by omega
  clear hl1 hl2 hl3
  go_wp2_with fail
  go_loopw [4, 22] (fun s4 s22 wr => ∃ (k : Nat) (W : List GKept) (last : Nat), s4 = .int .i64 (last : Int) ∧ s22 = .int .i64 (k : Int) ∧ k ≤ xs.length ∧ last ≤ k ∧ OkW W last ∧ ShR wr bs ba bi W last k ∧ Below w.heap.size w wr) (fun _ i _ => xs.length - (intOf i).toNat)
  case atStart => exact ⟨0, [], 0, rfl, rfl, Nat.zero_le _, Nat.le_refl _, OkW.nil, HSH.out, HB.out⟩
  case round =>
    obtain ⟨k, W, last, rfl, rfl, hk, hlk, hO, hsh, hbw⟩ := hrel
    have HO := Lib.hid hO
    have HSHr := Lib.hid hsh
    have HBW := Lib.hid hbw
    have hsz := hbw.size
    clear hO hsh hbw
    by_cases hlt : k < xs.length
    · obtain ⟨g, o, rfl, hlo, hhi, hat⟩ := HIN.out.resolve_left (fun h => by subst h; exact absurd hlt (Nat.not_lt_zero _))
      obtain ⟨r1, q1⟩ := actRow (hat.below HBW.out) k hlt
      have hio : isOld g wr = true := isOld_iff.2 (by omega)
      have hki : (k : Int) < (xs.length : Int) := by omega
      generalize hxE : xs[k]'hlt = x at *
      have hxs := x.hsite
      clear hat hxE
      generalize hkb : (x.kind == 1) = kb at *
      have HKB := Lib.hid hkb
      clear hkb
      go_upto_region 10 with fail
      have hv6 : Var (wr.alloc (Obj.cells (actC x) 33)) wr.heap.size (actL x) := Var.new _ _ _ rfl rfl
      have hsh6 := HSHr.out.below ((Below.refl wr.heap.size wr).alloc (Nat.le_refl _) (Obj.cells (actC x) 33))
      have hb6 : Below w.heap.size w (wr.alloc (Obj.cells (actC x) 33)) := HBW.out.alloc hsz _
      have hz6 : (wr.alloc (Obj.cells (actC x) 33)).heap.size = wr.heap.size + 1 := by simp
      have hn6 : ¬ ShO bs ba bi wr.heap.size := by
        have e1 := HSHr.out.1.lt
        have e2 := HSHr.out.2.1.lt
        have e3 : bi < wr.heap.size := by obtain ⟨n, _, h4⟩ := HSHr.out.2.2.1; exact h4.lt
        rintro (e | e | e) <;> omega
      have m1 : hasRow (wr.alloc (Obj.cells (actC x) 33)) ⟨wr.heap.size, 1, none⟩ 29 = true := by simp [go_sem]
      have m2 : rowAt (wr.alloc (Obj.cells (actC x) 33)) ⟨wr.heap.size, 1, none⟩ 29 = cookieC x.c := by simp [go_sem]
      have m3 : (wr.alloc (Obj.cells (actC x) 33)).cell? ⟨wr.heap.size, 30, none⟩ = some (.string ⟨x.site.toArray⟩) := by simp [go_sem]
      have m4 : (wr.alloc (Obj.cells (actC x) 33)).cell? ⟨wr.heap.size, 0, none⟩ = some (.int .i64 x.kind) := by simp [go_sem]
      have HV6 := Lib.hid hv6
      have HSH6 := Lib.hid hsh6
      have HB6 := Lib.hid hb6
      have HN6 := Lib.hid hn6
      clear hv6 hsh6 hb6 hn6 r1 q1 hio
      generalize (wr.alloc (Obj.cells (actC x) 33)) = w6 at *
      go_upto_if 28 with fail
      go_cut [4] (fun s4 wx => ∃ (W' : List GKept) (last' : Nat), s4 = .int .i64 (last' : Int) ∧ last' ≤ last + 1 ∧ OkW W' last' ∧ ShR wx bs ba bi W' last' (k + 1) ∧ Below w.heap.size w wx)
      case first =>
        --P
        cases kb with
        | true =>
          have hkb : (x.kind == 1) = true := HKB.out
          have HD := Lib.hid (shDrop_any W last HO.out (by omega) k bs ba bi (by omega) x.c w6 HSH6.out)
          go_wp2_with (go_at_call 9; (with_reducible refine HD.out.mono ?_); rintro e w7 ⟨rfl, hsh, hk7⟩; have HSH7 := Lib.hid hsh; have HK7 := Lib.hid hk7; clear hsh hk7)
          go_meet
          exact ⟨dropW W x.c, last, rfl, by omega, HO.out.drop x.c, HSH7.out.mono (by omega), below_of_keeps HB6.out HB6.out.size HK7.out hl1' hl2' hl3'⟩
        | false =>
          have hkb : (x.kind == 1) = false := HKB.out
          obtain ⟨b, c', W', last', hp⟩ := putW_ex W last x.c x.site (by omega)
          obtain ⟨o1, o2, o3, o4, o5⟩ := hp.ok HO.out hxs
          have HPU := Lib.hid (shPut_ok hp HO.out (by omega) k bs ba bi (by omega) hxs w6 HSH6.out)
          have HO1 := Lib.hid o1
          clear hp o1
          cases b with
          | true =>
            have hl := o5 rfl
            clear o4 o5
            go_wp2_with (go_at_call 10; (with_reducible refine HPU.out.mono ?_); rintro e w7 ⟨rfl, hsh, hk7⟩; have HSH7 := Lib.hid hsh; have HK7 := Lib.hid hk7; clear hsh hk7)
            go_meet
            subst hl
            exact ⟨W', _, rfl, by omega, HO1.out, HSH7.out, below_of_keeps HB6.out HB6.out.size HK7.out hl1' hl2' hl3'⟩
          | false =>
            obtain ⟨hl, hf, hs⟩ := o4 rfl
            subst hl
            have hs' : c'.seq = (last : Int) + 1 := by rw [hs]; omega
            have hwk : IntKind.i64.wrap ((last : Int) + 1) = (last : Int) + 1 := IntWalk.i64_in _ (by omega)
            have HF := Lib.hid hf
            clear o4 o5 hf hs
            go_wp2_with (first
              | (go_at_call 10; (with_reducible refine HPU.out.mono ?_); rintro e w7 ⟨rfl, hsh, hk7⟩; have hv7 := HV6.out.keeps hk7 HN6.out; obtain ⟨p1, p2⟩ := act_mid hv7; have HG := Lib.hid (get_found HF.out hsh); have HSH7 := Lib.hid hsh; have HK7 := Lib.hid hk7; clear hsh hk7 hv7)
              | (go_at_call 11; (with_reducible refine HG.out.mono ?_); rintro e w8 ⟨rfl, hb8⟩; have HB8 := Lib.hid hb8; clear hb8))
            go_meet
            have hbk := below_of_keeps HB6.out HB6.out.size HK7.out hl1' hl2' hl3'
            have hb9 : Below w7.heap.size w7 (w8.alloc (Obj.cells (cookieC c') 31)) := HB8.out.alloc HB8.out.size _
            refine ⟨W', last + 1, ?_, ?_, HO1.out, ?_, ?_⟩
            · simp
            · omega
            · exact HSH7.out.below hb9
            · exact hbk.trans (hb9.mono hbk.size)
        --Q
      case rest =>
      obtain ⟨W', last', rfl, hll, hO', hsh', hbw'⟩ := hcut
      have hW' := hO'.length
      have HALL := Lib.hid (shAll_any W' last' hO' (by omega) (by omega) (k + 1) bs ba bi wc hsh')
      have HSHc := Lib.hid hsh'
      have HBWc := Lib.hid hbw'
      have HOc := Lib.hid hO'
      have HAP : Hid (∀ (i j : Nat) (hi : i < (W'.map (fun k : GKept => k.1)).length) (hj : j < (W'.map (fun k : GKept => k.1)).length), j < i → samePl ((W'.map (fun k : GKept => k.1))[i]'hi) ((W'.map (fun k : GKept => k.1))[j]'hj) = false ∧ ((W'.map (fun k : GKept => k.1))[j]'hj).seq < ((W'.map (fun k : GKept => k.1))[i]'hi).seq) := fun i j hi hj h => all_apart hO' i j hi hj h
      have hlen : (W'.map (fun k : GKept => k.1)).length ≤ 40 := by rw [List.length_map]; omega
      unfold AllPost at HALL
      clear hsh' hbw' hO' m1 m2 m3 m4 HV6 HSH6 HB6 HN6 HSHr HO hxs hW'
      generalize W'.map (fun k : GKept => k.1) = L at *
      go_upto_region 18 with (go_at_call 12; (with_reducible refine HALL.out.mono ?_); intro e w9 hg; obtain ⟨a9, c9, rfl, hc9, hb9, hl9⟩ := hg; have HB9 := Lib.hid hb9; have HL9 := Lib.hid hl9; clear hb9 hl9)
      clear HALL
      go_wp2_with fail
      go_loopw [61] (fun s61 wt => ∃ i : Nat, s61 = .int .i64 (i : Int) ∧ i ≤ L.length ∧ Below w9.heap.size w9 wt) (fun i _ => L.length - (intOf i).toNat)
      case atStart => exact ⟨0, rfl, Nat.zero_le _, Below.refl _ _⟩
      case round =>
        obtain ⟨i, rfl, hi, hbt⟩ := hrel
        have hzt := hbt.size
        by_cases hlt2 : i < L.length
        · obtain ⟨g9, o9, rfl, hlo9, hhi9, hat9⟩ := HL9.out.resolve_left (fun h => by subst h; exact absurd hlt2 (Nat.not_lt_zero _))
          obtain ⟨r1, q1⟩ := ckRow (hat9.below hbt) i hlt2
          have hio : isOld g9 wr = true := isOld_iff.2 (by omega)
          have hii : (i : Int) < (L.length : Int) := by omega
          have hic : (i : Int) ≤ (c9 : Int) := by omega
          have HAT9 := Lib.hid hat9
          have HBT := Lib.hid hbt
          generalize hcE : L[i]'hlt2 = ci at *
          have HCE := Lib.hid hcE
          clear hat9 hbt hcE
          go_upto_region 21 with fail
          have hv11 : Var (wr.alloc (Obj.cells (cookieC ci) 31)) wr.heap.size (cookieL ci) := Var.new _ _ _ rfl rfl
          have hb11 : Below w9.heap.size w9 (wr.alloc (Obj.cells (cookieC ci) 31)) := HBT.out.alloc hzt _
          have HV11 := Lib.hid hv11
          have HB11 := Lib.hid hb11
          clear hv11 hb11 r1 q1 hio
          generalize hb11E : wr.heap.size = b11 at *
          generalize (wr.alloc (Obj.cells (cookieC ci) 31)) = w11 at *
          go_wp2_with fail
          go_loopw [70] (fun s70 wu => ∃ j : Nat, s70 = .int .i64 (j : Int) ∧ j ≤ i ∧ Below w9.heap.size w9 wu ∧ Var wu b11 (cookieL ci)) (fun q _ => i - (intOf q).toNat)
          case atStart => exact ⟨0, rfl, Nat.zero_le _, HB11.out, HV11.out⟩
          case round =>
            obtain ⟨j, rfl, hj, hbu, hvu⟩ := hrel
            have hzu := hbu.size
            by_cases hlt3 : j < i
            · obtain ⟨r2, q2⟩ := ckRow (HAT9.out.below hbu) j (by omega)
              have hio2 : isOld g9 wr = true := isOld_iff.2 (by omega)
              have hjj : (j : Int) < (i : Int) := by omega
              obtain ⟨ha1, ha2⟩ := HAP.out i j hlt2 (by omega) hlt3
              rw [HCE.out] at ha1 ha2
              have k1 : hasRow wr ⟨b11, 0, none⟩ 29 = true := hvu.hasRow (cookieL_length _)
              have k2 : rowAt wr ⟨b11, 0, none⟩ 29 = cookieC ci := hvu.rowAt (cookieL_length _)
              have k3 : wr.cell? ⟨b11, 28, none⟩ = some (.int .i64 ci.seq) := hvu.cellAt (by rw [cookieL_at _ _ (by decide)]; rfl)
              have k4 : isOld b11 wr = true := isOld_iff.2 hvu.lt
              have HBU := Lib.hid hbu
              have HVU := Lib.hid hvu
              generalize L[j]'(by omega) = cj at *
              have HKEY : Hid (∀ w, Calls Try.prog 13 #[.agg (cookieC ci), .agg (cookieC cj)] w fun e w' => e = .returned (.bool false) ∧ Below w.heap.size w w') := fun w => by have := refKey_any ci cj w; rw [ha1] at this; exact this
              clear hbu hvu ha1
              go_wp2_with (go_at_call 13; (with_reducible refine (HKEY.out _).mono ?_); rintro e w1 ⟨rfl, hb1⟩; obtain ⟨p1, rfl⟩ := grown_of hb1; clear hb1)
              go_roundw
              case rel => exact ⟨j + 1, by simp, by omega, HBU.out.trans (Below.mono (by repeat (first | exact Below.refl _ _ | assumption | refine below_grown ?_ (by first | omega | (simp [go_sem]; done) | (simp [go_sem] <;> omega)) _ | refine Below.alloc ?_ (by first | omega | (simp [go_sem]; done) | (simp [go_sem] <;> omega)) _ | refine below_bytesW ?_ (by first | omega | (simp [go_sem]; done) | (simp [go_sem] <;> omega)) _ | refine Below.drew ?_ | refine below_drewN ?_ _)) hzu), HVU.out.below (by repeat (first | exact Below.refl _ _ | assumption | refine below_grown ?_ (by first | omega | (simp [go_sem]; done) | (simp [go_sem] <;> omega)) _ | refine Below.alloc ?_ (by first | omega | (simp [go_sem]; done) | (simp [go_sem] <;> omega)) _ | refine below_bytesW ?_ (by first | omega | (simp [go_sem]; done) | (simp [go_sem] <;> omega)) _ | refine Below.drew ?_ | refine below_drewN ?_ _))⟩
              case measure => first | (simp [intOf]; done) | (simp [intOf]; omega)
            · obtain rfl : j = i := by omega
              go_wp2
              go_roundw
              case rel => exact ⟨j + 1, by simp, by omega, hbu⟩
              case measure => first | (simp [intOf]; done) | (simp [intOf]; omega)
        · obtain rfl : i = L.length := by omega
          have hbz := HB9.out.trans (hbt.mono HB9.out.size)
          go_wp2
          go_roundw
          case rel => exact ⟨k + 1, W', last', rfl, by simp, by omega, by omega, HOc.out, HSHc.out.below hbz, HBWc.out.trans (hbz.mono HBWc.out.size)⟩
          case measure => first | (simp [intOf]; done) | (simp [intOf]; omega)
    · obtain rfl : k = xs.length := by omega
      have HLN := Lib.hid (shLen_any W last _ bs ba bi wr HSHr.out)
      have hWl : (W.length : Int) ≤ (last : Int) := by have := HO.out.length; omega
      go_wp2_with (go_at_call 14; (with_reducible refine HLN.out.mono ?_); rintro e w7 ⟨rfl, hb7⟩; have HB7 := Lib.hid hb7; clear hb7)
      go_ret
      exact ⟨by first | rfl | exact ret_bool (by simp; omega) | (simp; omega), HBW.out.trans (HB7.out.mono hsz)⟩
theorem shelfOnce_any (xs : List GAct) (a : Option Addr) (ca : Nat) (w : World) (hin : ListIn actCod w a xs 0) :
    Calls Try.prog 3 #[.slice a xs.length ca] w fun e w' => e = .returned (.bool true) ∧ Below w.heap.size w w' := by
  by_cases h : xs.length ≤ 40
  · exact shelfOnce_near xs a ca w hin h
  · exact shelfOnce_far xs a ca w h
end Go.Proofs.Ytaondmaebgicgaa
