/- The walk of the statement ShelfRuns. -/
import Derived.Test.YtaondmaebgicgaaShDo
import Derived.Test.YtaondmaebgicgaaShSame
import Derived.IntWalk
namespace Go.Proofs.Ytaondmaebgicgaa
open Go Go.RowKit
set_option maxRecDepth 20000
set_option linter.unusedSimpArgs false
set_option linter.unusedVariables false

theorem shelfRuns_far (xs : List GAct) (a : Option Addr) (ca : Nat) (w : World) (h40 : ¬ xs.length ≤ 40) :
    Calls Try.prog 6 #[.slice a xs.length ca] w fun e w' => e = .returned (.bool true) ∧ Below w.heap.size w w' := by
  have h1 : (40 : Int) < (xs.length : Int) := by omega
  go_enter Try.func6, Try.ntmps6
  go_wp2_with (go_at_call 7; refine (shAlive_any _).mono ?_; rintro e w1 ⟨rfl, hb1⟩; obtain ⟨p1, rfl⟩ := grown_of hb1; clear hb1)
  go_ret
  exact ⟨rfl, (by repeat (first | exact Below.refl _ _ | assumption | refine below_grown ?_ (by first | omega | (simp [go_sem]; done) | (simp [go_sem] <;> omega)) _ | refine Below.alloc ?_ (by first | omega | (simp [go_sem]; done) | (simp [go_sem] <;> omega)) _ | refine below_bytesW ?_ (by first | omega | (simp [go_sem]; done) | (simp [go_sem] <;> omega)) _ | refine Below.drew ?_ | refine below_drewN ?_ _))⟩
theorem shO_lt {w : World} {bs ba bi : Nat} {W : List GKept} {last B : Nat} (h : ShR w bs ba bi W last B) : bs < w.heap.size ∧ ba < w.heap.size ∧ bi < w.heap.size := by
  refine ⟨h.1.lt, h.2.1.lt, ?_⟩
  obtain ⟨n, _, h4⟩ := h.2.2.1
  exact h4.lt
set_option maxRecDepth 100000 in
set_option maxHeartbeats 8000000 in
theorem shelfRuns_near (xs : List GAct) (a : Option Addr) (ca : Nat) (w : World) (hin : ListIn actCod w a xs 0) (h40 : xs.length ≤ 40) :
    Calls Try.prog 6 #[.slice a xs.length ca] w fun e w' => e = .returned (.bool true) ∧ Below w.heap.size w w' := by
  have HIN := Lib.hid hin
  have h1 : (xs.length : Int) ≤ 40 := by omega
  clear hin
  go_enter Try.func6, Try.ntmps6
  go_upto_region 6 with (first
    | (go_at_call 7; refine (shAlive_any _).mono ?_; rintro e w1 ⟨rfl, hb1⟩; obtain ⟨p1, rfl⟩ := grown_of hb1; clear hb1)
    | (go_at_call 8; refine (shNew_any _).mono ?_; rintro e w1 ⟨bs, ba, bi, rfl, hsh, hb, hl1, hl2, hl3⟩; have HSH := Lib.hid hsh; have HB := Lib.hid (bel_up (w := w) (by repeat (first | exact Below.refl _ _ | assumption | refine below_grown ?_ (by first | omega | (simp [go_sem]; done) | (simp [go_sem] <;> omega)) _ | refine Below.alloc ?_ (by first | omega | (simp [go_sem]; done) | (simp [go_sem] <;> omega)) _ | refine below_bytesW ?_ (by first | omega | (simp [go_sem]; done) | (simp [go_sem] <;> omega)) _ | refine Below.drew ?_ | refine below_drewN ?_ _)) hb); simp only [size_grown] at hl1 hl2 hl3; clear hsh hb))
  change Code.wp _ _ _ _ (w1.alloc (Obj.cells (shC none 0 0 0) 50))
  have hl1' : w.heap.size ≤ bs := by omega
  have hl2' : w.heap.size ≤ ba := by omega
  have hl3' : w.heap.size ≤ bi := by omega
  have hlt1 := (shO_lt HSH.out).1
  have hlt2 := (shO_lt HSH.out).2.1
  have hlt3 := (shO_lt HSH.out).2.2
  clear hl1 hl2 hl3
  have hsz1 := HB.out.size
  have HB4 : Hid (Below w.heap.size w (w1.alloc (Obj.cells (shC none 0 0 0) 50))) := HB.out.alloc hsz1 _
  have HV4 : Hid (Var (w1.alloc (Obj.cells (shC none 0 0 0) 50)) w1.heap.size (shL none 0 0 0)) := Var.new _ _ _ rfl rfl
  have HSH4 : Hid (ShR (w1.alloc (Obj.cells (shC none 0 0 0) 50)) bs ba bi [] 0 0) := HSH.out.below ((Below.refl w1.heap.size w1).alloc (Nat.le_refl _) _)
  generalize (w1.alloc (Obj.cells (shC none 0 0 0) 50)) = w4 at *
  have hb4 : ∃ b4, w1.heap.size = b4 := ⟨_, rfl⟩
  obtain ⟨b4, hb4⟩ := hb4
  rw [hb4] at HV4 hlt1 hlt2 hlt3 hsz1
  have HN4 : Hid (¬ ShO bs ba bi b4) := by rintro (e | e | e) <;> omega
  simp only [hb4]
  clear hb4 hlt1 hlt2 hlt3 HSH HB
  go_wp2_with fail
  go_loopw [18] (fun s18 wr => ∃ (k : Nat) (W : List GKept) (last : Nat) (a4 : Option Addr) (c4 : Nat), s18 = .int .i64 (k : Int) ∧ k ≤ xs.length ∧ last ≤ k ∧ OkW W last ∧ W.length ≤ c4 ∧ ShR wr bs ba bi W last k ∧ Var wr b4 (shL a4 W.length c4 last) ∧ ListIn dkCod wr a4 W 0 ∧ Below w.heap.size w wr) (fun i _ => xs.length - (intOf i).toNat)
  case atStart => exact ⟨0, [], 0, none, 0, rfl, Nat.zero_le _, Nat.le_refl _, OkW.nil, Nat.le_refl _, HSH4.out, HV4.out, .inl rfl, HB4.out⟩
  case round =>
    obtain ⟨k, W, last, a4, c4, rfl, hk, hlk, hO, hWc, hsh, hv, hl, hbw⟩ := hrel
    have HO := Lib.hid hO
    have HSHr := Lib.hid hsh
    have HV := Lib.hid hv
    have HL := Lib.hid hl
    have HBW := Lib.hid hbw
    have hsz := hbw.size
    have hWl := hO.length
    clear hO hsh hbw hv hl
    by_cases hlt : k < xs.length
    · obtain ⟨g, o, rfl, hlo, hhi, hat⟩ := HIN.out.resolve_left (fun h => by subst h; exact absurd hlt (Nat.not_lt_zero _))
      obtain ⟨r1, q1⟩ := actRow (hat.below HBW.out) k hlt
      have hio : isOld g wr = true := isOld_iff.2 (by omega)
      have hki : (k : Int) < (xs.length : Int) := by omega
      generalize hxE : xs[k]'hlt = x at *
      have hxs := x.hsite
      clear hat hxE
      go_upto_region 9 with fail
      have hv6 : Var (wr.alloc (Obj.cells (actC x) 33)) wr.heap.size (actL x) := Var.new _ _ _ rfl rfl
      have hsh6 := HSHr.out.below ((Below.refl wr.heap.size wr).alloc (Nat.le_refl _) (Obj.cells (actC x) 33))
      have hl6 := HL.out.below ((Below.refl wr.heap.size wr).alloc (Nat.le_refl _) (Obj.cells (actC x) 33))
      have hv46 := HV.out.alloc (Obj.cells (actC x) 33)
      have hb6 : Below w.heap.size w (wr.alloc (Obj.cells (actC x) 33)) := HBW.out.alloc hsz _
      have hz6 : (wr.alloc (Obj.cells (actC x) 33)).heap.size = wr.heap.size + 1 := by simp
      have hn6 : ¬ ShO bs ba bi wr.heap.size := by
        obtain ⟨e1, e2, e3⟩ := shO_lt HSHr.out
        rintro (e | e | e) <;> omega
      have hb46 : b4 < wr.heap.size := HV.out.lt
      have HV6 := Lib.hid hv6
      have HV46 := Lib.hid hv46
      have HSH6 := Lib.hid hsh6
      have HL6 := Lib.hid hl6
      have HB6 := Lib.hid hb6
      have HN6 := Lib.hid hn6
      generalize (wr.alloc (Obj.cells (actC x) 33)) = w6 at *
      generalize hb6E : wr.heap.size = b6 at *
      have m1 : hasRow w6 ⟨b6, 0, none⟩ 32 = true := hv6.hasRow (actL_length _)
      have m2 : rowAt w6 ⟨b6, 0, none⟩ 32 = actC x := hv6.rowAt (actL_length _)
      have m3 : hasRow w6 ⟨b4, 0, none⟩ 2 = true := hv46.hasRow rfl
      have m4 : rowAt w6 ⟨b4, 0, none⟩ 2 = shC a4 W.length c4 last := hv46.rowAt rfl
      clear hv6 hsh6 hb6 hn6 r1 q1 hio hl6 hv46
      have HDO := Lib.hid (do_any W last k HO.out (by omega) (by omega) x bs ba bi a4 c4 hWc w6 HSH6.out HL6.out)
      go_upto_region 10 with (go_at_call 18; (with_reducible refine HDO.out.mono ?_); rintro e w7 ⟨W', last', a', cap', rfl, hO', hl', hc', hsh7, hin7, hk7⟩; have HO' := Lib.hid hO'; have HSH7 := Lib.hid hsh7; have HIN7 := Lib.hid hin7; have HK7 := Lib.hid hk7; clear hO' hsh7 hin7 hk7)
      have hWl' := HO'.out.length
      have hz7 := HK7.out.size
      have hb7 : Below w.heap.size w w7 := below_of_keeps HB6.out HB6.out.size HK7.out hl1' hl2' hl3'
      have hv67 := HV6.out.keeps HK7.out HN6.out
      have hv47 := HV46.out.keeps HK7.out HN4.out
      have HB8 : Hid (Below w.heap.size w (w7.alloc (Obj.cells (shC a' W'.length cap' last') 50))) := hb7.alloc hb7.size _
      have HV68 := Lib.hid (hv67.alloc (Obj.cells (shC a' W'.length cap' last') 50))
      have HV48 := Lib.hid (hv47.alloc (Obj.cells (shC a' W'.length cap' last') 50))
      have HV78 : Hid (Var (w7.alloc (Obj.cells (shC a' W'.length cap' last') 50)) w7.heap.size (shL a' W'.length cap' last')) := Var.new _ _ _ rfl rfl
      have HSH8 := Lib.hid (HSH7.out.below ((Below.refl w7.heap.size w7).alloc (Nat.le_refl _) (Obj.cells (shC a' W'.length cap' last') 50)))
      have HIN8 := Lib.hid (HIN7.out.below ((Below.refl w7.heap.size w7).alloc (Nat.le_refl _) (Obj.cells (shC a' W'.length cap' last') 50)))
      have hlt47 := hv47.lt
      clear hv67 hv47 hb7 HSH7 HIN7
      generalize (w7.alloc (Obj.cells (shC a' W'.length cap' last') 50)) = w8 at *
      generalize hb7E : w7.heap.size = b7 at *
      have hne : b4 ≠ b7 := by omega
      have r1 : hasRow w8 ⟨b7, 0, none⟩ 2 = true := HV78.out.hasRow rfl
      have r2 : rowAt w8 ⟨b7, 0, none⟩ 2 = shC a' W'.length cap' last' := HV78.out.rowAt rfl
      have r3 : hasVar w8 b4 2 = true := HV48.out.has rfl
      clear m1 m2 m3 m4
      go_upto_region 11 with fail
      have hks : Keeps (fun j => j = b4) w8 (w8.setRow b4 (shC a' W'.length cap' last')) := keeps_setRow (Q := fun j => j = b4) (Keeps.refl _ _) (.inr rfl) _
      have HV49 : Hid (Var (w8.setRow b4 (shC a' W'.length cap' last')) b4 (shL a' W'.length cap' last')) := HV48.out.setRow_same (shC a' W'.length cap' last') (by simp [shL, shC])
      have HV69 : Hid (Var (w8.setRow b4 (shC a' W'.length cap' last')) b6 (actL x)) := HV68.out.keeps hks (by omega)
      have HIN9 := Lib.hid (listIn_var HV48.out (by simp [shL]) HIN8.out hks)
      have HSH9 := Lib.hid (shR_keeps HSH8.out hks (fun j e => by subst e; exact HN4.out))
      have HB9 : Hid (Below w.heap.size w (w8.setRow b4 (shC a' W'.length cap' last'))) := below_setRow HB8.out (by omega) _
      generalize (w8.setRow b4 (shC a' W'.length cap' last')) = w9 at *
      have m1 : hasRow w9 ⟨b4, 0, none⟩ 2 = true := HV49.out.hasRow rfl
      have m2 : rowAt w9 ⟨b4, 0, none⟩ 2 = shC a' W'.length cap' last' := HV49.out.rowAt rfl
      have m3 : w9.cell? ⟨b6, 30, none⟩ = some (.string ⟨x.site.toArray⟩) := HV69.out.cellAt (by have := actC_30 x; rwa [actC, List.getElem?_toArray] at this)
      have HSA := Lib.hid (same_any W' last' (k + 1) HO'.out (by omega) x.site hxs bs ba bi a' cap' w9 HSH9.out HIN9.out)
      clear r1 r2 r3 hks
      go_wp2_with (go_at_call 19; (with_reducible refine HSA.out.mono ?_); rintro e w1 ⟨rfl, hb1⟩; obtain ⟨p1, rfl⟩ := grown_of hb1; clear hb1)
      go_roundw
      case rel =>
        have hbx : Below w9.heap.size w9 (grown w9 p1) := (by repeat (first | exact Below.refl _ _ | assumption | refine below_grown ?_ (by first | omega | (simp [go_sem]; done) | (simp [go_sem] <;> omega)) _ | refine Below.alloc ?_ (by first | omega | (simp [go_sem]; done) | (simp [go_sem] <;> omega)) _ | refine below_bytesW ?_ (by first | omega | (simp [go_sem]; done) | (simp [go_sem] <;> omega)) _ | refine Below.drew ?_ | refine below_drewN ?_ _))
        exact ⟨k + 1, W', last', a', cap', by simp, by omega, by omega, HO'.out, hc', HSH9.out.below hbx, HV49.out.below hbx, HIN9.out.below hbx, HB9.out.trans (hbx.mono HB9.out.size)⟩
      case measure => first | (simp [intOf]; done) | (simp [intOf]; omega)
    · obtain rfl : k = xs.length := by omega
      have HSA : Hid (Calls Try.prog 19 #[.pointer (some ⟨bs, 0, none⟩), .agg (shC a4 W.length c4 last), .string ⟨#[]⟩] wr fun e w' => e = .returned (.bool true) ∧ Below wr.heap.size wr w') := same_any W last _ HO.out (by omega) [] (Nat.zero_le _) bs ba bi a4 c4 wr HSHr.out HL.out
      have m1 : hasRow wr ⟨b4, 0, none⟩ 2 = true := HV.out.hasRow rfl
      have m2 : rowAt wr ⟨b4, 0, none⟩ 2 = shC a4 W.length c4 last := HV.out.rowAt rfl
      go_wp2_with (go_at_call 19; (with_reducible refine HSA.out.mono ?_); rintro e w1 ⟨rfl, hb1⟩; obtain ⟨p1, rfl⟩ := grown_of hb1; clear hb1)
      go_ret
      exact ⟨rfl, HBW.out.trans (Below.mono (B := wr.heap.size) (by repeat (first | exact Below.refl _ _ | assumption | refine below_grown ?_ (by first | omega | (simp [go_sem]; done) | (simp [go_sem] <;> omega)) _ | refine Below.alloc ?_ (by first | omega | (simp [go_sem]; done) | (simp [go_sem] <;> omega)) _ | refine below_bytesW ?_ (by first | omega | (simp [go_sem]; done) | (simp [go_sem] <;> omega)) _ | refine Below.drew ?_ | refine below_drewN ?_ _)) hsz)⟩
theorem shelfRuns_any (xs : List GAct) (a : Option Addr) (ca : Nat) (w : World) (hin : ListIn actCod w a xs 0) :
    Calls Try.prog 6 #[.slice a xs.length ca] w fun e w' => e = .returned (.bool true) ∧ Below w.heap.size w w' := by
  by_cases h : xs.length ≤ 40
  · exact shelfRuns_near xs a ca w hin h
  · exact shelfRuns_far xs a ca w h
end Go.Proofs.Ytaondmaebgicgaa
