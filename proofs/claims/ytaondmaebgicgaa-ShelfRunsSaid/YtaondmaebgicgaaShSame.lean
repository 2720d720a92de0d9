/- The comparison of the shelf with the document's: 'same' walked. -/
import Derived.Test.YtaondmaebgicgaaShRefO
import Derived.Test.YtaondmaebgicgaaShRefE
import Derived.Test.YtaondmaebgicgaaShCk
import Derived.Test.YtaondmaebgicgaaShAct
import Derived.Deep.RegionHeld3
namespace Go.Proofs.Ytaondmaebgicgaa
open Go Go.RowKit
set_option maxRecDepth 20000
set_option linter.unusedSimpArgs false
set_option linter.unusedVariables false

theorem siteP_f (s : List UInt8) : siteP false s = (fun k : GKept => k.2 == s) := by funext k; simp [siteP]
theorem siteP_t (s : List UInt8) : siteP true s = (fun _ : GKept => true) := by funext k; simp [siteP]
theorem dk_lt {w : World} {a : Option Addr} {W : List GKept} (h : ListIn dkCod w a W 0) : W = [] ∨ ∃ g o, a = some ⟨g, o, none⟩ ∧ g < w.heap.size := by
  rcases h with h | ⟨b, o, h1, _, h3, _⟩
  · exact .inl h
  · exact .inr ⟨b, o, h1, h3⟩
set_option maxRecDepth 100000 in
set_option maxHeartbeats 8000000 in
theorem same_any (W : List GKept) (last B : Nat) (hO : OkW W last) (hlast : last < 900) (s : List UInt8) (hs : s.length ≤ maxLen) (bs ba bi : Nat) (a : Option Addr) (cap : Nat) (w : World) (hsh : ShR w bs ba bi W last B) (hin : ListIn dkCod w a W 0) :
    Calls Try.prog 19 #[.pointer (some ⟨bs, 0, none⟩), .agg (shC a W.length cap last), .string ⟨s.toArray⟩] w fun e w' => e = .returned (.bool true) ∧ Below w.heap.size w w' := by
  have HIN := Lib.hid hin
  have HSH := Lib.hid hsh
  have hWl := hO.length
  have H1 : Hid (∀ w', ShR w' bs ba bi W last B → Calls Try.prog 32 #[.pointer (some ⟨bs, 0, none⟩), .string ⟨s.toArray⟩] w' fun e w'' => e = .returned (.tuple #[.agg (cookieC (oldW (fun k => k.2 == s) W).2.1), .bool (oldW (fun k => k.2 == s) W).1]) ∧ Below w'.heap.size w' w'') := fun w' h => shOldestOf_any W hO.apart hO.rises last B bs ba bi s w' h
  have H2 : Hid (∀ w', ListIn dkCod w' a W 0 → Calls Try.prog 33 #[.agg (shC a W.length cap last), .string ⟨s.toArray⟩, .bool false] w' fun e w'' => e = .returned (.tuple #[.agg (cookieC (oldW (fun k => k.2 == s) W).2.1), .bool (oldW (fun k => k.2 == s) W).1]) ∧ Below w'.heap.size w' w'') := fun w' h => by
    have := refOldest_any W a cap last s false (by omega) w' h
    rwa [siteP_f] at this
  have H3 : Hid (∀ w', ShR w' bs ba bi W last B → Calls Try.prog 17 #[.pointer (some ⟨bs, 0, none⟩)] w' fun e w'' => e = .returned (.tuple #[.agg (cookieC (oldW (fun _ => true) W).2.1), .bool (oldW (fun _ => true) W).1]) ∧ Below w'.heap.size w' w'') := fun w' h => shOldestAll_any W hO.apart hO.rises last B bs ba bi w' h
  have H4 : Hid (∀ w', ListIn dkCod w' a W 0 → Calls Try.prog 33 #[.agg (shC a W.length cap last), .string ⟨#[]⟩, .bool true] w' fun e w'' => e = .returned (.tuple #[.agg (cookieC (oldW (fun _ => true) W).2.1), .bool (oldW (fun _ => true) W).1]) ∧ Below w'.heap.size w' w'') := fun w' h => by
    have := refOldest_any W a cap last [] true (by omega) w' h
    rwa [siteP_t] at this
  have H5 : Hid (∀ w', ShR w' bs ba bi W last B → Calls Try.prog 14 #[.pointer (some ⟨bs, 0, none⟩)] w' fun e w'' => e = .returned (.int .i64 (W.length : Int)) ∧ Below w'.heap.size w' w'') := fun w' h => shLen_any W last B bs ba bi w' h
  have H6 : Hid (∀ w', ShR w' bs ba bi W last B → Calls Try.prog 16 #[.pointer (some ⟨bs, 0, none⟩), .string ⟨s.toArray⟩] w' fun e w'' => e = .returned (.int .i64 (countW W s : Nat)) ∧ Below w'.heap.size w' w'') := fun w' h => shCount_any W last B bs ba bi s hs w' h
  have H7 : Hid (∀ w', ListIn dkCod w' a W 0 → Calls Try.prog 34 #[.agg (shC a W.length cap last), .string ⟨s.toArray⟩] w' fun e w'' => e = .returned (.int .i64 (countW W s : Nat)) ∧ Below w'.heap.size w' w'') := fun w' h => refCount_any W a cap last s (by omega) w' h
  have H8 : Hid (∀ w', ShR w' bs ba bi W last B → Calls Try.prog 12 #[.pointer (some ⟨bs, 0, none⟩)] w' (Gives cookCod (W.map (fun k : GKept => k.1)) w')) := fun w' h => shAll_any W last hO (by omega) (by omega) B bs ba bi w' h
  have H9 : Hid (∀ w', ListIn dkCod w' a W 0 → Calls Try.prog 36 #[.agg (shC a W.length cap last)] w' (Gives cookCod (W.map (fun k : GKept => k.1)) w')) := fun w' h => refAll_any W a cap last (by omega) w' h
  have H10 : Hid (∀ (L : List GCookie) (a1 a2 : Option Addr) (c1 c2 : Nat) (w' : World), L.length ≤ 1000 → ListIn cookCod w' a1 L 0 → ListIn cookCod w' a2 L 0 → Calls Try.prog 35 #[.slice a1 L.length c1, .slice a2 L.length c2] w' fun e w'' => e = .returned (.bool true) ∧ Below w'.heap.size w' w'') := fun L a1 a2 c1 c2 w' hL h1 h2 => refSame_eq L a1 a2 c1 c2 hL w' h1 h2
  have hLL : (W.map (fun k : GKept => k.1)).length ≤ 1000 := by rw [List.length_map]; omega
  generalize (oldW (fun k => k.2 == s) W).2.1 = k1 at *
  generalize (oldW (fun k => k.2 == s) W).1 = f1 at *
  generalize (oldW (fun _ => true) W).2.1 = k2 at *
  generalize (oldW (fun _ => true) W).1 = f2 at *
  generalize countW W s = cn at *
  generalize W.map (fun k : GKept => k.1) = L at *
  have hq1 : ckEq k1 k1 = true := ckEq_refl _
  have hq2 : ckEq k2 k2 = true := ckEq_refl _
  clear hsh hin hO
  go_enter Try.func19, Try.ntmps19
  go_upto_region 1 with fail
  change Code.wp _ _ _ _ (w.alloc (.cells (shC a W.length cap last) 50))
  have HV4 : Hid (Var (w.alloc (.cells (shC a W.length cap last) 50)) w.heap.size (shL a W.length cap last)) := Var.new w _ _ rfl rfl
  have HB1 : Hid (Below w.heap.size w (w.alloc (.cells (shC a W.length cap last) 50))) := (by repeat (first | exact Below.refl _ _ | assumption | refine below_grown ?_ (by first | omega | (simp [go_sem]; done) | (simp [go_sem] <;> omega)) _ | refine Below.alloc ?_ (by first | omega | (simp [go_sem]; done) | (simp [go_sem] <;> omega)) _ | refine below_bytesW ?_ (by first | omega | (simp [go_sem]; done) | (simp [go_sem] <;> omega)) _ | refine Below.drew ?_ | refine below_drewN ?_ _))
  generalize (w.alloc (.cells (shC a W.length cap last) 50)) = w1 at *
  go_upto_region 2 with (go_at_call 32; (with_reducible refine (H1.out _ (HSH.out.below HB1.out)).mono ?_); rintro e w1 ⟨rfl, hb1⟩; obtain ⟨p1, rfl⟩ := grown_of hb1; clear hb1)
  have HV7 : Hid (Var ((grown w1 p1).alloc (Obj.cells (cookieC k1) 31)) (w1.heap.size + p1.os.size) (cookieL k1)) := Var.new _ _ _ rfl (by simp [go_sem])
  have HV42 := Lib.hid ((HV4.out.grown p1).alloc (Obj.cells (cookieC k1) 31))
  have HB2 : Hid (Below w.heap.size w ((grown w1 p1).alloc (Obj.cells (cookieC k1) 31))) := HB1.out.trans (Below.mono (B := w1.heap.size) (by repeat (first | exact Below.refl _ _ | assumption | refine below_grown ?_ (by first | omega | (simp [go_sem]; done) | (simp [go_sem] <;> omega)) _ | refine Below.alloc ?_ (by first | omega | (simp [go_sem]; done) | (simp [go_sem] <;> omega)) _ | refine below_bytesW ?_ (by first | omega | (simp [go_sem]; done) | (simp [go_sem] <;> omega)) _ | refine Below.drew ?_ | refine below_drewN ?_ _)) HB1.out.size)
  generalize ((grown w1 p1).alloc (Obj.cells (cookieC k1) 31)) = w2 at *
  generalize w1.heap.size + p1.os.size = b7 at *
  have n41 : hasRow w2 ⟨w.heap.size, 0, none⟩ 2 = true := HV42.out.hasRow rfl
  have n42 : rowAt w2 ⟨w.heap.size, 0, none⟩ 2 = shC a W.length cap last := HV42.out.rowAt rfl
  go_upto_region 3 with (go_at_call 33; (with_reducible refine (H2.out _ (HIN.out.below HB2.out)).mono ?_); rintro e w1 ⟨rfl, hb1⟩; obtain ⟨p1, rfl⟩ := grown_of hb1; clear hb1)
  have HV9 : Hid (Var ((grown w2 p1).alloc (Obj.cells (cookieC k1) 31)) (w2.heap.size + p1.os.size) (cookieL k1)) := Var.new _ _ _ rfl (by simp [go_sem])
  have HV73 := Lib.hid ((HV7.out.grown p1).alloc (Obj.cells (cookieC k1) 31))
  have HV43 := Lib.hid ((HV42.out.grown p1).alloc (Obj.cells (cookieC k1) 31))
  have HB3 : Hid (Below w.heap.size w ((grown w2 p1).alloc (Obj.cells (cookieC k1) 31))) := HB2.out.trans (Below.mono (B := w2.heap.size) (by repeat (first | exact Below.refl _ _ | assumption | refine below_grown ?_ (by first | omega | (simp [go_sem]; done) | (simp [go_sem] <;> omega)) _ | refine Below.alloc ?_ (by first | omega | (simp [go_sem]; done) | (simp [go_sem] <;> omega)) _ | refine below_bytesW ?_ (by first | omega | (simp [go_sem]; done) | (simp [go_sem] <;> omega)) _ | refine Below.drew ?_ | refine below_drewN ?_ _)) HB2.out.size)
  generalize ((grown w2 p1).alloc (Obj.cells (cookieC k1) 31)) = w3 at *
  generalize w2.heap.size + p1.os.size = b9 at *
  clear n41 n42
  go_upto_region 4 with (go_at_call 17; (with_reducible refine (H3.out _ (HSH.out.below HB3.out)).mono ?_); rintro e w1 ⟨rfl, hb1⟩; obtain ⟨p1, rfl⟩ := grown_of hb1; clear hb1)
  have HV11 : Hid (Var ((grown w3 p1).alloc (Obj.cells (cookieC k2) 31)) (w3.heap.size + p1.os.size) (cookieL k2)) := Var.new _ _ _ rfl (by simp [go_sem])
  have HV94 := Lib.hid ((HV9.out.grown p1).alloc (Obj.cells (cookieC k2) 31))
  have HV74 := Lib.hid ((HV73.out.grown p1).alloc (Obj.cells (cookieC k2) 31))
  have HV44 := Lib.hid ((HV43.out.grown p1).alloc (Obj.cells (cookieC k2) 31))
  have HB4 : Hid (Below w.heap.size w ((grown w3 p1).alloc (Obj.cells (cookieC k2) 31))) := HB3.out.trans (Below.mono (B := w3.heap.size) (by repeat (first | exact Below.refl _ _ | assumption | refine below_grown ?_ (by first | omega | (simp [go_sem]; done) | (simp [go_sem] <;> omega)) _ | refine Below.alloc ?_ (by first | omega | (simp [go_sem]; done) | (simp [go_sem] <;> omega)) _ | refine below_bytesW ?_ (by first | omega | (simp [go_sem]; done) | (simp [go_sem] <;> omega)) _ | refine Below.drew ?_ | refine below_drewN ?_ _)) HB3.out.size)
  generalize ((grown w3 p1).alloc (Obj.cells (cookieC k2) 31)) = w4 at *
  generalize w3.heap.size + p1.os.size = b11 at *
  have n41 : hasRow w4 ⟨w.heap.size, 0, none⟩ 2 = true := HV44.out.hasRow rfl
  have n42 : rowAt w4 ⟨w.heap.size, 0, none⟩ 2 = shC a W.length cap last := HV44.out.rowAt rfl
  go_upto_region 5 with (go_at_call 33; (with_reducible refine (H4.out _ (HIN.out.below HB4.out)).mono ?_); rintro e w1 ⟨rfl, hb1⟩; obtain ⟨p1, rfl⟩ := grown_of hb1; clear hb1)
  have HV13 : Hid (Var ((grown w4 p1).alloc (Obj.cells (cookieC k2) 31)) (w4.heap.size + p1.os.size) (cookieL k2)) := Var.new _ _ _ rfl (by simp [go_sem])
  have HV115 := Lib.hid ((HV11.out.grown p1).alloc (Obj.cells (cookieC k2) 31))
  have HV95 := Lib.hid ((HV94.out.grown p1).alloc (Obj.cells (cookieC k2) 31))
  have HV75 := Lib.hid ((HV74.out.grown p1).alloc (Obj.cells (cookieC k2) 31))
  have HV45 := Lib.hid ((HV44.out.grown p1).alloc (Obj.cells (cookieC k2) 31))
  have HB5 : Hid (Below w.heap.size w ((grown w4 p1).alloc (Obj.cells (cookieC k2) 31))) := HB4.out.trans (Below.mono (B := w4.heap.size) (by repeat (first | exact Below.refl _ _ | assumption | refine below_grown ?_ (by first | omega | (simp [go_sem]; done) | (simp [go_sem] <;> omega)) _ | refine Below.alloc ?_ (by first | omega | (simp [go_sem]; done) | (simp [go_sem] <;> omega)) _ | refine below_bytesW ?_ (by first | omega | (simp [go_sem]; done) | (simp [go_sem] <;> omega)) _ | refine Below.drew ?_ | refine below_drewN ?_ _)) HB4.out.size)
  generalize ((grown w4 p1).alloc (Obj.cells (cookieC k2) 31)) = w5 at *
  generalize w4.heap.size + p1.os.size = b13 at *
  clear n41 n42 HV4 HV42 HV43 HV44 HV7 HV73 HV74 HV9 HV94 HV11 HB1 HB2 HB3 HB4
  have HS : Hid (∀ w', Below w5.heap.size w5 w' → hasRow w' ⟨b7, 0, none⟩ 29 = true ∧ rowAt w' ⟨b7, 0, none⟩ 29 = cookieC k1 ∧ hasRow w' ⟨b9, 0, none⟩ 29 = true ∧ rowAt w' ⟨b9, 0, none⟩ 29 = cookieC k1 ∧ hasRow w' ⟨b11, 0, none⟩ 29 = true ∧ rowAt w' ⟨b11, 0, none⟩ 29 = cookieC k2 ∧ hasRow w' ⟨b13, 0, none⟩ 29 = true ∧ rowAt w' ⟨b13, 0, none⟩ 29 = cookieC k2 ∧ hasRow w' ⟨w.heap.size, 0, none⟩ 2 = true ∧ rowAt w' ⟨w.heap.size, 0, none⟩ 2 = shC a W.length cap last ∧ w'.cell? ⟨w.heap.size, 0, none⟩ = some (.slice a W.length cap)) := fun w' hb =>
    ⟨(HV75.out.below hb).hasRow (cookieL_length _), (HV75.out.below hb).rowAt (cookieL_length _), (HV95.out.below hb).hasRow (cookieL_length _), (HV95.out.below hb).rowAt (cookieL_length _), (HV115.out.below hb).hasRow (cookieL_length _), (HV115.out.below hb).rowAt (cookieL_length _), (HV13.out.below hb).hasRow (cookieL_length _), (HV13.out.below hb).rowAt (cookieL_length _), (HV45.out.below hb).hasRow rfl, (HV45.out.below hb).rowAt rfl, (HV45.out.below hb).cellAt rfl⟩
  have HSH5 := Lib.hid (HSH.out.below HB5.out)
  have HIN5 := Lib.hid (HIN.out.below HB5.out)
  clear H1 H2 H3 H4 HSH HIN HV45 HV75 HV95 HV115 HV13
  go_cut [6] (fun s6 wx => s6 = .bool true ∧ Below w5.heap.size w5 wx)
  case first =>
    go_region_held3 (fun w' => hasRow w' ⟨b7, 0, none⟩ 29 = true ∧ rowAt w' ⟨b7, 0, none⟩ 29 = cookieC k1 ∧ hasRow w' ⟨b9, 0, none⟩ 29 = true ∧ rowAt w' ⟨b9, 0, none⟩ 29 = cookieC k1 ∧ hasRow w' ⟨b11, 0, none⟩ 29 = true ∧ rowAt w' ⟨b11, 0, none⟩ 29 = cookieC k2 ∧ hasRow w' ⟨b13, 0, none⟩ 29 = true ∧ rowAt w' ⟨b13, 0, none⟩ 29 = cookieC k2 ∧ hasRow w' ⟨w.heap.size, 0, none⟩ 2 = true ∧ rowAt w' ⟨w.heap.size, 0, none⟩ 2 = shC a W.length cap last ∧ w'.cell? ⟨w.heap.size, 0, none⟩ = some (.slice a W.length cap)) (exact HS.out _ (by repeat (first | exact Below.refl _ _ | assumption | refine below_grown ?_ (by first | omega | (simp [go_sem]; done) | (simp [go_sem] <;> omega)) _ | refine Below.alloc ?_ (by first | omega | (simp [go_sem]; done) | (simp [go_sem] <;> omega)) _ | refine below_bytesW ?_ (by first | omega | (simp [go_sem]; done) | (simp [go_sem] <;> omega)) _ | refine Below.drew ?_ | refine below_drewN ?_ _)))
      (first
      | (go_at_call 14; (with_reducible refine (H5.out _ (ShR.below HSH5.out (by repeat (first | exact Below.refl _ _ | assumption | refine below_grown ?_ (by first | omega | (simp [go_sem]; done) | (simp [go_sem] <;> omega)) _ | refine Below.alloc ?_ (by first | omega | (simp [go_sem]; done) | (simp [go_sem] <;> omega)) _ | refine below_bytesW ?_ (by first | omega | (simp [go_sem]; done) | (simp [go_sem] <;> omega)) _ | refine Below.drew ?_ | refine below_drewN ?_ _)))).mono ?_); rintro e w1 ⟨rfl, hb1⟩; obtain ⟨p1, rfl⟩ := grown_of hb1; clear hb1)
      | (go_at_call 16; (with_reducible refine (H6.out _ (ShR.below HSH5.out (by repeat (first | exact Below.refl _ _ | assumption | refine below_grown ?_ (by first | omega | (simp [go_sem]; done) | (simp [go_sem] <;> omega)) _ | refine Below.alloc ?_ (by first | omega | (simp [go_sem]; done) | (simp [go_sem] <;> omega)) _ | refine below_bytesW ?_ (by first | omega | (simp [go_sem]; done) | (simp [go_sem] <;> omega)) _ | refine Below.drew ?_ | refine below_drewN ?_ _)))).mono ?_); rintro e w1 ⟨rfl, hb1⟩; obtain ⟨p1, rfl⟩ := grown_of hb1; clear hb1)
      | (go_at_call 34; (with_reducible refine (H7.out _ (ListIn.below HIN5.out (by repeat (first | exact Below.refl _ _ | assumption | refine below_grown ?_ (by first | omega | (simp [go_sem]; done) | (simp [go_sem] <;> omega)) _ | refine Below.alloc ?_ (by first | omega | (simp [go_sem]; done) | (simp [go_sem] <;> omega)) _ | refine below_bytesW ?_ (by first | omega | (simp [go_sem]; done) | (simp [go_sem] <;> omega)) _ | refine Below.drew ?_ | refine below_drewN ?_ _)))).mono ?_); rintro e w1 ⟨rfl, hb1⟩; obtain ⟨p1, rfl⟩ := grown_of hb1; clear hb1)
      | (go_at_call 12; (with_reducible refine (H8.out _ (ShR.below HSH5.out (by repeat (first | exact Below.refl _ _ | assumption | refine below_grown ?_ (by first | omega | (simp [go_sem]; done) | (simp [go_sem] <;> omega)) _ | refine Below.alloc ?_ (by first | omega | (simp [go_sem]; done) | (simp [go_sem] <;> omega)) _ | refine below_bytesW ?_ (by first | omega | (simp [go_sem]; done) | (simp [go_sem] <;> omega)) _ | refine Below.drew ?_ | refine below_drewN ?_ _)))).mono ?_); rintro e w1 ⟨a9, c9, rfl, hc9, hb1, hl9⟩; obtain ⟨p1, rfl⟩ := grown_of hb1; have HL9 := Lib.hid (hl9.mono (Nat.zero_le _)); clear hb1 hl9)
      | (go_at_call 36; (with_reducible refine (H9.out _ (ListIn.below HIN5.out (by repeat (first | exact Below.refl _ _ | assumption | refine below_grown ?_ (by first | omega | (simp [go_sem]; done) | (simp [go_sem] <;> omega)) _ | refine Below.alloc ?_ (by first | omega | (simp [go_sem]; done) | (simp [go_sem] <;> omega)) _ | refine below_bytesW ?_ (by first | omega | (simp [go_sem]; done) | (simp [go_sem] <;> omega)) _ | refine Below.drew ?_ | refine below_drewN ?_ _)))).mono ?_); rintro e w1 ⟨a8, c8, rfl, hc8, hb1, hl8⟩; obtain ⟨p1, rfl⟩ := grown_of hb1; have HL8 := Lib.hid (hl8.mono (Nat.zero_le _)); clear hb1 hl8)
      | (go_at_call 35; (with_reducible refine (H10.out _ _ _ _ _ _ hLL (by repeat (first | with_reducible exact HL9.out | apply ListIn.grown)) (by repeat (first | with_reducible exact HL8.out | apply ListIn.grown))).mono ?_); rintro e w1 ⟨rfl, hb1⟩; obtain ⟨p1, rfl⟩ := grown_of hb1; clear hb1))
    all_goals
      go_wp2_with fail
      go_meet
      exact ⟨by simp, (by repeat (first | exact Below.refl _ _ | assumption | refine below_grown ?_ (by first | omega | (simp [go_sem]; done) | (simp [go_sem] <;> omega)) _ | refine Below.alloc ?_ (by first | omega | (simp [go_sem]; done) | (simp [go_sem] <;> omega)) _ | refine below_bytesW ?_ (by first | omega | (simp [go_sem]; done) | (simp [go_sem] <;> omega)) _ | refine Below.drew ?_ | refine below_drewN ?_ _))⟩
  case rest =>
    obtain ⟨rfl, hbc⟩ := hcut
    go_wp2
    go_ret
    exact ⟨rfl, HB5.out.trans (hbc.mono HB5.out.size)⟩
end Go.Proofs.Ytaondmaebgicgaa
