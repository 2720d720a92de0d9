/- Merged: TplRd, TplN. -/
import Derived.Test.YtnkckejbkbbdlaaGreatDoorTmH
import Derived.Test.YtnkckejbkbbdlaaGreatDoorTmUrlParseg
namespace Go.Proofs.YtnkckejbkbbdlaaGreatDoor
section
open Go Go.RowKit
set_option maxRecDepth 20000
set_option linter.unusedSimpArgs false
set_option linter.unusedVariables false

/-- What a fault is panicked with. -/
def faultP (code line col : Int) : Ending := .panicked [{ v := .iface 24 (.agg (faultV code line col)), recovered := false }]
theorem colW_le (W : List (List UInt8)) (k : Nat) : ∀ j, j ≤ k → (((W.take j).map (fun w => w.length + 1)).sum : Nat) ≤ ((W.take k).map (fun w => w.length + 1)).sum := by
  intro j hj
  have e : W.take k = W.take j ++ (W.take k).drop j := by
    have := List.take_append_drop j (W.take k)
    rw [List.take_take, Nat.min_eq_left hj] at this
    exact this.symm
  rw [e, List.map_append, List.sum_append]
  omega
theorem colW_step (W : List (List UInt8)) (j : Nat) (h : j < W.length) : ((W.take (j + 1)).map (fun w => w.length + 1)).sum = ((W.take j).map (fun w => w.length + 1)).sum + ((W[j]'h).length + 1) := by
  rw [List.take_succ_eq_append_getElem h, List.map_append, List.sum_append]; simp
set_option maxHeartbeats 2000000 in
theorem fail_any (b : Nat) (v0 v1 : Value) (line : Int) (aw : Option Addr) (cw : Nat) (W : List (List UInt8)) (hWc : W.length ≤ cw) (hWl : W.length ≤ 1000000) (hsum : ((W.map (fun w => w.length + 1)).sum : Nat) ≤ 1000000) (code : Int) (k : Nat) (hk : k ≤ W.length) (w : World) (hv : Var w b [v0, v1, .int .i64 line, .slice aw W.length cw]) (hw : ListIn strCod w aw W 0) :
    Calls Tryz.prog 36 #[.pointer (some ⟨b, 0, none⟩), .int .i64 code, .int .i64 (k : Int)] w fun e w' => e = faultP code line (colW W k) ∧ w = w' := by
  have HV := Lib.hid hv
  have HW := Lib.hid hw
  have HSUM := Lib.hid hsum
  have HST := Lib.hid (colW_step W)
  have HLE := Lib.hid (colW_le W W.length)
  have c3 : w.cell? ⟨b, 3, none⟩ = some (.slice aw W.length cw) := hv.cell 3 (by simp)
  have c2 : w.cell? ⟨b, 2, none⟩ = some (.int .i64 line) := hv.cell 2 (by simp)
  have hk0 : (0 : Int) ≤ (k : Int) := by omega
  have hk1 : (k : Int) ≤ (W.length : Int) := by omega
  have hk2 : (k : Int) ≤ (cw : Int) := by omega
  clear hv hw hsum
  go_enter Tryz.func36, Tryz.ntmps36
  go_wp2
  go_loop [6, 8, 16] (fun c _ i => ∃ j : Nat, i = .int .i64 (j : Int) ∧ j ≤ k ∧ c = .int .i64 (1 + ((((W.take j).map (fun w => w.length + 1)).sum : Nat) : Int))) (fun _ _ i => k - (intOf i).toNat)
  case atStart => exact ⟨0, rfl, Nat.zero_le _, by simp⟩
  case round =>
    obtain ⟨j, rfl, hj, rfl⟩ := hrel
    have hall : ((W.take W.length).map (fun w => w.length + 1)).sum ≤ 1000000 := by rw [List.take_length]; exact HSUM.out
    by_cases hlt : j < k
    · have hjW : j < W.length := by omega
      obtain ⟨g, o, rfl, _, _, hat⟩ := HW.out.resolve_left (fun h => by subst h; exact absurd hjW (Nat.not_lt_zero _))
      have hc := strAt hat j hjW
      have hst := HST.out j hjW
      have hle := HLE.out (j + 1) (by omega)
      rw [hst] at hle
      have HS2 := Lib.hid hst
      have hji : (j : Int) < (k : Int) := by omega
      clear hat hst
      generalize W[j]'hjW = x at *
      generalize ((W.take j).map (fun w => w.length + 1)).sum = z at *
      have hw1 : IntKind.i64.wrap ((x.length : Int) + 1) = (x.length : Int) + 1 := IntWalk.i64_in _ (by omega)
      have hw2 : IntKind.i64.wrap (1 + (z : Int) + ((x.length : Int) + 1)) = 1 + ((z + (x.length + 1) : Nat) : Int) := by
        rw [show (1 + (z : Int) + ((x.length : Int) + 1)) = 1 + ((z + (x.length + 1) : Nat) : Int) by omega]
        exact IntWalk.i64_in _ (by omega)
      go_wp2
      go_round
      case rel => exact ⟨j + 1, by go_num, by omega, by rw [HS2.out]; first | done | (congr 1; done) | (congr 1; omega)⟩
      case measure => simp [intOf]; omega
    · obtain rfl : j = k := by omega
      go_wp2
      exact ⟨rfl, by unfold faultP colW; rw [List.map_take], rfl⟩
/-! ### what a word stands for -/
def TextPost (x : List UInt8) (f : Ending) (w : World) (e : Ending) (w' : World) : Prop := (((unwL x).2 = true ∧ e = .returned (.string ⟨(unwL x).1.toArray⟩)) ∨ ((unwL x).2 = false ∧ e = f)) ∧ Below w.heap.size w w'
set_option maxHeartbeats 2000000 in
theorem text_any (b : Nat) (v0 v1 : Value) (line : Int) (aw : Option Addr) (cw : Nat) (W : List (List UInt8)) (hWc : W.length ≤ cw) (hWl : W.length ≤ 1000000) (hsum : ((W.map (fun w => w.length + 1)).sum : Nat) ≤ 1000000) (k : Nat) (hk : k < W.length) (hx : (W[k]'hk).length ≤ 1000000) (w : World) (hv : Var w b [v0, v1, .int .i64 line, .slice aw W.length cw]) (hw : ListIn strCod w aw W 0) :
    Calls Tryz.prog 59 #[.pointer (some ⟨b, 0, none⟩), .int .i64 (k : Int)] w (TextPost (W[k]'hk) (faultP 131 line (colW W k)) w) := by
  obtain ⟨POST, hpost⟩ : ∃ POST : Ending → World → Prop, TextPost (W[k]'hk) (faultP 131 line (colW W k)) w = POST := ⟨_, rfl⟩
  rw [hpost]
  have HPOST := Lib.hid hpost
  have c3 : w.cell? ⟨b, 3, none⟩ = some (.slice aw W.length cw) := hv.cell 3 (by simp)
  obtain ⟨g, o, rfl, _, _, hat⟩ := hw.resolve_left (fun h => by subst h; exact absurd hk (Nat.not_lt_zero _))
  have hc := strAt hat k hk
  have hk0 : (0 : Int) ≤ (k : Int) := by omega
  have hk1 : (k : Int) < (W.length : Int) := by omega
  have HF : Hid (∀ w', Below w.heap.size w w' → Calls Tryz.prog 36 #[.pointer (some ⟨b, 0, none⟩), .int .i64 131, .int .i64 (k : Int)] w' fun e w'' => e = faultP 131 line (colW W k) ∧ w' = w'') := fun w' hb => fail_any b v0 v1 line _ cw W hWc hWl hsum 131 k (by omega) w' (hv.below hb) (hw.below hb)
  have HU := Lib.hid (unword_any (W[k]'hk) (by omega) w)
  clear hpost hat hv hw
  generalize colW W k = col at *
  generalize W[k]'hk = x at *
  obtain ⟨FP, hfp⟩ : ∃ FP, faultP 131 line col = FP := ⟨_, rfl⟩
  have HFP := Lib.hid hfp
  go_enter Tryz.func59, Tryz.ntmps59
  go_upto_region 2 with (go_at_call 79; (with_reducible refine HU.out.mono ?_); intro e w1 hg; obtain ⟨s, ok, huw, rfl, hb1⟩ := hg; have HUW := Lib.hid (unwL_of huw); have HB1 := Lib.hid hb1; clear huw hb1)
  cases ok
  · unfold faultP at HF
    go_wp2_with (go_at_call 36; (with_reducible refine (HF.out _ HB1.out).mono ?_); rintro e w2 ⟨rfl, rfl⟩)
    refine ⟨rfl, ?_⟩
    rw [← HPOST.out]
    exact ⟨.inr ⟨by rw [HUW.out], rfl⟩, HB1.out⟩
  · go_wp2
    rw [← HPOST.out]
    exact ⟨.inl ⟨by rw [HUW.out], by rw [HUW.out]; rfl⟩, HB1.out⟩
end

section
open Go Go.RowKit
set_option maxRecDepth 20000
set_option linter.unusedSimpArgs false
set_option linter.unusedVariables false

def NamedPost (x : List UInt8) (taken : Bool) (line col : Int) (w : World) (e : Ending) (w' : World) : Prop :=
  ((nameT x = false ∧ e = faultP 221 line col) ∨ (nameT x = true ∧ taken = true ∧ e = faultP 52 line col) ∨ (nameT x = true ∧ taken = false ∧ e = .returned (.string ⟨x.toArray⟩))) ∧ Below w.heap.size w w'
set_option maxHeartbeats 1000000 in
theorem chTaken_any (b bb : Nat) (v0 v1 v2 v3 : Value) (R : List RCh) (hl : R.length ≤ 100000) (a : Option Addr) (cap : Nat) (s : List UInt8) (w : World) (hv : Var w b [v0, v1, v2, v3]) (hsl : [v0, v1, v2, v3][1]? = some (.slice a R.length cap)) (hbb : Var w bb [.pointer (some ⟨b, 0, none⟩)]) (hin : ListIn chCod w a R 0) :
    Calls Tryz.prog 56 #[.string ⟨s.toArray⟩, .pointer (some ⟨bb, 0, none⟩)] w fun e w' => e = .returned (.bool (R.any (fun r => r.name == s))) ∧ Below w.heap.size w w' := by
  have hmf : ∀ (fn : Fn) (first cap : Array Value) (w : World), (Instr.makeFunc fn first cap).run Tryz.prog w = .ok (.func fn first cap) w := fun _ _ _ _ => rfl
  have cbb : w.cell? ⟨bb, 0, none⟩ = some (.pointer (some ⟨b, 0, none⟩)) := hbb.cell 0 (by simp)
  have cK : w.cell? ⟨b, 1, none⟩ = some (.slice a R.length cap) := by
    have h1 := hv.cell 1 (by simp)
    rw [h1]
    rw [List.getElem?_eq_getElem (by simp)] at hsl
    exact hsl
  have ib : isOld b w = true := isOld_iff.2 hv.lt
  have ibb : isOld bb w = true := isOld_iff.2 hbb.lt
  have HIN := Lib.hid hin
  have HH : Hid (∀ b3 w', ListIn chCod w' a R 0 → w'.cell? ⟨b3, 0, none⟩ = some (.string ⟨s.toArray⟩) → Calls Tryz.prog 57 #[.slice a R.length cap, .func (.func 58) #[] #[.pointer (some ⟨b3, 0, none⟩)]] w' fun e w'' => e = .returned (.bool (R.any (fun r => r.name == s))) ∧ Below w'.heap.size w' w'') := fun b3 w' h1 h2 => chNmHas_any R hl a cap s b3 w' h1 h2
  generalize R.any (fun r => r.name == s) = A at *
  clear hv hsl hbb hin
  go_enter Tryz.func56, Tryz.ntmps56
  go_wp2_with (go_at_call 57; (with_reducible refine (HH.out _ _ (HIN.out.below (by repeat (first | exact Below.refl _ _ | assumption | refine below_grown ?_ (by first | omega | (simp [go_sem]; done) | (simp [go_sem] <;> omega)) _ | refine Below.alloc ?_ (by first | omega | (simp [go_sem]; done) | (simp [go_sem] <;> omega)) _ | refine below_bytesW ?_ (by first | omega | (simp [go_sem]; done) | (simp [go_sem] <;> omega)) _ | refine Below.drew ?_ | refine below_drewN ?_ _))) (by simp [go_sem])).mono ?_); rintro e w1 ⟨rfl, hb1⟩; obtain ⟨p1, rfl⟩ := grown_of hb1; clear hb1)
  go_ret
  exact ⟨rfl, (by repeat (first | exact Below.refl _ _ | assumption | refine below_grown ?_ (by first | omega | (simp [go_sem]; done) | (simp [go_sem] <;> omega)) _ | refine Below.alloc ?_ (by first | omega | (simp [go_sem]; done) | (simp [go_sem] <;> omega)) _ | refine below_bytesW ?_ (by first | omega | (simp [go_sem]; done) | (simp [go_sem] <;> omega)) _ | refine Below.drew ?_ | refine below_drewN ?_ _))⟩
set_option maxHeartbeats 2000000 in
theorem chNamed_any (b bb : Nat) (v0 v1 : Value) (line : Int) (aw : Option Addr) (cw : Nat) (W : List (List UInt8)) (hWc : W.length ≤ cw) (hWl : W.length ≤ 1000000) (hsum : ((W.map (fun w => w.length + 1)).sum : Nat) ≤ 1000000) (hk : 1 < W.length) (hx : (W[1]'hk).length ≤ 1000000) (R : List RCh) (hl : R.length ≤ 100000) (a : Option Addr) (cap : Nat) (w : World) (hv : Var w b [v0, v1, .int .i64 line, .slice aw W.length cw]) (hw : ListIn strCod w aw W 0) (hsl : [v0, v1, .int .i64 line, .slice aw W.length cw][1]? = some (.slice a R.length cap)) (hbb : Var w bb [.pointer (some ⟨b, 0, none⟩)]) (hin : ListIn chCod w a R 0) :
    Calls Tryz.prog 55 #[.pointer (some ⟨b, 0, none⟩), .func (.func 56) #[] #[.pointer (some ⟨bb, 0, none⟩)]] w (NamedPost (W[1]'hk) (R.any (fun r => r.name == (W[1]'hk))) line (colW W 1) w) := by
  obtain ⟨POST, hpost⟩ : ∃ POST : Ending → World → Prop, NamedPost (W[1]'hk) (R.any (fun r => r.name == (W[1]'hk))) line (colW W 1) w = POST := ⟨_, rfl⟩
  rw [hpost]
  have HPOST := Lib.hid hpost
  have c3 : w.cell? ⟨b, 3, none⟩ = some (.slice aw W.length cw) := hv.cell 3 (by simp)
  obtain ⟨g, o, rfl, _, hgw, hat⟩ := hw.resolve_left (fun h => by subst h; exact absurd hk (Nat.not_lt_zero _))
  have hc := strAt hat 1 hk
  have hk1 : (1 : Int) < (W.length : Int) := by omega
  have ib : isOld b w = true := isOld_iff.2 hv.lt
  have ig : isOld g w = true := isOld_iff.2 hgw
  have HF : Hid (∀ code w', Below w.heap.size w w' → Calls Tryz.prog 36 #[.pointer (some ⟨b, 0, none⟩), .int .i64 code, .int .i64 1] w' fun e w'' => e = faultP code line (colW W 1) ∧ w' = w'') := fun code w' hb => fail_any b v0 v1 line _ cw W hWc hWl hsum code 1 (by omega) w' (hv.below hb) (hw.below hb)
  have HT : Hid (∀ w', Below w.heap.size w w' → Calls Tryz.prog 56 #[.string ⟨(W[1]'hk).toArray⟩, .pointer (some ⟨bb, 0, none⟩)] w' fun e w'' => e = .returned (.bool (R.any (fun r => r.name == (W[1]'hk)))) ∧ Below w'.heap.size w' w'') := fun w' hb => chTaken_any b bb _ _ _ _ R hl a cap _ w' (hv.below hb) hsl (hbb.below hb) (hin.below hb)
  have HN := Lib.hid (fun w' => nameT_any (W[1]'hk) (by unfold maxLen; omega) w')
  clear hpost hat hv hw hsl hbb hin hgw
  generalize colW W 1 = col at *
  generalize R.any (fun r => r.name == (W[1]'hk)) = A at *
  generalize W[1]'hk = x at *
  unfold faultP at HF
  cases hn : nameT x
  · rw [hn] at HN
    go_enter Tryz.func55, Tryz.ntmps55
    go_wp2_with (first
      | (go_at_call 48; (with_reducible refine (HN.out _).mono ?_); rintro e w1 ⟨rfl, hb1⟩; obtain ⟨p1, rfl⟩ := grown_of hb1; clear hb1)
      | (go_at_call 36; (with_reducible refine (HF.out _ _ (by repeat (first | exact Below.refl _ _ | assumption | refine below_grown ?_ (by first | omega | (simp [go_sem]; done) | (simp [go_sem] <;> omega)) _ | refine Below.alloc ?_ (by first | omega | (simp [go_sem]; done) | (simp [go_sem] <;> omega)) _ | refine below_bytesW ?_ (by first | omega | (simp [go_sem]; done) | (simp [go_sem] <;> omega)) _ | refine Below.drew ?_ | refine below_drewN ?_ _))).mono ?_); rintro e w2 ⟨rfl, rfl⟩))
    refine ⟨rfl, ?_⟩
    rw [← HPOST.out]
    exact ⟨.inl ⟨hn, rfl⟩, (by repeat (first | exact Below.refl _ _ | assumption | refine below_grown ?_ (by first | omega | (simp [go_sem]; done) | (simp [go_sem] <;> omega)) _ | refine Below.alloc ?_ (by first | omega | (simp [go_sem]; done) | (simp [go_sem] <;> omega)) _ | refine below_bytesW ?_ (by first | omega | (simp [go_sem]; done) | (simp [go_sem] <;> omega)) _ | refine Below.drew ?_ | refine below_drewN ?_ _))⟩
  · rw [hn] at HN
    cases A
    · go_enter Tryz.func55, Tryz.ntmps55
      go_wp2_with (first
        | (go_at_call 48; (with_reducible refine (HN.out _).mono ?_); rintro e w1 ⟨rfl, hb1⟩; obtain ⟨p1, rfl⟩ := grown_of hb1; clear hb1)
        | (go_at_call 56; (with_reducible refine (HT.out _ (by repeat (first | exact Below.refl _ _ | assumption | refine below_grown ?_ (by first | omega | (simp [go_sem]; done) | (simp [go_sem] <;> omega)) _ | refine Below.alloc ?_ (by first | omega | (simp [go_sem]; done) | (simp [go_sem] <;> omega)) _ | refine below_bytesW ?_ (by first | omega | (simp [go_sem]; done) | (simp [go_sem] <;> omega)) _ | refine Below.drew ?_ | refine below_drewN ?_ _))).mono ?_); rintro e w1 ⟨rfl, hb1⟩; obtain ⟨p1, rfl⟩ := grown_of hb1; clear hb1)
        | (go_at_call 36; (with_reducible refine (HF.out _ _ (by repeat (first | exact Below.refl _ _ | assumption | refine below_grown ?_ (by first | omega | (simp [go_sem]; done) | (simp [go_sem] <;> omega)) _ | refine Below.alloc ?_ (by first | omega | (simp [go_sem]; done) | (simp [go_sem] <;> omega)) _ | refine below_bytesW ?_ (by first | omega | (simp [go_sem]; done) | (simp [go_sem] <;> omega)) _ | refine Below.drew ?_ | refine below_drewN ?_ _))).mono ?_); rintro e w2 ⟨rfl, rfl⟩))
      rw [← HPOST.out]
      exact ⟨.inr (.inr ⟨hn, rfl, rfl⟩), (by repeat (first | exact Below.refl _ _ | assumption | refine below_grown ?_ (by first | omega | (simp [go_sem]; done) | (simp [go_sem] <;> omega)) _ | refine Below.alloc ?_ (by first | omega | (simp [go_sem]; done) | (simp [go_sem] <;> omega)) _ | refine below_bytesW ?_ (by first | omega | (simp [go_sem]; done) | (simp [go_sem] <;> omega)) _ | refine Below.drew ?_ | refine below_drewN ?_ _))⟩
    · go_enter Tryz.func55, Tryz.ntmps55
      go_wp2_with (first
        | (go_at_call 48; (with_reducible refine (HN.out _).mono ?_); rintro e w1 ⟨rfl, hb1⟩; obtain ⟨p1, rfl⟩ := grown_of hb1; clear hb1)
        | (go_at_call 56; (with_reducible refine (HT.out _ (by repeat (first | exact Below.refl _ _ | assumption | refine below_grown ?_ (by first | omega | (simp [go_sem]; done) | (simp [go_sem] <;> omega)) _ | refine Below.alloc ?_ (by first | omega | (simp [go_sem]; done) | (simp [go_sem] <;> omega)) _ | refine below_bytesW ?_ (by first | omega | (simp [go_sem]; done) | (simp [go_sem] <;> omega)) _ | refine Below.drew ?_ | refine below_drewN ?_ _))).mono ?_); rintro e w1 ⟨rfl, hb1⟩; obtain ⟨p1, rfl⟩ := grown_of hb1; clear hb1)
        | (go_at_call 36; (with_reducible refine (HF.out _ _ (by repeat (first | exact Below.refl _ _ | assumption | refine below_grown ?_ (by first | omega | (simp [go_sem]; done) | (simp [go_sem] <;> omega)) _ | refine Below.alloc ?_ (by first | omega | (simp [go_sem]; done) | (simp [go_sem] <;> omega)) _ | refine below_bytesW ?_ (by first | omega | (simp [go_sem]; done) | (simp [go_sem] <;> omega)) _ | refine Below.drew ?_ | refine below_drewN ?_ _))).mono ?_); rintro e w2 ⟨rfl, rfl⟩))
      refine ⟨rfl, ?_⟩
      rw [← HPOST.out]
      exact ⟨.inr (.inl ⟨hn, rfl, rfl⟩), (by repeat (first | exact Below.refl _ _ | assumption | refine below_grown ?_ (by first | omega | (simp [go_sem]; done) | (simp [go_sem] <;> omega)) _ | refine Below.alloc ?_ (by first | omega | (simp [go_sem]; done) | (simp [go_sem] <;> omega)) _ | refine below_bytesW ?_ (by first | omega | (simp [go_sem]; done) | (simp [go_sem] <;> omega)) _ | refine Below.drew ?_ | refine below_drewN ?_ _))⟩
set_option maxHeartbeats 1000000 in
theorem ckTaken_any (b bb : Nat) (v0 v1 v2 v3 : Value) (R : List GTpl) (hl : R.length ≤ 100000) (a : Option Addr) (cap : Nat) (s : List UInt8) (w : World) (hv : Var w b [v0, v1, v2, v3]) (hsl : [v0, v1, v2, v3][0]? = some (.slice a R.length cap)) (hbb : Var w bb [.pointer (some ⟨b, 0, none⟩)]) (hin : ListIn tpCod w a R 0) :
    Calls Tryz.prog 60 #[.string ⟨s.toArray⟩, .pointer (some ⟨bb, 0, none⟩)] w fun e w' => e = .returned (.bool (R.any (fun r => r.name == s))) ∧ Below w.heap.size w w' := by
  have hmf : ∀ (fn : Fn) (first cap : Array Value) (w : World), (Instr.makeFunc fn first cap).run Tryz.prog w = .ok (.func fn first cap) w := fun _ _ _ _ => rfl
  have cbb : w.cell? ⟨bb, 0, none⟩ = some (.pointer (some ⟨b, 0, none⟩)) := hbb.cell 0 (by simp)
  have cK : w.cell? ⟨b, 0, none⟩ = some (.slice a R.length cap) := by
    have h1 := hv.cell 0 (by simp)
    rw [h1]
    rw [List.getElem?_eq_getElem (by simp)] at hsl
    exact hsl
  have ib : isOld b w = true := isOld_iff.2 hv.lt
  have ibb : isOld bb w = true := isOld_iff.2 hbb.lt
  have HIN := Lib.hid hin
  have HH : Hid (∀ b3 w', ListIn tpCod w' a R 0 → w'.cell? ⟨b3, 0, none⟩ = some (.string ⟨s.toArray⟩) → Calls Tryz.prog 61 #[.slice a R.length cap, .func (.func 62) #[] #[.pointer (some ⟨b3, 0, none⟩)]] w' fun e w'' => e = .returned (.bool (R.any (fun r => r.name == s))) ∧ Below w'.heap.size w' w'') := fun b3 w' h1 h2 => ckNmHas_any R hl a cap s b3 w' h1 h2
  generalize R.any (fun r => r.name == s) = A at *
  clear hv hsl hbb hin
  go_enter Tryz.func60, Tryz.ntmps60
  go_wp2_with (go_at_call 61; (with_reducible refine (HH.out _ _ (HIN.out.below (by repeat (first | exact Below.refl _ _ | assumption | refine below_grown ?_ (by first | omega | (simp [go_sem]; done) | (simp [go_sem] <;> omega)) _ | refine Below.alloc ?_ (by first | omega | (simp [go_sem]; done) | (simp [go_sem] <;> omega)) _ | refine below_bytesW ?_ (by first | omega | (simp [go_sem]; done) | (simp [go_sem] <;> omega)) _ | refine Below.drew ?_ | refine below_drewN ?_ _))) (by simp [go_sem])).mono ?_); rintro e w1 ⟨rfl, hb1⟩; obtain ⟨p1, rfl⟩ := grown_of hb1; clear hb1)
  go_ret
  exact ⟨rfl, (by repeat (first | exact Below.refl _ _ | assumption | refine below_grown ?_ (by first | omega | (simp [go_sem]; done) | (simp [go_sem] <;> omega)) _ | refine Below.alloc ?_ (by first | omega | (simp [go_sem]; done) | (simp [go_sem] <;> omega)) _ | refine below_bytesW ?_ (by first | omega | (simp [go_sem]; done) | (simp [go_sem] <;> omega)) _ | refine Below.drew ?_ | refine below_drewN ?_ _))⟩
set_option maxHeartbeats 2000000 in
theorem ckNamed_any (b bb : Nat) (v0 v1 : Value) (line : Int) (aw : Option Addr) (cw : Nat) (W : List (List UInt8)) (hWc : W.length ≤ cw) (hWl : W.length ≤ 1000000) (hsum : ((W.map (fun w => w.length + 1)).sum : Nat) ≤ 1000000) (hk : 1 < W.length) (hx : (W[1]'hk).length ≤ 1000000) (R : List GTpl) (hl : R.length ≤ 100000) (a : Option Addr) (cap : Nat) (w : World) (hv : Var w b [v0, v1, .int .i64 line, .slice aw W.length cw]) (hw : ListIn strCod w aw W 0) (hsl : [v0, v1, .int .i64 line, .slice aw W.length cw][0]? = some (.slice a R.length cap)) (hbb : Var w bb [.pointer (some ⟨b, 0, none⟩)]) (hin : ListIn tpCod w a R 0) :
    Calls Tryz.prog 55 #[.pointer (some ⟨b, 0, none⟩), .func (.func 60) #[] #[.pointer (some ⟨bb, 0, none⟩)]] w (NamedPost (W[1]'hk) (R.any (fun r => r.name == (W[1]'hk))) line (colW W 1) w) := by
  obtain ⟨POST, hpost⟩ : ∃ POST : Ending → World → Prop, NamedPost (W[1]'hk) (R.any (fun r => r.name == (W[1]'hk))) line (colW W 1) w = POST := ⟨_, rfl⟩
  rw [hpost]
  have HPOST := Lib.hid hpost
  have c3 : w.cell? ⟨b, 3, none⟩ = some (.slice aw W.length cw) := hv.cell 3 (by simp)
  obtain ⟨g, o, rfl, _, hgw, hat⟩ := hw.resolve_left (fun h => by subst h; exact absurd hk (Nat.not_lt_zero _))
  have hc := strAt hat 1 hk
  have hk1 : (1 : Int) < (W.length : Int) := by omega
  have ib : isOld b w = true := isOld_iff.2 hv.lt
  have ig : isOld g w = true := isOld_iff.2 hgw
  have HF : Hid (∀ code w', Below w.heap.size w w' → Calls Tryz.prog 36 #[.pointer (some ⟨b, 0, none⟩), .int .i64 code, .int .i64 1] w' fun e w'' => e = faultP code line (colW W 1) ∧ w' = w'') := fun code w' hb => fail_any b v0 v1 line _ cw W hWc hWl hsum code 1 (by omega) w' (hv.below hb) (hw.below hb)
  have HT : Hid (∀ w', Below w.heap.size w w' → Calls Tryz.prog 60 #[.string ⟨(W[1]'hk).toArray⟩, .pointer (some ⟨bb, 0, none⟩)] w' fun e w'' => e = .returned (.bool (R.any (fun r => r.name == (W[1]'hk)))) ∧ Below w'.heap.size w' w'') := fun w' hb => ckTaken_any b bb _ _ _ _ R hl a cap _ w' (hv.below hb) hsl (hbb.below hb) (hin.below hb)
  have HN := Lib.hid (fun w' => nameT_any (W[1]'hk) (by unfold maxLen; omega) w')
  clear hpost hat hv hw hsl hbb hin hgw
  generalize colW W 1 = col at *
  generalize R.any (fun r => r.name == (W[1]'hk)) = A at *
  generalize W[1]'hk = x at *
  unfold faultP at HF
  cases hn : nameT x
  · rw [hn] at HN
    go_enter Tryz.func55, Tryz.ntmps55
    go_wp2_with (first
      | (go_at_call 48; (with_reducible refine (HN.out _).mono ?_); rintro e w1 ⟨rfl, hb1⟩; obtain ⟨p1, rfl⟩ := grown_of hb1; clear hb1)
      | (go_at_call 36; (with_reducible refine (HF.out _ _ (by repeat (first | exact Below.refl _ _ | assumption | refine below_grown ?_ (by first | omega | (simp [go_sem]; done) | (simp [go_sem] <;> omega)) _ | refine Below.alloc ?_ (by first | omega | (simp [go_sem]; done) | (simp [go_sem] <;> omega)) _ | refine below_bytesW ?_ (by first | omega | (simp [go_sem]; done) | (simp [go_sem] <;> omega)) _ | refine Below.drew ?_ | refine below_drewN ?_ _))).mono ?_); rintro e w2 ⟨rfl, rfl⟩))
    refine ⟨rfl, ?_⟩
    rw [← HPOST.out]
    exact ⟨.inl ⟨hn, rfl⟩, (by repeat (first | exact Below.refl _ _ | assumption | refine below_grown ?_ (by first | omega | (simp [go_sem]; done) | (simp [go_sem] <;> omega)) _ | refine Below.alloc ?_ (by first | omega | (simp [go_sem]; done) | (simp [go_sem] <;> omega)) _ | refine below_bytesW ?_ (by first | omega | (simp [go_sem]; done) | (simp [go_sem] <;> omega)) _ | refine Below.drew ?_ | refine below_drewN ?_ _))⟩
  · rw [hn] at HN
    cases A
    · go_enter Tryz.func55, Tryz.ntmps55
      go_wp2_with (first
        | (go_at_call 48; (with_reducible refine (HN.out _).mono ?_); rintro e w1 ⟨rfl, hb1⟩; obtain ⟨p1, rfl⟩ := grown_of hb1; clear hb1)
        | (go_at_call 60; (with_reducible refine (HT.out _ (by repeat (first | exact Below.refl _ _ | assumption | refine below_grown ?_ (by first | omega | (simp [go_sem]; done) | (simp [go_sem] <;> omega)) _ | refine Below.alloc ?_ (by first | omega | (simp [go_sem]; done) | (simp [go_sem] <;> omega)) _ | refine below_bytesW ?_ (by first | omega | (simp [go_sem]; done) | (simp [go_sem] <;> omega)) _ | refine Below.drew ?_ | refine below_drewN ?_ _))).mono ?_); rintro e w1 ⟨rfl, hb1⟩; obtain ⟨p1, rfl⟩ := grown_of hb1; clear hb1)
        | (go_at_call 36; (with_reducible refine (HF.out _ _ (by repeat (first | exact Below.refl _ _ | assumption | refine below_grown ?_ (by first | omega | (simp [go_sem]; done) | (simp [go_sem] <;> omega)) _ | refine Below.alloc ?_ (by first | omega | (simp [go_sem]; done) | (simp [go_sem] <;> omega)) _ | refine below_bytesW ?_ (by first | omega | (simp [go_sem]; done) | (simp [go_sem] <;> omega)) _ | refine Below.drew ?_ | refine below_drewN ?_ _))).mono ?_); rintro e w2 ⟨rfl, rfl⟩))
      rw [← HPOST.out]
      exact ⟨.inr (.inr ⟨hn, rfl, rfl⟩), (by repeat (first | exact Below.refl _ _ | assumption | refine below_grown ?_ (by first | omega | (simp [go_sem]; done) | (simp [go_sem] <;> omega)) _ | refine Below.alloc ?_ (by first | omega | (simp [go_sem]; done) | (simp [go_sem] <;> omega)) _ | refine below_bytesW ?_ (by first | omega | (simp [go_sem]; done) | (simp [go_sem] <;> omega)) _ | refine Below.drew ?_ | refine below_drewN ?_ _))⟩
    · go_enter Tryz.func55, Tryz.ntmps55
      go_wp2_with (first
        | (go_at_call 48; (with_reducible refine (HN.out _).mono ?_); rintro e w1 ⟨rfl, hb1⟩; obtain ⟨p1, rfl⟩ := grown_of hb1; clear hb1)
        | (go_at_call 60; (with_reducible refine (HT.out _ (by repeat (first | exact Below.refl _ _ | assumption | refine below_grown ?_ (by first | omega | (simp [go_sem]; done) | (simp [go_sem] <;> omega)) _ | refine Below.alloc ?_ (by first | omega | (simp [go_sem]; done) | (simp [go_sem] <;> omega)) _ | refine below_bytesW ?_ (by first | omega | (simp [go_sem]; done) | (simp [go_sem] <;> omega)) _ | refine Below.drew ?_ | refine below_drewN ?_ _))).mono ?_); rintro e w1 ⟨rfl, hb1⟩; obtain ⟨p1, rfl⟩ := grown_of hb1; clear hb1)
        | (go_at_call 36; (with_reducible refine (HF.out _ _ (by repeat (first | exact Below.refl _ _ | assumption | refine below_grown ?_ (by first | omega | (simp [go_sem]; done) | (simp [go_sem] <;> omega)) _ | refine Below.alloc ?_ (by first | omega | (simp [go_sem]; done) | (simp [go_sem] <;> omega)) _ | refine below_bytesW ?_ (by first | omega | (simp [go_sem]; done) | (simp [go_sem] <;> omega)) _ | refine Below.drew ?_ | refine below_drewN ?_ _))).mono ?_); rintro e w2 ⟨rfl, rfl⟩))
      refine ⟨rfl, ?_⟩
      rw [← HPOST.out]
      exact ⟨.inr (.inl ⟨hn, rfl, rfl⟩), (by repeat (first | exact Below.refl _ _ | assumption | refine below_grown ?_ (by first | omega | (simp [go_sem]; done) | (simp [go_sem] <;> omega)) _ | refine Below.alloc ?_ (by first | omega | (simp [go_sem]; done) | (simp [go_sem] <;> omega)) _ | refine below_bytesW ?_ (by first | omega | (simp [go_sem]; done) | (simp [go_sem] <;> omega)) _ | refine Below.drew ?_ | refine below_drewN ?_ _))⟩
end
end Go.Proofs.YtnkckejbkbbdlaaGreatDoor
