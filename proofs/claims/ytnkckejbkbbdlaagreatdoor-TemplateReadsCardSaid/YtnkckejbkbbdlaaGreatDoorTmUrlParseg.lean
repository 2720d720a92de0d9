/- Merged: UrlParseg. -/
import Derived.Test.YtnkckejbkbbdlaaGreatDoorTmH
namespace Go.Proofs.YtnkckejbkbbdlaaGreatDoor
section
open Go Go.RowKit
set_option maxRecDepth 20000
set_option linter.unusedSimpArgs false
set_option linter.unusedVariables false

theorem parseE_cases (s : List UInt8) : (parseOk s = true ∧ parseE s = 0) ∨ (parseOk s = false ∧ parseE s = 31) := by
  unfold parseE
  cases parseOk s
  · exact .inr ⟨rfl, rfl⟩
  · exact .inl ⟨rfl, rfl⟩
theorem after_any (s f : List UInt8) (hs : s.length ≤ maxLen) (hf : f.length ≤ maxLen) (w : World) :
    Calls Tryz.prog 81 #[.string ⟨s.toArray⟩, .string ⟨f.toArray⟩] w fun e w' => e = .returned (.tuple #[.string ⟨(if afterB s f = true then s.drop f.length else s).toArray⟩, .bool (afterB s f)]) ∧ Below w.heap.size w w' := by
  have HS := Lib.hid (fun w => same_any (s.take f.length) f (by rw [List.length_take]; unfold maxLen at *; omega) hf w)
  unfold maxLen at hs hf
  by_cases h1 : (s.length : Int) < f.length
  · have e : afterB s f = false := by unfold afterB; rw [decide_eq_false (by omega)]; rfl
    rw [e, if_neg (by decide)]
    go_enter Tryz.func81, Tryz.ntmps81
    go_wp2
    go_ret2
    exact ⟨rfl, (by repeat (first | exact Below.refl _ _ | assumption | refine below_grown ?_ (by first | omega | (simp [go_sem]; done) | (simp [go_sem] <;> omega)) _ | refine Below.alloc ?_ (by first | omega | (simp [go_sem]; done) | (simp [go_sem] <;> omega)) _ | refine below_bytesW ?_ (by first | omega | (simp [go_sem]; done) | (simp [go_sem] <;> omega)) _ | refine Below.drew ?_ | refine below_drewN ?_ _))⟩
  · have e : afterB s f = sameB (s.take f.length) f := by unfold afterB; rw [decide_eq_true (by omega : f.length ≤ s.length)]; rfl
    rw [e]
    cases hb : sameB (s.take f.length) f
    all_goals
      rw [hb] at HS
      go_enter Tryz.func81, Tryz.ntmps81
      go_wp2_with (go_at_call 98; refine (HS.out _).mono ?_; rintro e w1 ⟨rfl, hb1⟩; obtain ⟨p1, rfl⟩ := grown_of hb1; clear hb1)
      go_ret2
      exact ⟨rfl, (by repeat (first | exact Below.refl _ _ | assumption | refine below_grown ?_ (by first | omega | (simp [go_sem]; done) | (simp [go_sem] <;> omega)) _ | refine Below.alloc ?_ (by first | omega | (simp [go_sem]; done) | (simp [go_sem] <;> omega)) _ | refine below_bytesW ?_ (by first | omega | (simp [go_sem]; done) | (simp [go_sem] <;> omega)) _ | refine Below.drew ?_ | refine below_drewN ?_ _))⟩
theorem hasPre_any (s p : List UInt8) (w : World) : Calls Tryz.prog 16 #[.string ⟨s.toArray⟩, .string ⟨p.toArray⟩] w fun e w' => e = .returned (.bool (Lib.hasPrefix s p)) ∧ w = w' :=
  (Tryz.strings_HasPrefix ⟨s.toArray⟩ ⟨p.toArray⟩ w).mono fun e w' ⟨h1, h2⟩ => ⟨by simpa using h1, h2.symm⟩
theorem ixByte_any (s : List UInt8) (c : UInt8) (w : World) : Calls Tryz.prog 114 #[.string ⟨s.toArray⟩, .int .u8 (c.toNat : Int)] w fun e w' => e = .returned (.int .i64 (Lib.indexByte s c)) ∧ w = w' := by
  refine (Tryz.strings_IndexByte ⟨s.toArray⟩ (c.toNat : Int) w).mono fun e w1 ⟨he, hw⟩ => ⟨?_, hw.symm⟩
  rw [he]
  simp
theorem ixByte_bd : ∀ (s : List UInt8) (c : UInt8), -1 ≤ Lib.indexByte s c ∧ Lib.indexByte s c < (s.length : Int)
  | [], c => by simp [Lib.indexByte]
  | x :: s, c => by
    have ih := ixByte_bd s c
    unfold Lib.indexByte
    simp only [List.length_cons]
    split
    · omega
    · split
      · omega
      · rename_i h
        have h' : Lib.indexByte s c ≠ -1 := by simpa using h
        omega
theorem ixAny_bd : ∀ (s cs : List UInt8), -1 ≤ Lib.indexAny s cs ∧ Lib.indexAny s cs < (s.length : Int)
  | [], c => by simp [Lib.indexAny]
  | x :: s, c => by
    have ih := ixAny_bd s c
    unfold Lib.indexAny
    simp only [List.length_cons]
    split
    · omega
    · split
      · omega
      · rename_i h
        have h' : Lib.indexAny s c ≠ -1 := by simpa using h
        omega
theorem cutHP_len (s : List UInt8) : (cutHP s).1.length ≤ s.length ∧ (cutHP s).2.length ≤ s.length := by
  unfold cutHP
  split
  · split <;> simp <;> omega
  · split <;> simp <;> omega
set_option maxHeartbeats 1000000 in
theorem parts_any (s : List UInt8) (hs : s.length ≤ 4294967000) (w : World) :
    Calls Tryz.prog 103 #[.string ⟨s.toArray⟩] w fun e w' => e = .returned (.tuple #[.string ⟨(cutHP s).1.toArray⟩, .string ⟨(cutHP s).2.toArray⟩]) ∧ Below w.heap.size w w' := by
  have HP := Lib.hid (fun w => hasPre_any s [91] w)
  have HB : Hid (∀ w, Calls Tryz.prog 114 #[.string ⟨s.toArray⟩, .int .u8 93] w fun e w' => e = .returned (.int .i64 (Lib.indexByte s 93)) ∧ w = w') := fun w => ixByte_any s 93 w
  have HC : Hid (∀ w, Calls Tryz.prog 114 #[.string ⟨s.toArray⟩, .int .u8 58] w fun e w' => e = .returned (.int .i64 (Lib.indexByte s 58)) ∧ w = w') := fun w => ixByte_any s 58 w
  have b1 := ixByte_bd s 93
  have b2 := ixByte_bd s 58
  unfold cutHP
  cases h6 : Lib.hasPrefix s [91]
  · rw [h6] at HP
    rw [if_neg (by decide)]
    by_cases h1 : 0 ≤ Lib.indexByte s 58
    · rw [if_pos h1]
      obtain ⟨k, hk⟩ : ∃ k : Nat, Lib.indexByte s 58 = k := ⟨(Lib.indexByte s 58).toNat, by omega⟩
      rw [hk] at HC b2 ⊢
      rw [Int.toNat_natCast]
      clear hk h1
      have x1 : (0 : Int) ≤ (k : Int) := by omega
      have x2 : (k : Int) ≤ s.length := by omega
      have x3 : k ≤ s.length := by omega
      go_enter Tryz.func103, Tryz.ntmps103
      go_wp2_with (first
        | (go_at_call 16; refine (HP.out _).mono ?_; intro e w' h; obtain ⟨rfl, h2⟩ := h; subst w')
        | (go_at_call 114; (with_reducible refine (HC.out _).mono ?_); intro e w' h; obtain ⟨rfl, h2⟩ := h; subst w'))
      go_region
      go_wp2
      go_ret2
      exact ⟨rfl, (by repeat (first | exact Below.refl _ _ | assumption | refine below_grown ?_ (by first | omega | (simp [go_sem]; done) | (simp [go_sem] <;> omega)) _ | refine Below.alloc ?_ (by first | omega | (simp [go_sem]; done) | (simp [go_sem] <;> omega)) _ | refine below_bytesW ?_ (by first | omega | (simp [go_sem]; done) | (simp [go_sem] <;> omega)) _ | refine Below.drew ?_ | refine below_drewN ?_ _))⟩
    · rw [if_neg h1]
      have hk : Lib.indexByte s 58 = -1 := by omega
      rw [hk] at HC
      clear hk h1
      go_enter Tryz.func103, Tryz.ntmps103
      go_wp2_with (first
        | (go_at_call 16; refine (HP.out _).mono ?_; intro e w' h; obtain ⟨rfl, h2⟩ := h; subst w')
        | (go_at_call 114; (with_reducible refine (HC.out _).mono ?_); intro e w' h; obtain ⟨rfl, h2⟩ := h; subst w'))
      go_ret2
      exact ⟨rfl, (by repeat (first | exact Below.refl _ _ | assumption | refine below_grown ?_ (by first | omega | (simp [go_sem]; done) | (simp [go_sem] <;> omega)) _ | refine Below.alloc ?_ (by first | omega | (simp [go_sem]; done) | (simp [go_sem] <;> omega)) _ | refine below_bytesW ?_ (by first | omega | (simp [go_sem]; done) | (simp [go_sem] <;> omega)) _ | refine Below.drew ?_ | refine below_drewN ?_ _))⟩
  · rw [h6] at HP
    rw [if_pos rfl]
    by_cases h1 : 0 ≤ Lib.indexByte s 93
    · rw [if_pos h1]
      obtain ⟨k, hk⟩ : ∃ k : Nat, Lib.indexByte s 93 = k := ⟨(Lib.indexByte s 93).toNat, by omega⟩
      rw [hk] at HB b1 ⊢
      rw [Int.toNat_natCast]
      clear hk h1
      have hw : IntKind.i64.wrap ((k : Int) + 1) = (k : Int) + 1 := IntWalk.i64_in _ (by omega)
      have x1 : (0 : Int) ≤ (k : Int) + 1 := by omega
      have x2 : (k : Int) + 1 ≤ s.length := by omega
      go_enter Tryz.func103, Tryz.ntmps103
      go_wp2_with (first
        | (go_at_call 16; refine (HP.out _).mono ?_; intro e w' h; obtain ⟨rfl, h2⟩ := h; subst w')
        | (go_at_call 114; (with_reducible refine (HB.out _).mono ?_); intro e w' h; obtain ⟨rfl, h2⟩ := h; subst w'))
      go_region
      go_wp2
      go_ret2
      exact ⟨rfl, (by repeat (first | exact Below.refl _ _ | assumption | refine below_grown ?_ (by first | omega | (simp [go_sem]; done) | (simp [go_sem] <;> omega)) _ | refine Below.alloc ?_ (by first | omega | (simp [go_sem]; done) | (simp [go_sem] <;> omega)) _ | refine below_bytesW ?_ (by first | omega | (simp [go_sem]; done) | (simp [go_sem] <;> omega)) _ | refine Below.drew ?_ | refine below_drewN ?_ _))⟩
    · rw [if_neg h1]
      have hk : Lib.indexByte s 93 = -1 := by omega
      rw [hk] at HB
      clear hk h1
      go_enter Tryz.func103, Tryz.ntmps103
      go_wp2_with (first
        | (go_at_call 16; refine (HP.out _).mono ?_; intro e w' h; obtain ⟨rfl, h2⟩ := h; subst w')
        | (go_at_call 114; (with_reducible refine (HB.out _).mono ?_); intro e w' h; obtain ⟨rfl, h2⟩ := h; subst w'))
      go_ret2
      exact ⟨rfl, (by repeat (first | exact Below.refl _ _ | assumption | refine below_grown ?_ (by first | omega | (simp [go_sem]; done) | (simp [go_sem] <;> omega)) _ | refine Below.alloc ?_ (by first | omega | (simp [go_sem]; done) | (simp [go_sem] <;> omega)) _ | refine below_bytesW ?_ (by first | omega | (simp [go_sem]; done) | (simp [go_sem] <;> omega)) _ | refine Below.drew ?_ | refine below_drewN ?_ _))⟩
theorem place_eq (s : List UInt8) (port : Int) : placeL s port = if parseOk (cutHP s).1 = false ∨ ((cutHP s).2 ≠ [] ∧ (cutHP s).2.headD 0 ≠ 58) then (31, zeroH, 0)
    else if (cutHP s).2 = [] then (0, parseH (cutHP s).1, port)
    else if numOk (cutHP s).2.tail = false ∨ numV (cutHP s).2.tail < 1 ∨ 65535 < numV (cutHP s).2.tail then (42, zeroH, 0)
    else (0, parseH (cutHP s).1, numV (cutHP s).2.tail) := rfl
def placeOut (x : Int × GHost × Int) : Ending := .returned (.tuple #[.agg (hostC x.2.1), .int .i64 x.2.2, .int .i64 x.1])
set_option maxHeartbeats 2000000 in
theorem place_any (s : List UInt8) (port : Int) (hs : s.length ≤ 4294967000) (m : Int) (w : World) (hm : HasMax m w) :
    Calls Tryz.prog 84 #[.string ⟨s.toArray⟩, .int .i64 port] w fun e w' => e = placeOut (placeL s port) ∧ Below w.heap.size w w' := by
  have HPT := Lib.hid (fun w => parts_any s hs w)
  have hcl := cutHP_len s
  rw [place_eq]
  generalize hN : (cutHP s).1 = N at *
  generalize hB : (cutHP s).2 = B at *
  clear hN hB
  have HPA : Hid (∀ w, HasMax m w → Calls Tryz.prog 104 #[.string ⟨N.toArray⟩] w fun e w' => e = .returned (.tuple #[.agg (hostC (parseH N)), .int .i64 (parseE N)]) ∧ Below w.heap.size w w') := fun w hm => parse_any N (by omega) m w hm
  rcases parseE_cases N with ⟨p1, p2⟩ | ⟨p1, p2⟩
  · rw [p2] at HPA
    generalize hH : parseH N = H at *
    clear p2
    cases B with
    | nil =>
      rw [if_neg (by rw [p1]; simp), if_pos rfl]
      go_enter Tryz.func84, Tryz.ntmps84
      go_wp2_with (first
        | (go_at_call 103; refine (HPT.out _).mono ?_; rintro e w1 ⟨rfl, hb1⟩; obtain ⟨p1, rfl⟩ := grown_of hb1; clear hb1)
        | (go_at_call 104; refine (HPA.out _ (by repeat (first | exact hm | apply HasMax.grown | apply HasMax.alloc | apply HasMax.drew))).mono ?_; rintro e w1 ⟨rfl, hb1⟩; obtain ⟨p1, rfl⟩ := grown_of hb1; clear hb1))
      exact ret_cell_tmp2 w.heap.size (hostC H) (.int .i64 port) (.int .i64 0) rfl rfl rfl rfl agg_host (by simp [go_sem]) (by simp [go_sem]) rfl ⟨rfl, below_setRow (by repeat (first | exact Below.refl _ _ | assumption | refine below_grown ?_ (by first | omega | (simp [go_sem]; done) | (simp [go_sem] <;> omega)) _ | refine Below.alloc ?_ (by first | omega | (simp [go_sem]; done) | (simp [go_sem] <;> omega)) _ | refine below_bytesW ?_ (by first | omega | (simp [go_sem]; done) | (simp [go_sem] <;> omega)) _ | refine Below.drew ?_ | refine below_drewN ?_ _)) (Nat.le_refl _) _⟩
    | cons c t =>
      by_cases hc : c = 58
      · subst hc
        have hlt : t.length ≤ 4294967000 := by have := hcl.2; simp at this; omega
        have HNM := Lib.hid (fun w => number_any t (by omega) w)
        rw [if_neg (by rw [p1]; simp), if_neg (by simp)]
        have et : ((58 : UInt8) :: t).tail = t := rfl
        rw [et]
        rcases (by
          cases h : numOk t
          · exact .inl rfl
          · by_cases h1 : numV t < 1
            · exact .inr (.inl ⟨rfl, h1⟩)
            · by_cases h2 : 65535 < numV t
              · exact .inr (.inr (.inl ⟨rfl, by omega, h2⟩))
              · exact .inr (.inr (.inr ⟨rfl, by omega, by omega⟩)) : numOk t = false ∨ (numOk t = true ∧ numV t < 1) ∨ (numOk t = true ∧ 1 ≤ numV t ∧ 65535 < numV t) ∨ (numOk t = true ∧ 1 ≤ numV t ∧ numV t ≤ 65535)) with h | ⟨h, h1⟩ | ⟨h, h1, h2⟩ | ⟨h, h1, h2⟩
        · rw [if_pos (.inl h)]
          rw [h] at HNM
          generalize numV t = n at *
          go_enter Tryz.func84, Tryz.ntmps84
          go_wp2_with (first
            | (go_at_call 103; refine (HPT.out _).mono ?_; rintro e w1 ⟨rfl, hb1⟩; obtain ⟨p1, rfl⟩ := grown_of hb1; clear hb1)
            | (go_at_call 104; refine (HPA.out _ (by repeat (first | exact hm | apply HasMax.grown | apply HasMax.alloc | apply HasMax.drew))).mono ?_; rintro e w1 ⟨rfl, hb1⟩; obtain ⟨p1, rfl⟩ := grown_of hb1; clear hb1)
            | (go_at_call 105; refine (HNM.out _).mono ?_; rintro e w1 ⟨rfl, hb1⟩; obtain ⟨p1, rfl⟩ := grown_of hb1; clear hb1))
          exact ret_cell_tmp2 w.heap.size (hostC zeroH) (.int .i64 0) (.int .i64 42) rfl rfl rfl rfl agg_host (by simp [go_sem]) (by simp [go_sem]) rfl ⟨rfl, below_setRow (by repeat (first | exact Below.refl _ _ | assumption | refine below_grown ?_ (by first | omega | (simp [go_sem]; done) | (simp [go_sem] <;> omega)) _ | refine Below.alloc ?_ (by first | omega | (simp [go_sem]; done) | (simp [go_sem] <;> omega)) _ | refine below_bytesW ?_ (by first | omega | (simp [go_sem]; done) | (simp [go_sem] <;> omega)) _ | refine Below.drew ?_ | refine below_drewN ?_ _)) (Nat.le_refl _) _⟩
        · rw [if_pos (.inr (.inl h1))]
          rw [h] at HNM
          generalize numV t = n at *
          go_enter Tryz.func84, Tryz.ntmps84
          go_wp2_with (first
            | (go_at_call 103; refine (HPT.out _).mono ?_; rintro e w1 ⟨rfl, hb1⟩; obtain ⟨p1, rfl⟩ := grown_of hb1; clear hb1)
            | (go_at_call 104; refine (HPA.out _ (by repeat (first | exact hm | apply HasMax.grown | apply HasMax.alloc | apply HasMax.drew))).mono ?_; rintro e w1 ⟨rfl, hb1⟩; obtain ⟨p1, rfl⟩ := grown_of hb1; clear hb1)
            | (go_at_call 105; refine (HNM.out _).mono ?_; rintro e w1 ⟨rfl, hb1⟩; obtain ⟨p1, rfl⟩ := grown_of hb1; clear hb1))
          exact ret_cell_tmp2 w.heap.size (hostC zeroH) (.int .i64 0) (.int .i64 42) rfl rfl rfl rfl agg_host (by simp [go_sem]) (by simp [go_sem]) rfl ⟨rfl, below_setRow (by repeat (first | exact Below.refl _ _ | assumption | refine below_grown ?_ (by first | omega | (simp [go_sem]; done) | (simp [go_sem] <;> omega)) _ | refine Below.alloc ?_ (by first | omega | (simp [go_sem]; done) | (simp [go_sem] <;> omega)) _ | refine below_bytesW ?_ (by first | omega | (simp [go_sem]; done) | (simp [go_sem] <;> omega)) _ | refine Below.drew ?_ | refine below_drewN ?_ _)) (Nat.le_refl _) _⟩
        · rw [if_pos (.inr (.inr h2))]
          rw [h] at HNM
          generalize numV t = n at *
          have h1' : ¬ n < 1 := by omega
          go_enter Tryz.func84, Tryz.ntmps84
          go_wp2_with (first
            | (go_at_call 103; refine (HPT.out _).mono ?_; rintro e w1 ⟨rfl, hb1⟩; obtain ⟨p1, rfl⟩ := grown_of hb1; clear hb1)
            | (go_at_call 104; refine (HPA.out _ (by repeat (first | exact hm | apply HasMax.grown | apply HasMax.alloc | apply HasMax.drew))).mono ?_; rintro e w1 ⟨rfl, hb1⟩; obtain ⟨p1, rfl⟩ := grown_of hb1; clear hb1)
            | (go_at_call 105; refine (HNM.out _).mono ?_; rintro e w1 ⟨rfl, hb1⟩; obtain ⟨p1, rfl⟩ := grown_of hb1; clear hb1))
          exact ret_cell_tmp2 w.heap.size (hostC zeroH) (.int .i64 0) (.int .i64 42) rfl rfl rfl rfl agg_host (by simp [go_sem]) (by simp [go_sem]) rfl ⟨rfl, below_setRow (by repeat (first | exact Below.refl _ _ | assumption | refine below_grown ?_ (by first | omega | (simp [go_sem]; done) | (simp [go_sem] <;> omega)) _ | refine Below.alloc ?_ (by first | omega | (simp [go_sem]; done) | (simp [go_sem] <;> omega)) _ | refine below_bytesW ?_ (by first | omega | (simp [go_sem]; done) | (simp [go_sem] <;> omega)) _ | refine Below.drew ?_ | refine below_drewN ?_ _)) (Nat.le_refl _) _⟩
        · rw [if_neg (by rw [h]; simp; omega)]
          rw [h] at HNM
          generalize numV t = n at *
          have h1' : ¬ n < 1 := by omega
          have h2' : ¬ 65535 < n := by omega
          have hwr : IntKind.i64.wrap n = n := IntWalk.i64_in _ (by omega)
          go_enter Tryz.func84, Tryz.ntmps84
          go_wp2_with (first
            | (go_at_call 103; refine (HPT.out _).mono ?_; rintro e w1 ⟨rfl, hb1⟩; obtain ⟨p1, rfl⟩ := grown_of hb1; clear hb1)
            | (go_at_call 104; refine (HPA.out _ (by repeat (first | exact hm | apply HasMax.grown | apply HasMax.alloc | apply HasMax.drew))).mono ?_; rintro e w1 ⟨rfl, hb1⟩; obtain ⟨p1, rfl⟩ := grown_of hb1; clear hb1)
            | (go_at_call 105; refine (HNM.out _).mono ?_; rintro e w1 ⟨rfl, hb1⟩; obtain ⟨p1, rfl⟩ := grown_of hb1; clear hb1))
          exact ret_cell_tmp2 w.heap.size (hostC H) (.int .i64 n) (.int .i64 0) rfl rfl rfl rfl agg_host (by simp [go_sem]) (by simp [go_sem]) rfl ⟨rfl, below_setRow (by repeat (first | exact Below.refl _ _ | assumption | refine below_grown ?_ (by first | omega | (simp [go_sem]; done) | (simp [go_sem] <;> omega)) _ | refine Below.alloc ?_ (by first | omega | (simp [go_sem]; done) | (simp [go_sem] <;> omega)) _ | refine below_bytesW ?_ (by first | omega | (simp [go_sem]; done) | (simp [go_sem] <;> omega)) _ | refine Below.drew ?_ | refine below_drewN ?_ _)) (Nat.le_refl _) _⟩
      · rw [if_pos (.inr ⟨by simp, by simpa using hc⟩)]
        have hc' : ((c.toNat : Int) != 58) = true := by rw [u8_lit_ne c 58 58 rfl]; simpa using hc
        clear hc
        go_enter Tryz.func84, Tryz.ntmps84
        go_wp2_with (first
          | (go_at_call 103; refine (HPT.out _).mono ?_; rintro e w1 ⟨rfl, hb1⟩; obtain ⟨p1, rfl⟩ := grown_of hb1; clear hb1)
          | (go_at_call 104; refine (HPA.out _ (by repeat (first | exact hm | apply HasMax.grown | apply HasMax.alloc | apply HasMax.drew))).mono ?_; rintro e w1 ⟨rfl, hb1⟩; obtain ⟨p1, rfl⟩ := grown_of hb1; clear hb1))
        exact ret_cell_tmp2 w.heap.size (hostC zeroH) (.int .i64 0) (.int .i64 31) rfl rfl rfl rfl agg_host (by simp [go_sem]) (by simp [go_sem]) rfl ⟨rfl, below_setRow (by repeat (first | exact Below.refl _ _ | assumption | refine below_grown ?_ (by first | omega | (simp [go_sem]; done) | (simp [go_sem] <;> omega)) _ | refine Below.alloc ?_ (by first | omega | (simp [go_sem]; done) | (simp [go_sem] <;> omega)) _ | refine below_bytesW ?_ (by first | omega | (simp [go_sem]; done) | (simp [go_sem] <;> omega)) _ | refine Below.drew ?_ | refine below_drewN ?_ _)) (Nat.le_refl _) _⟩
  · rw [p2] at HPA
    rw [if_pos (.inl p1)]
    generalize parseH N = H at *
    clear p1 p2
    go_enter Tryz.func84, Tryz.ntmps84
    go_wp2_with (first
      | (go_at_call 103; refine (HPT.out _).mono ?_; rintro e w1 ⟨rfl, hb1⟩; obtain ⟨p1, rfl⟩ := grown_of hb1; clear hb1)
      | (go_at_call 104; refine (HPA.out _ (by repeat (first | exact hm | apply HasMax.grown | apply HasMax.alloc | apply HasMax.drew))).mono ?_; rintro e w1 ⟨rfl, hb1⟩; obtain ⟨p1, rfl⟩ := grown_of hb1; clear hb1))
    exact ret_cell_tmp2 w.heap.size (hostC zeroH) (.int .i64 0) (.int .i64 31) rfl rfl rfl rfl agg_host (by simp [go_sem]) (by simp [go_sem]) rfl ⟨rfl, below_setRow (by repeat (first | exact Below.refl _ _ | assumption | refine below_grown ?_ (by first | omega | (simp [go_sem]; done) | (simp [go_sem] <;> omega)) _ | refine Below.alloc ?_ (by first | omega | (simp [go_sem]; done) | (simp [go_sem] <;> omega)) _ | refine below_bytesW ?_ (by first | omega | (simp [go_sem]; done) | (simp [go_sem] <;> omega)) _ | refine Below.drew ?_ | refine below_drewN ?_ _)) (Nat.le_refl _) _⟩
theorem ixAny_two (r cs : List UInt8) : (Lib.indexAny r cs = -1 ∧ r.take (cutAny r cs) = r ∧ r.drop (cutAny r cs) = []) ∨ ∃ k : Nat, Lib.indexAny r cs = k ∧ k < r.length ∧ r.take (cutAny r cs) = r.take k ∧ r.drop (cutAny r cs) = r.drop k := by
  have hb := ixAny_bd r cs
  unfold cutAny
  by_cases h : 0 ≤ Lib.indexAny r cs
  · rw [if_pos h]
    exact .inr ⟨(Lib.indexAny r cs).toNat, by omega, by omega, rfl, rfl⟩
  · rw [if_neg h]
    exact .inl ⟨by omega, List.take_length, List.drop_length⟩
theorem pathOf_nil : pathOf [] = [47] := rfl
theorem pathOf_cases (q : List UInt8) (h : 0 < q.length) : (Lib.indexAny q [63, 35] = -1 ∧ pathOf q = q) ∨ (Lib.indexAny q [63, 35] = 0 ∧ pathOf q = [47]) ∨ ∃ k : Nat, Lib.indexAny q [63, 35] = k ∧ 0 < k ∧ k < q.length ∧ pathOf q = q.take k := by
  unfold pathOf
  rcases ixAny_two q [63, 35] with ⟨h1, h2, _⟩ | ⟨k, h1, h2, h3, _⟩
  · rw [h2]
    exact .inl ⟨h1, if_neg (List.length_pos_iff.1 h)⟩
  · rw [h3]
    rcases Nat.eq_zero_or_pos k with h0 | h0
    · subst h0
      exact .inr (.inl ⟨h1, rfl⟩)
    · refine .inr (.inr ⟨k, h1, h0, h2, if_neg fun e => ?_⟩)
      have := congrArg List.length e
      rw [List.length_take, List.length_nil] at this
      omega
theorem pathOf_len (q : List UInt8) : (pathOf q).length ≤ q.length + 1 := by
  unfold pathOf
  split
  · simp
  · rw [List.length_take]; omega
theorem rest_cases (safe : Bool) (r : List UInt8) : ((placeL (r.take (cutAny r [47, 63, 35])) (usualP safe)).1 ≠ 0 ∧ outOf safe (restL safe r) = ((placeL (r.take (cutAny r [47, 63, 35])) (usualP safe)).1, false, zeroH, 0, [])) ∨
    ((placeL (r.take (cutAny r [47, 63, 35])) (usualP safe)).1 = 0 ∧ pathOk (pathOf (r.drop (cutAny r [47, 63, 35]))) = false ∧ outOf safe (restL safe r) = (43, false, zeroH, 0, [])) ∨
    ((placeL (r.take (cutAny r [47, 63, 35])) (usualP safe)).1 = 0 ∧ pathOk (pathOf (r.drop (cutAny r [47, 63, 35]))) = true ∧ outOf safe (restL safe r) = (0, safe, (placeL (r.take (cutAny r [47, 63, 35])) (usualP safe)).2.1, (placeL (r.take (cutAny r [47, 63, 35])) (usualP safe)).2.2, pathOf (r.drop (cutAny r [47, 63, 35])))) := by
  unfold restL
  dsimp only
  generalize placeL (r.take (cutAny r [47, 63, 35])) (usualP safe) = x
  generalize pathOf (r.drop (cutAny r [47, 63, 35])) = p
  by_cases h : x.1 = 0
  · rw [if_neg (by simpa using h)]
    cases hp : pathOk p
    · exact .inr (.inl ⟨h, rfl, by rw [if_pos rfl]; rfl⟩)
    · exact .inr (.inr ⟨h, rfl, by rw [if_neg (by decide)]; rfl⟩)
  · rw [if_pos h]
    exact .inl ⟨h, by unfold outOf; rw [if_neg h]⟩
def uV (x : Bool × GHost × Int × List UInt8) : Array Value := urlV x.1 x.2.1 x.2.2.1 x.2.2.2
set_option maxHeartbeats 4000000 in
theorem parseU_https (s r : List UInt8) (hs : s.length ≤ 4000000000) (hr : r.length ≤ 4294967000) (ha : afterB s httpsT = true) (hrr : s.drop 8 = r) (m : Int) (w : World) (hm : HasMax m w) :
    Calls Tryz.prog 63 #[.string ⟨s.toArray⟩] w fun e w' => e = .returned (.tuple #[.agg (uV (outOf true (restL true r)).2), .int .i64 (outOf true (restL true r)).1]) ∧ Below w.heap.size w w' := by
    have HS1 : Hid (∀ w, Calls Tryz.prog 81 #[.string ⟨s.toArray⟩, .string ⟨[104, 116, 116, 112, 115, 58, 47, 47].toArray⟩] w fun e w' => e = .returned (.tuple #[.string ⟨r.toArray⟩, .bool true]) ∧ Below w.heap.size w w') := fun w => by
      have := after_any s httpsT (by unfold maxLen; omega) (by decide) w
      rw [ha, if_pos rfl, show httpsT.length = 8 from rfl, hrr] at this
      exact this
    clear ha hrr
    have HI1 : Hid (∀ w, Calls Tryz.prog 82 #[.string ⟨r.toArray⟩, .string ⟨[47, 63, 35].toArray⟩] w fun e w' => e = .returned (.int .i64 (Lib.indexAny r [47, 63, 35])) ∧ Below w.heap.size w w') := fun w => indexAny_any r [47, 63, 35] hr (.inl rfl) w
    have HI2 : Hid (∀ w, Calls Tryz.prog 82 #[.string ⟨(r.drop (cutAny r [47, 63, 35])).toArray⟩, .string ⟨[63, 35].toArray⟩] w fun e w' => e = .returned (.int .i64 (Lib.indexAny (r.drop (cutAny r [47, 63, 35])) [63, 35])) ∧ Below w.heap.size w w') := fun w => indexAny_any (r.drop (cutAny r [47, 63, 35])) [63, 35] (by rw [List.length_drop]; omega) (.inr rfl) w
    have HU := Lib.hid (fun w => usual_any true w)
    have HPL : Hid (∀ w, HasMax m w → Calls Tryz.prog 84 #[.string ⟨(r.take (cutAny r [47, 63, 35])).toArray⟩, .int .i64 (usualP true)] w fun e w' => e = placeOut (placeL (r.take (cutAny r [47, 63, 35])) (usualP true)) ∧ Below w.heap.size w w') := fun w hm => place_any _ _ (by rw [List.length_take]; omega) m w hm
    have HPK : Hid (∀ w, Calls Tryz.prog 85 #[.string ⟨(pathOf (r.drop (cutAny r [47, 63, 35]))).toArray⟩] w fun e w' => e = .returned (.bool (pathOk (pathOf (r.drop (cutAny r [47, 63, 35]))))) ∧ Below w.heap.size w w') := fun w => urlPath_any _ (by have := pathOf_len (r.drop (cutAny r [47, 63, 35])); rw [List.length_drop] at this; unfold maxLen; omega) w
    have hO := rest_cases true r
    obtain ⟨⟨E, H, P⟩, hPLq⟩ : ∃ x, placeL (r.take (cutAny r [47, 63, 35])) (usualP true) = x := ⟨_, rfl⟩
    rw [hPLq] at HPL hO
    unfold placeOut at HPL
    dsimp only at HPL hO
    clear hPLq
    rw [show usualP true = 443 from rfl] at HPL HU
    rw [show usualT true = httpsT from rfl] at HU
    unfold httpsT at HU
    rcases ixAny_two r [47, 63, 35] with ⟨i1, hq, hp⟩ | ⟨k1, i1, hk1, hq, hp⟩
    · rw [i1] at HI1
      rw [hq] at HPL
      rw [hp] at hO HPK HI2
      rw [show Lib.indexAny [] [63, 35] = -1 from rfl] at HI2
      clear hq hp i1
      rcases hO with ⟨h0, hO⟩ | ⟨h0, hok, hO⟩ | ⟨h0, hok, hO⟩
      · rw [hO]
        have hE : (E != 0) = true := by simpa using h0
        clear hO h0
        go_enter Tryz.func63, Tryz.ntmps63
        go_wp2_with (first
          | (go_at_call 81; (with_reducible refine (HS1.out _).mono ?_); rintro e w1 ⟨rfl, hb1⟩; obtain ⟨p1, rfl⟩ := grown_of hb1; clear hb1)
          | (go_at_call 82; (with_reducible refine (HI1.out _).mono ?_); rintro e w1 ⟨rfl, hb1⟩; obtain ⟨p1, rfl⟩ := grown_of hb1; clear hb1)
          | (go_at_call 82; (with_reducible refine (HI2.out _).mono ?_); rintro e w1 ⟨rfl, hb1⟩; obtain ⟨p1, rfl⟩ := grown_of hb1; clear hb1)
          | (go_at_call 82; refine (HI2.out _).mono ?_; rintro e w1 ⟨rfl, hb1⟩; obtain ⟨p1, rfl⟩ := grown_of hb1; clear hb1)
          | (go_at_call 83; refine (HU.out _).mono ?_; intro e w' h; obtain ⟨rfl, h2⟩ := h; subst w')
          | (go_at_call 84; refine (HPL.out _ (by repeat (first | exact hm | apply HasMax.grown | apply HasMax.alloc | apply HasMax.drew))).mono ?_; rintro e w1 ⟨rfl, hb1⟩; obtain ⟨p1, rfl⟩ := grown_of hb1; clear hb1)
          | (go_at_call 85; refine (HPK.out _).mono ?_; rintro e w1 ⟨rfl, hb1⟩; obtain ⟨p1, rfl⟩ := grown_of hb1; clear hb1))
        exact ret_cell_tmp w.heap.size (urlV false zeroH 0 []) (.int .i64 E) rfl rfl rfl agg_url (by simp [go_sem]) (by simp [go_sem]) rfl ⟨rfl, below_setRow (by repeat (first | exact Below.refl _ _ | assumption | refine below_grown ?_ (by first | omega | (simp [go_sem]; done) | (simp [go_sem] <;> omega)) _ | refine Below.alloc ?_ (by first | omega | (simp [go_sem]; done) | (simp [go_sem] <;> omega)) _ | refine below_bytesW ?_ (by first | omega | (simp [go_sem]; done) | (simp [go_sem] <;> omega)) _ | refine Below.drew ?_ | refine below_drewN ?_ _)) (Nat.le_refl _) _⟩
      · rw [hO]
        subst h0
        clear hO
        rw [pathOf_nil] at hok HPK
        have HPK : Hid (∀ w, Calls Tryz.prog 85 #[.string ⟨[47].toArray⟩] w fun e w' => e = .returned (.bool false) ∧ Below w.heap.size w w') := fun w => by have := HPK.out w; rwa [hok] at this
        clear hok
        go_enter Tryz.func63, Tryz.ntmps63
        go_wp2_with (first
          | (go_at_call 81; (with_reducible refine (HS1.out _).mono ?_); rintro e w1 ⟨rfl, hb1⟩; obtain ⟨p1, rfl⟩ := grown_of hb1; clear hb1)
          | (go_at_call 82; (with_reducible refine (HI1.out _).mono ?_); rintro e w1 ⟨rfl, hb1⟩; obtain ⟨p1, rfl⟩ := grown_of hb1; clear hb1)
          | (go_at_call 82; (with_reducible refine (HI2.out _).mono ?_); rintro e w1 ⟨rfl, hb1⟩; obtain ⟨p1, rfl⟩ := grown_of hb1; clear hb1)
          | (go_at_call 82; refine (HI2.out _).mono ?_; rintro e w1 ⟨rfl, hb1⟩; obtain ⟨p1, rfl⟩ := grown_of hb1; clear hb1)
          | (go_at_call 83; refine (HU.out _).mono ?_; intro e w' h; obtain ⟨rfl, h2⟩ := h; subst w')
          | (go_at_call 84; refine (HPL.out _ (by repeat (first | exact hm | apply HasMax.grown | apply HasMax.alloc | apply HasMax.drew))).mono ?_; rintro e w1 ⟨rfl, hb1⟩; obtain ⟨p1, rfl⟩ := grown_of hb1; clear hb1)
          | (go_at_call 85; refine (HPK.out _).mono ?_; rintro e w1 ⟨rfl, hb1⟩; obtain ⟨p1, rfl⟩ := grown_of hb1; clear hb1))
        exact ret_cell_tmp w.heap.size (urlV false zeroH 0 []) (.int .i64 43) rfl rfl rfl agg_url (by simp [go_sem]) (by simp [go_sem]) rfl ⟨rfl, below_setRow (by repeat (first | exact Below.refl _ _ | assumption | refine below_grown ?_ (by first | omega | (simp [go_sem]; done) | (simp [go_sem] <;> omega)) _ | refine Below.alloc ?_ (by first | omega | (simp [go_sem]; done) | (simp [go_sem] <;> omega)) _ | refine below_bytesW ?_ (by first | omega | (simp [go_sem]; done) | (simp [go_sem] <;> omega)) _ | refine Below.drew ?_ | refine below_drewN ?_ _)) (Nat.le_refl _) _⟩
      · rw [hO]
        subst h0
        clear hO
        rw [pathOf_nil] at hok HPK ⊢
        have HPK : Hid (∀ w, Calls Tryz.prog 85 #[.string ⟨[47].toArray⟩] w fun e w' => e = .returned (.bool true) ∧ Below w.heap.size w w') := fun w => by have := HPK.out w; rwa [hok] at this
        clear hok
        go_enter Tryz.func63, Tryz.ntmps63
        go_wp2_with (first
          | (go_at_call 81; (with_reducible refine (HS1.out _).mono ?_); rintro e w1 ⟨rfl, hb1⟩; obtain ⟨p1, rfl⟩ := grown_of hb1; clear hb1)
          | (go_at_call 82; (with_reducible refine (HI1.out _).mono ?_); rintro e w1 ⟨rfl, hb1⟩; obtain ⟨p1, rfl⟩ := grown_of hb1; clear hb1)
          | (go_at_call 82; (with_reducible refine (HI2.out _).mono ?_); rintro e w1 ⟨rfl, hb1⟩; obtain ⟨p1, rfl⟩ := grown_of hb1; clear hb1)
          | (go_at_call 82; refine (HI2.out _).mono ?_; rintro e w1 ⟨rfl, hb1⟩; obtain ⟨p1, rfl⟩ := grown_of hb1; clear hb1)
          | (go_at_call 83; refine (HU.out _).mono ?_; intro e w' h; obtain ⟨rfl, h2⟩ := h; subst w')
          | (go_at_call 84; refine (HPL.out _ (by repeat (first | exact hm | apply HasMax.grown | apply HasMax.alloc | apply HasMax.drew))).mono ?_; rintro e w1 ⟨rfl, hb1⟩; obtain ⟨p1, rfl⟩ := grown_of hb1; clear hb1)
          | (go_at_call 85; refine (HPK.out _).mono ?_; rintro e w1 ⟨rfl, hb1⟩; obtain ⟨p1, rfl⟩ := grown_of hb1; clear hb1))
        exact ret_cell_tmp w.heap.size (urlV true H P [47]) (.int .i64 0) rfl rfl rfl agg_url (by simp [go_sem]) (by simp [go_sem]) rfl ⟨rfl, below_setRow (by repeat (first | exact Below.refl _ _ | assumption | refine below_grown ?_ (by first | omega | (simp [go_sem]; done) | (simp [go_sem] <;> omega)) _ | refine Below.alloc ?_ (by first | omega | (simp [go_sem]; done) | (simp [go_sem] <;> omega)) _ | refine below_bytesW ?_ (by first | omega | (simp [go_sem]; done) | (simp [go_sem] <;> omega)) _ | refine Below.drew ?_ | refine below_drewN ?_ _)) (Nat.le_refl _) _⟩
    · rw [i1] at HI1
      rw [hq] at HPL
      rw [hp] at hO HPK HI2
      have x1 : (0 : Int) ≤ (k1 : Int) := by omega
      have x2 : (k1 : Int) ≤ r.length := by omega
      have hql : 0 < (r.drop k1).length := by rw [List.length_drop]; omega
      clear hq hp i1
      generalize hqq : r.drop k1 = q at *
      rcases hO with ⟨h0, hO⟩ | ⟨h0, hok, hO⟩ | ⟨h0, hok, hO⟩
      · rw [hO]
        have hE : (E != 0) = true := by simpa using h0
        clear hO h0
        go_enter Tryz.func63, Tryz.ntmps63
        go_wp2_with (first
          | (go_at_call 81; (with_reducible refine (HS1.out _).mono ?_); rintro e w1 ⟨rfl, hb1⟩; obtain ⟨p1, rfl⟩ := grown_of hb1; clear hb1)
          | (go_at_call 82; (with_reducible refine (HI1.out _).mono ?_); rintro e w1 ⟨rfl, hb1⟩; obtain ⟨p1, rfl⟩ := grown_of hb1; clear hb1)
          | (go_at_call 82; (with_reducible refine (HI2.out _).mono ?_); rintro e w1 ⟨rfl, hb1⟩; obtain ⟨p1, rfl⟩ := grown_of hb1; clear hb1)
          | (go_at_call 82; refine (HI2.out _).mono ?_; rintro e w1 ⟨rfl, hb1⟩; obtain ⟨p1, rfl⟩ := grown_of hb1; clear hb1)
          | (go_at_call 83; refine (HU.out _).mono ?_; intro e w' h; obtain ⟨rfl, h2⟩ := h; subst w')
          | (go_at_call 84; refine (HPL.out _ (by repeat (first | exact hm | apply HasMax.grown | apply HasMax.alloc | apply HasMax.drew))).mono ?_; rintro e w1 ⟨rfl, hb1⟩; obtain ⟨p1, rfl⟩ := grown_of hb1; clear hb1)
          | (go_at_call 85; refine (HPK.out _).mono ?_; rintro e w1 ⟨rfl, hb1⟩; obtain ⟨p1, rfl⟩ := grown_of hb1; clear hb1))
        exact ret_cell_tmp w.heap.size (urlV false zeroH 0 []) (.int .i64 E) rfl rfl rfl agg_url (by simp [go_sem]) (by simp [go_sem]) rfl ⟨rfl, below_setRow (by repeat (first | exact Below.refl _ _ | assumption | refine below_grown ?_ (by first | omega | (simp [go_sem]; done) | (simp [go_sem] <;> omega)) _ | refine Below.alloc ?_ (by first | omega | (simp [go_sem]; done) | (simp [go_sem] <;> omega)) _ | refine below_bytesW ?_ (by first | omega | (simp [go_sem]; done) | (simp [go_sem] <;> omega)) _ | refine Below.drew ?_ | refine below_drewN ?_ _)) (Nat.le_refl _) _⟩
      · rw [hO]
        subst h0
        clear hO
        rcases pathOf_cases q (by omega : 0 < q.length) with ⟨i2, e⟩ | ⟨i2, e⟩ | ⟨k2, i2, h2, h3, e⟩
        · rw [e] at hok HPK
          rw [i2] at HI2
          have HPK : Hid (∀ w, Calls Tryz.prog 85 #[.string ⟨q.toArray⟩] w fun e w' => e = .returned (.bool false) ∧ Below w.heap.size w w') := fun w => by have := HPK.out w; rwa [hok] at this
          have hqe : q.isEmpty = false := by rw [List.isEmpty_eq_false_iff]; exact List.length_pos_iff.1 (by omega)
          have hqe2 : (q == []) = false := by rw [beq_eq_false_iff_ne]; exact List.length_pos_iff.1 (by omega)
          clear hok e
          go_enter Tryz.func63, Tryz.ntmps63
          go_wp2_with (first
            | (go_at_call 81; (with_reducible refine (HS1.out _).mono ?_); rintro e w1 ⟨rfl, hb1⟩; obtain ⟨p1, rfl⟩ := grown_of hb1; clear hb1)
            | (go_at_call 82; (with_reducible refine (HI1.out _).mono ?_); rintro e w1 ⟨rfl, hb1⟩; obtain ⟨p1, rfl⟩ := grown_of hb1; clear hb1)
            | (go_at_call 82; (with_reducible refine (HI2.out _).mono ?_); rintro e w1 ⟨rfl, hb1⟩; obtain ⟨p1, rfl⟩ := grown_of hb1; clear hb1)
            | (go_at_call 82; refine (HI2.out _).mono ?_; rintro e w1 ⟨rfl, hb1⟩; obtain ⟨p1, rfl⟩ := grown_of hb1; clear hb1)
            | (go_at_call 83; refine (HU.out _).mono ?_; intro e w' h; obtain ⟨rfl, h2⟩ := h; subst w')
            | (go_at_call 84; refine (HPL.out _ (by repeat (first | exact hm | apply HasMax.grown | apply HasMax.alloc | apply HasMax.drew))).mono ?_; rintro e w1 ⟨rfl, hb1⟩; obtain ⟨p1, rfl⟩ := grown_of hb1; clear hb1)
            | (go_at_call 85; refine (HPK.out _).mono ?_; rintro e w1 ⟨rfl, hb1⟩; obtain ⟨p1, rfl⟩ := grown_of hb1; clear hb1))
          exact ret_cell_tmp w.heap.size (urlV false zeroH 0 []) (.int .i64 43) rfl rfl rfl agg_url (by simp [go_sem]) (by simp [go_sem]) rfl ⟨rfl, below_setRow (by repeat (first | exact Below.refl _ _ | assumption | refine below_grown ?_ (by first | omega | (simp [go_sem]; done) | (simp [go_sem] <;> omega)) _ | refine Below.alloc ?_ (by first | omega | (simp [go_sem]; done) | (simp [go_sem] <;> omega)) _ | refine below_bytesW ?_ (by first | omega | (simp [go_sem]; done) | (simp [go_sem] <;> omega)) _ | refine Below.drew ?_ | refine below_drewN ?_ _)) (Nat.le_refl _) _⟩
        · rw [e] at hok HPK
          rw [i2] at HI2
          have HPK : Hid (∀ w, Calls Tryz.prog 85 #[.string ⟨[47].toArray⟩] w fun e w' => e = .returned (.bool false) ∧ Below w.heap.size w w') := fun w => by have := HPK.out w; rwa [hok] at this
          clear hok e
          go_enter Tryz.func63, Tryz.ntmps63
          go_wp2_with (first
            | (go_at_call 81; (with_reducible refine (HS1.out _).mono ?_); rintro e w1 ⟨rfl, hb1⟩; obtain ⟨p1, rfl⟩ := grown_of hb1; clear hb1)
            | (go_at_call 82; (with_reducible refine (HI1.out _).mono ?_); rintro e w1 ⟨rfl, hb1⟩; obtain ⟨p1, rfl⟩ := grown_of hb1; clear hb1)
            | (go_at_call 82; (with_reducible refine (HI2.out _).mono ?_); rintro e w1 ⟨rfl, hb1⟩; obtain ⟨p1, rfl⟩ := grown_of hb1; clear hb1)
            | (go_at_call 82; refine (HI2.out _).mono ?_; rintro e w1 ⟨rfl, hb1⟩; obtain ⟨p1, rfl⟩ := grown_of hb1; clear hb1)
            | (go_at_call 83; refine (HU.out _).mono ?_; intro e w' h; obtain ⟨rfl, h2⟩ := h; subst w')
            | (go_at_call 84; refine (HPL.out _ (by repeat (first | exact hm | apply HasMax.grown | apply HasMax.alloc | apply HasMax.drew))).mono ?_; rintro e w1 ⟨rfl, hb1⟩; obtain ⟨p1, rfl⟩ := grown_of hb1; clear hb1)
            | (go_at_call 85; refine (HPK.out _).mono ?_; rintro e w1 ⟨rfl, hb1⟩; obtain ⟨p1, rfl⟩ := grown_of hb1; clear hb1))
          exact ret_cell_tmp w.heap.size (urlV false zeroH 0 []) (.int .i64 43) rfl rfl rfl agg_url (by simp [go_sem]) (by simp [go_sem]) rfl ⟨rfl, below_setRow (by repeat (first | exact Below.refl _ _ | assumption | refine below_grown ?_ (by first | omega | (simp [go_sem]; done) | (simp [go_sem] <;> omega)) _ | refine Below.alloc ?_ (by first | omega | (simp [go_sem]; done) | (simp [go_sem] <;> omega)) _ | refine below_bytesW ?_ (by first | omega | (simp [go_sem]; done) | (simp [go_sem] <;> omega)) _ | refine Below.drew ?_ | refine below_drewN ?_ _)) (Nat.le_refl _) _⟩
        · rw [e] at hok HPK
          rw [i2] at HI2
          have HPK : Hid (∀ w, Calls Tryz.prog 85 #[.string ⟨(q.take k2).toArray⟩] w fun e w' => e = .returned (.bool false) ∧ Below w.heap.size w w') := fun w => by have := HPK.out w; rwa [hok] at this
          have hqe : (q.take k2).isEmpty = false := by rw [List.isEmpty_eq_false_iff]; intro e'; have := congrArg List.length e'; rw [List.length_take, List.length_nil] at this; omega
          have hqe2 : (q.take k2 == []) = false := by rw [beq_eq_false_iff_ne]; intro e'; have := congrArg List.length e'; rw [List.length_take, List.length_nil] at this; omega
          have y1 : (0 : Int) ≤ (k2 : Int) := by omega
          have y2 : (k2 : Int) ≤ q.length := by omega
          clear hok e
          go_enter Tryz.func63, Tryz.ntmps63
          go_wp2_with (first
            | (go_at_call 81; (with_reducible refine (HS1.out _).mono ?_); rintro e w1 ⟨rfl, hb1⟩; obtain ⟨p1, rfl⟩ := grown_of hb1; clear hb1)
            | (go_at_call 82; (with_reducible refine (HI1.out _).mono ?_); rintro e w1 ⟨rfl, hb1⟩; obtain ⟨p1, rfl⟩ := grown_of hb1; clear hb1)
            | (go_at_call 82; (with_reducible refine (HI2.out _).mono ?_); rintro e w1 ⟨rfl, hb1⟩; obtain ⟨p1, rfl⟩ := grown_of hb1; clear hb1)
            | (go_at_call 82; refine (HI2.out _).mono ?_; rintro e w1 ⟨rfl, hb1⟩; obtain ⟨p1, rfl⟩ := grown_of hb1; clear hb1)
            | (go_at_call 83; refine (HU.out _).mono ?_; intro e w' h; obtain ⟨rfl, h2⟩ := h; subst w')
            | (go_at_call 84; refine (HPL.out _ (by repeat (first | exact hm | apply HasMax.grown | apply HasMax.alloc | apply HasMax.drew))).mono ?_; rintro e w1 ⟨rfl, hb1⟩; obtain ⟨p1, rfl⟩ := grown_of hb1; clear hb1)
            | (go_at_call 85; refine (HPK.out _).mono ?_; rintro e w1 ⟨rfl, hb1⟩; obtain ⟨p1, rfl⟩ := grown_of hb1; clear hb1))
          exact ret_cell_tmp w.heap.size (urlV false zeroH 0 []) (.int .i64 43) rfl rfl rfl agg_url (by simp [go_sem]) (by simp [go_sem]) rfl ⟨rfl, below_setRow (by repeat (first | exact Below.refl _ _ | assumption | refine below_grown ?_ (by first | omega | (simp [go_sem]; done) | (simp [go_sem] <;> omega)) _ | refine Below.alloc ?_ (by first | omega | (simp [go_sem]; done) | (simp [go_sem] <;> omega)) _ | refine below_bytesW ?_ (by first | omega | (simp [go_sem]; done) | (simp [go_sem] <;> omega)) _ | refine Below.drew ?_ | refine below_drewN ?_ _)) (Nat.le_refl _) _⟩
      · rw [hO]
        subst h0
        clear hO
        rcases pathOf_cases q (by omega : 0 < q.length) with ⟨i2, e⟩ | ⟨i2, e⟩ | ⟨k2, i2, h2, h3, e⟩
        · rw [e] at hok HPK ⊢
          rw [i2] at HI2
          have HPK : Hid (∀ w, Calls Tryz.prog 85 #[.string ⟨q.toArray⟩] w fun e w' => e = .returned (.bool true) ∧ Below w.heap.size w w') := fun w => by have := HPK.out w; rwa [hok] at this
          have hqe : q.isEmpty = false := by rw [List.isEmpty_eq_false_iff]; exact List.length_pos_iff.1 (by omega)
          have hqe2 : (q == []) = false := by rw [beq_eq_false_iff_ne]; exact List.length_pos_iff.1 (by omega)
          clear hok e
          go_enter Tryz.func63, Tryz.ntmps63
          go_wp2_with (first
            | (go_at_call 81; (with_reducible refine (HS1.out _).mono ?_); rintro e w1 ⟨rfl, hb1⟩; obtain ⟨p1, rfl⟩ := grown_of hb1; clear hb1)
            | (go_at_call 82; (with_reducible refine (HI1.out _).mono ?_); rintro e w1 ⟨rfl, hb1⟩; obtain ⟨p1, rfl⟩ := grown_of hb1; clear hb1)
            | (go_at_call 82; (with_reducible refine (HI2.out _).mono ?_); rintro e w1 ⟨rfl, hb1⟩; obtain ⟨p1, rfl⟩ := grown_of hb1; clear hb1)
            | (go_at_call 82; refine (HI2.out _).mono ?_; rintro e w1 ⟨rfl, hb1⟩; obtain ⟨p1, rfl⟩ := grown_of hb1; clear hb1)
            | (go_at_call 83; refine (HU.out _).mono ?_; intro e w' h; obtain ⟨rfl, h2⟩ := h; subst w')
            | (go_at_call 84; refine (HPL.out _ (by repeat (first | exact hm | apply HasMax.grown | apply HasMax.alloc | apply HasMax.drew))).mono ?_; rintro e w1 ⟨rfl, hb1⟩; obtain ⟨p1, rfl⟩ := grown_of hb1; clear hb1)
            | (go_at_call 85; refine (HPK.out _).mono ?_; rintro e w1 ⟨rfl, hb1⟩; obtain ⟨p1, rfl⟩ := grown_of hb1; clear hb1))
          exact ret_cell_tmp w.heap.size (urlV true H P q) (.int .i64 0) rfl rfl rfl agg_url (by simp [go_sem]) (by simp [go_sem]) rfl ⟨rfl, below_setRow (by repeat (first | exact Below.refl _ _ | assumption | refine below_grown ?_ (by first | omega | (simp [go_sem]; done) | (simp [go_sem] <;> omega)) _ | refine Below.alloc ?_ (by first | omega | (simp [go_sem]; done) | (simp [go_sem] <;> omega)) _ | refine below_bytesW ?_ (by first | omega | (simp [go_sem]; done) | (simp [go_sem] <;> omega)) _ | refine Below.drew ?_ | refine below_drewN ?_ _)) (Nat.le_refl _) _⟩
        · rw [e] at hok HPK ⊢
          rw [i2] at HI2
          have HPK : Hid (∀ w, Calls Tryz.prog 85 #[.string ⟨[47].toArray⟩] w fun e w' => e = .returned (.bool true) ∧ Below w.heap.size w w') := fun w => by have := HPK.out w; rwa [hok] at this
          clear hok e
          go_enter Tryz.func63, Tryz.ntmps63
          go_wp2_with (first
            | (go_at_call 81; (with_reducible refine (HS1.out _).mono ?_); rintro e w1 ⟨rfl, hb1⟩; obtain ⟨p1, rfl⟩ := grown_of hb1; clear hb1)
            | (go_at_call 82; (with_reducible refine (HI1.out _).mono ?_); rintro e w1 ⟨rfl, hb1⟩; obtain ⟨p1, rfl⟩ := grown_of hb1; clear hb1)
            | (go_at_call 82; (with_reducible refine (HI2.out _).mono ?_); rintro e w1 ⟨rfl, hb1⟩; obtain ⟨p1, rfl⟩ := grown_of hb1; clear hb1)
            | (go_at_call 82; refine (HI2.out _).mono ?_; rintro e w1 ⟨rfl, hb1⟩; obtain ⟨p1, rfl⟩ := grown_of hb1; clear hb1)
            | (go_at_call 83; refine (HU.out _).mono ?_; intro e w' h; obtain ⟨rfl, h2⟩ := h; subst w')
            | (go_at_call 84; refine (HPL.out _ (by repeat (first | exact hm | apply HasMax.grown | apply HasMax.alloc | apply HasMax.drew))).mono ?_; rintro e w1 ⟨rfl, hb1⟩; obtain ⟨p1, rfl⟩ := grown_of hb1; clear hb1)
            | (go_at_call 85; refine (HPK.out _).mono ?_; rintro e w1 ⟨rfl, hb1⟩; obtain ⟨p1, rfl⟩ := grown_of hb1; clear hb1))
          exact ret_cell_tmp w.heap.size (urlV true H P [47]) (.int .i64 0) rfl rfl rfl agg_url (by simp [go_sem]) (by simp [go_sem]) rfl ⟨rfl, below_setRow (by repeat (first | exact Below.refl _ _ | assumption | refine below_grown ?_ (by first | omega | (simp [go_sem]; done) | (simp [go_sem] <;> omega)) _ | refine Below.alloc ?_ (by first | omega | (simp [go_sem]; done) | (simp [go_sem] <;> omega)) _ | refine below_bytesW ?_ (by first | omega | (simp [go_sem]; done) | (simp [go_sem] <;> omega)) _ | refine Below.drew ?_ | refine below_drewN ?_ _)) (Nat.le_refl _) _⟩
        · rw [e] at hok HPK ⊢
          rw [i2] at HI2
          have HPK : Hid (∀ w, Calls Tryz.prog 85 #[.string ⟨(q.take k2).toArray⟩] w fun e w' => e = .returned (.bool true) ∧ Below w.heap.size w w') := fun w => by have := HPK.out w; rwa [hok] at this
          have hqe : (q.take k2).isEmpty = false := by rw [List.isEmpty_eq_false_iff]; intro e'; have := congrArg List.length e'; rw [List.length_take, List.length_nil] at this; omega
          have hqe2 : (q.take k2 == []) = false := by rw [beq_eq_false_iff_ne]; intro e'; have := congrArg List.length e'; rw [List.length_take, List.length_nil] at this; omega
          have y1 : (0 : Int) ≤ (k2 : Int) := by omega
          have y2 : (k2 : Int) ≤ q.length := by omega
          clear hok e
          go_enter Tryz.func63, Tryz.ntmps63
          go_wp2_with (first
            | (go_at_call 81; (with_reducible refine (HS1.out _).mono ?_); rintro e w1 ⟨rfl, hb1⟩; obtain ⟨p1, rfl⟩ := grown_of hb1; clear hb1)
            | (go_at_call 82; (with_reducible refine (HI1.out _).mono ?_); rintro e w1 ⟨rfl, hb1⟩; obtain ⟨p1, rfl⟩ := grown_of hb1; clear hb1)
            | (go_at_call 82; (with_reducible refine (HI2.out _).mono ?_); rintro e w1 ⟨rfl, hb1⟩; obtain ⟨p1, rfl⟩ := grown_of hb1; clear hb1)
            | (go_at_call 82; refine (HI2.out _).mono ?_; rintro e w1 ⟨rfl, hb1⟩; obtain ⟨p1, rfl⟩ := grown_of hb1; clear hb1)
            | (go_at_call 83; refine (HU.out _).mono ?_; intro e w' h; obtain ⟨rfl, h2⟩ := h; subst w')
            | (go_at_call 84; refine (HPL.out _ (by repeat (first | exact hm | apply HasMax.grown | apply HasMax.alloc | apply HasMax.drew))).mono ?_; rintro e w1 ⟨rfl, hb1⟩; obtain ⟨p1, rfl⟩ := grown_of hb1; clear hb1)
            | (go_at_call 85; refine (HPK.out _).mono ?_; rintro e w1 ⟨rfl, hb1⟩; obtain ⟨p1, rfl⟩ := grown_of hb1; clear hb1))
          exact ret_cell_tmp w.heap.size (urlV true H P (q.take k2)) (.int .i64 0) rfl rfl rfl agg_url (by simp [go_sem]) (by simp [go_sem]) rfl ⟨rfl, below_setRow (by repeat (first | exact Below.refl _ _ | assumption | refine below_grown ?_ (by first | omega | (simp [go_sem]; done) | (simp [go_sem] <;> omega)) _ | refine Below.alloc ?_ (by first | omega | (simp [go_sem]; done) | (simp [go_sem] <;> omega)) _ | refine below_bytesW ?_ (by first | omega | (simp [go_sem]; done) | (simp [go_sem] <;> omega)) _ | refine Below.drew ?_ | refine below_drewN ?_ _)) (Nat.le_refl _) _⟩
set_option maxHeartbeats 4000000 in
theorem parseU_http (s r : List UInt8) (hs : s.length ≤ 4000000000) (hr : r.length ≤ 4294967000) (ha : afterB s httpsT = false) (hb : afterB s httpT = true) (hrr : s.drop 7 = r) (m : Int) (w : World) (hm : HasMax m w) :
    Calls Tryz.prog 63 #[.string ⟨s.toArray⟩] w fun e w' => e = .returned (.tuple #[.agg (uV (outOf false (restL false r)).2), .int .i64 (outOf false (restL false r)).1]) ∧ Below w.heap.size w w' := by
    have HS1 : Hid (∀ w, Calls Tryz.prog 81 #[.string ⟨s.toArray⟩, .string ⟨[104, 116, 116, 112, 115, 58, 47, 47].toArray⟩] w fun e w' => e = .returned (.tuple #[.string ⟨s.toArray⟩, .bool false]) ∧ Below w.heap.size w w') := fun w => by
      have := after_any s httpsT (by unfold maxLen; omega) (by decide) w
      rw [ha, if_neg (by decide)] at this
      exact this
    have HS2 : Hid (∀ w, Calls Tryz.prog 81 #[.string ⟨s.toArray⟩, .string ⟨[104, 116, 116, 112, 58, 47, 47].toArray⟩] w fun e w' => e = .returned (.tuple #[.string ⟨r.toArray⟩, .bool true]) ∧ Below w.heap.size w w') := fun w => by
      have := after_any s httpT (by unfold maxLen; omega) (by decide) w
      rw [hb, if_pos rfl, show httpT.length = 7 from rfl, hrr] at this
      exact this
    clear ha hb hrr
    have HI1 : Hid (∀ w, Calls Tryz.prog 82 #[.string ⟨r.toArray⟩, .string ⟨[47, 63, 35].toArray⟩] w fun e w' => e = .returned (.int .i64 (Lib.indexAny r [47, 63, 35])) ∧ Below w.heap.size w w') := fun w => indexAny_any r [47, 63, 35] hr (.inl rfl) w
    have HI2 : Hid (∀ w, Calls Tryz.prog 82 #[.string ⟨(r.drop (cutAny r [47, 63, 35])).toArray⟩, .string ⟨[63, 35].toArray⟩] w fun e w' => e = .returned (.int .i64 (Lib.indexAny (r.drop (cutAny r [47, 63, 35])) [63, 35])) ∧ Below w.heap.size w w') := fun w => indexAny_any (r.drop (cutAny r [47, 63, 35])) [63, 35] (by rw [List.length_drop]; omega) (.inr rfl) w
    have HU := Lib.hid (fun w => usual_any false w)
    have HPL : Hid (∀ w, HasMax m w → Calls Tryz.prog 84 #[.string ⟨(r.take (cutAny r [47, 63, 35])).toArray⟩, .int .i64 (usualP false)] w fun e w' => e = placeOut (placeL (r.take (cutAny r [47, 63, 35])) (usualP false)) ∧ Below w.heap.size w w') := fun w hm => place_any _ _ (by rw [List.length_take]; omega) m w hm
    have HPK : Hid (∀ w, Calls Tryz.prog 85 #[.string ⟨(pathOf (r.drop (cutAny r [47, 63, 35]))).toArray⟩] w fun e w' => e = .returned (.bool (pathOk (pathOf (r.drop (cutAny r [47, 63, 35]))))) ∧ Below w.heap.size w w') := fun w => urlPath_any _ (by have := pathOf_len (r.drop (cutAny r [47, 63, 35])); rw [List.length_drop] at this; unfold maxLen; omega) w
    have hO := rest_cases false r
    obtain ⟨⟨E, H, P⟩, hPLq⟩ : ∃ x, placeL (r.take (cutAny r [47, 63, 35])) (usualP false) = x := ⟨_, rfl⟩
    rw [hPLq] at HPL hO
    unfold placeOut at HPL
    dsimp only at HPL hO
    clear hPLq
    rw [show usualP false = 80 from rfl] at HPL HU
    rw [show usualT false = httpT from rfl] at HU
    unfold httpT at HU
    rcases ixAny_two r [47, 63, 35] with ⟨i1, hq, hp⟩ | ⟨k1, i1, hk1, hq, hp⟩
    · rw [i1] at HI1
      rw [hq] at HPL
      rw [hp] at hO HPK HI2
      rw [show Lib.indexAny [] [63, 35] = -1 from rfl] at HI2
      clear hq hp i1
      rcases hO with ⟨h0, hO⟩ | ⟨h0, hok, hO⟩ | ⟨h0, hok, hO⟩
      · rw [hO]
        have hE : (E != 0) = true := by simpa using h0
        clear hO h0
        go_enter Tryz.func63, Tryz.ntmps63
        go_wp2_with (first
          | (go_at_call 81; (with_reducible refine (HS1.out _).mono ?_); rintro e w1 ⟨rfl, hb1⟩; obtain ⟨p1, rfl⟩ := grown_of hb1; clear hb1)
          | (go_at_call 81; (with_reducible refine (HS2.out _).mono ?_); rintro e w1 ⟨rfl, hb1⟩; obtain ⟨p1, rfl⟩ := grown_of hb1; clear hb1)
          | (go_at_call 82; (with_reducible refine (HI1.out _).mono ?_); rintro e w1 ⟨rfl, hb1⟩; obtain ⟨p1, rfl⟩ := grown_of hb1; clear hb1)
          | (go_at_call 82; (with_reducible refine (HI2.out _).mono ?_); rintro e w1 ⟨rfl, hb1⟩; obtain ⟨p1, rfl⟩ := grown_of hb1; clear hb1)
          | (go_at_call 82; refine (HI2.out _).mono ?_; rintro e w1 ⟨rfl, hb1⟩; obtain ⟨p1, rfl⟩ := grown_of hb1; clear hb1)
          | (go_at_call 83; refine (HU.out _).mono ?_; intro e w' h; obtain ⟨rfl, h2⟩ := h; subst w')
          | (go_at_call 84; refine (HPL.out _ (by repeat (first | exact hm | apply HasMax.grown | apply HasMax.alloc | apply HasMax.drew))).mono ?_; rintro e w1 ⟨rfl, hb1⟩; obtain ⟨p1, rfl⟩ := grown_of hb1; clear hb1)
          | (go_at_call 85; refine (HPK.out _).mono ?_; rintro e w1 ⟨rfl, hb1⟩; obtain ⟨p1, rfl⟩ := grown_of hb1; clear hb1))
        exact ret_cell_tmp w.heap.size (urlV false zeroH 0 []) (.int .i64 E) rfl rfl rfl agg_url (by simp [go_sem]) (by simp [go_sem]) rfl ⟨rfl, below_setRow (by repeat (first | exact Below.refl _ _ | assumption | refine below_grown ?_ (by first | omega | (simp [go_sem]; done) | (simp [go_sem] <;> omega)) _ | refine Below.alloc ?_ (by first | omega | (simp [go_sem]; done) | (simp [go_sem] <;> omega)) _ | refine below_bytesW ?_ (by first | omega | (simp [go_sem]; done) | (simp [go_sem] <;> omega)) _ | refine Below.drew ?_ | refine below_drewN ?_ _)) (Nat.le_refl _) _⟩
      · rw [hO]
        subst h0
        clear hO
        rw [pathOf_nil] at hok HPK
        have HPK : Hid (∀ w, Calls Tryz.prog 85 #[.string ⟨[47].toArray⟩] w fun e w' => e = .returned (.bool false) ∧ Below w.heap.size w w') := fun w => by have := HPK.out w; rwa [hok] at this
        clear hok
        go_enter Tryz.func63, Tryz.ntmps63
        go_wp2_with (first
          | (go_at_call 81; (with_reducible refine (HS1.out _).mono ?_); rintro e w1 ⟨rfl, hb1⟩; obtain ⟨p1, rfl⟩ := grown_of hb1; clear hb1)
          | (go_at_call 81; (with_reducible refine (HS2.out _).mono ?_); rintro e w1 ⟨rfl, hb1⟩; obtain ⟨p1, rfl⟩ := grown_of hb1; clear hb1)
          | (go_at_call 82; (with_reducible refine (HI1.out _).mono ?_); rintro e w1 ⟨rfl, hb1⟩; obtain ⟨p1, rfl⟩ := grown_of hb1; clear hb1)
          | (go_at_call 82; (with_reducible refine (HI2.out _).mono ?_); rintro e w1 ⟨rfl, hb1⟩; obtain ⟨p1, rfl⟩ := grown_of hb1; clear hb1)
          | (go_at_call 82; refine (HI2.out _).mono ?_; rintro e w1 ⟨rfl, hb1⟩; obtain ⟨p1, rfl⟩ := grown_of hb1; clear hb1)
          | (go_at_call 83; refine (HU.out _).mono ?_; intro e w' h; obtain ⟨rfl, h2⟩ := h; subst w')
          | (go_at_call 84; refine (HPL.out _ (by repeat (first | exact hm | apply HasMax.grown | apply HasMax.alloc | apply HasMax.drew))).mono ?_; rintro e w1 ⟨rfl, hb1⟩; obtain ⟨p1, rfl⟩ := grown_of hb1; clear hb1)
          | (go_at_call 85; refine (HPK.out _).mono ?_; rintro e w1 ⟨rfl, hb1⟩; obtain ⟨p1, rfl⟩ := grown_of hb1; clear hb1))
        exact ret_cell_tmp w.heap.size (urlV false zeroH 0 []) (.int .i64 43) rfl rfl rfl agg_url (by simp [go_sem]) (by simp [go_sem]) rfl ⟨rfl, below_setRow (by repeat (first | exact Below.refl _ _ | assumption | refine below_grown ?_ (by first | omega | (simp [go_sem]; done) | (simp [go_sem] <;> omega)) _ | refine Below.alloc ?_ (by first | omega | (simp [go_sem]; done) | (simp [go_sem] <;> omega)) _ | refine below_bytesW ?_ (by first | omega | (simp [go_sem]; done) | (simp [go_sem] <;> omega)) _ | refine Below.drew ?_ | refine below_drewN ?_ _)) (Nat.le_refl _) _⟩
      · rw [hO]
        subst h0
        clear hO
        rw [pathOf_nil] at hok HPK ⊢
        have HPK : Hid (∀ w, Calls Tryz.prog 85 #[.string ⟨[47].toArray⟩] w fun e w' => e = .returned (.bool true) ∧ Below w.heap.size w w') := fun w => by have := HPK.out w; rwa [hok] at this
        clear hok
        go_enter Tryz.func63, Tryz.ntmps63
        go_wp2_with (first
          | (go_at_call 81; (with_reducible refine (HS1.out _).mono ?_); rintro e w1 ⟨rfl, hb1⟩; obtain ⟨p1, rfl⟩ := grown_of hb1; clear hb1)
          | (go_at_call 81; (with_reducible refine (HS2.out _).mono ?_); rintro e w1 ⟨rfl, hb1⟩; obtain ⟨p1, rfl⟩ := grown_of hb1; clear hb1)
          | (go_at_call 82; (with_reducible refine (HI1.out _).mono ?_); rintro e w1 ⟨rfl, hb1⟩; obtain ⟨p1, rfl⟩ := grown_of hb1; clear hb1)
          | (go_at_call 82; (with_reducible refine (HI2.out _).mono ?_); rintro e w1 ⟨rfl, hb1⟩; obtain ⟨p1, rfl⟩ := grown_of hb1; clear hb1)
          | (go_at_call 82; refine (HI2.out _).mono ?_; rintro e w1 ⟨rfl, hb1⟩; obtain ⟨p1, rfl⟩ := grown_of hb1; clear hb1)
          | (go_at_call 83; refine (HU.out _).mono ?_; intro e w' h; obtain ⟨rfl, h2⟩ := h; subst w')
          | (go_at_call 84; refine (HPL.out _ (by repeat (first | exact hm | apply HasMax.grown | apply HasMax.alloc | apply HasMax.drew))).mono ?_; rintro e w1 ⟨rfl, hb1⟩; obtain ⟨p1, rfl⟩ := grown_of hb1; clear hb1)
          | (go_at_call 85; refine (HPK.out _).mono ?_; rintro e w1 ⟨rfl, hb1⟩; obtain ⟨p1, rfl⟩ := grown_of hb1; clear hb1))
        exact ret_cell_tmp w.heap.size (urlV false H P [47]) (.int .i64 0) rfl rfl rfl agg_url (by simp [go_sem]) (by simp [go_sem]) rfl ⟨rfl, below_setRow (by repeat (first | exact Below.refl _ _ | assumption | refine below_grown ?_ (by first | omega | (simp [go_sem]; done) | (simp [go_sem] <;> omega)) _ | refine Below.alloc ?_ (by first | omega | (simp [go_sem]; done) | (simp [go_sem] <;> omega)) _ | refine below_bytesW ?_ (by first | omega | (simp [go_sem]; done) | (simp [go_sem] <;> omega)) _ | refine Below.drew ?_ | refine below_drewN ?_ _)) (Nat.le_refl _) _⟩
    · rw [i1] at HI1
      rw [hq] at HPL
      rw [hp] at hO HPK HI2
      have x1 : (0 : Int) ≤ (k1 : Int) := by omega
      have x2 : (k1 : Int) ≤ r.length := by omega
      have hql : 0 < (r.drop k1).length := by rw [List.length_drop]; omega
      clear hq hp i1
      generalize hqq : r.drop k1 = q at *
      rcases hO with ⟨h0, hO⟩ | ⟨h0, hok, hO⟩ | ⟨h0, hok, hO⟩
      · rw [hO]
        have hE : (E != 0) = true := by simpa using h0
        clear hO h0
        go_enter Tryz.func63, Tryz.ntmps63
        go_wp2_with (first
          | (go_at_call 81; (with_reducible refine (HS1.out _).mono ?_); rintro e w1 ⟨rfl, hb1⟩; obtain ⟨p1, rfl⟩ := grown_of hb1; clear hb1)
          | (go_at_call 81; (with_reducible refine (HS2.out _).mono ?_); rintro e w1 ⟨rfl, hb1⟩; obtain ⟨p1, rfl⟩ := grown_of hb1; clear hb1)
          | (go_at_call 82; (with_reducible refine (HI1.out _).mono ?_); rintro e w1 ⟨rfl, hb1⟩; obtain ⟨p1, rfl⟩ := grown_of hb1; clear hb1)
          | (go_at_call 82; (with_reducible refine (HI2.out _).mono ?_); rintro e w1 ⟨rfl, hb1⟩; obtain ⟨p1, rfl⟩ := grown_of hb1; clear hb1)
          | (go_at_call 82; refine (HI2.out _).mono ?_; rintro e w1 ⟨rfl, hb1⟩; obtain ⟨p1, rfl⟩ := grown_of hb1; clear hb1)
          | (go_at_call 83; refine (HU.out _).mono ?_; intro e w' h; obtain ⟨rfl, h2⟩ := h; subst w')
          | (go_at_call 84; refine (HPL.out _ (by repeat (first | exact hm | apply HasMax.grown | apply HasMax.alloc | apply HasMax.drew))).mono ?_; rintro e w1 ⟨rfl, hb1⟩; obtain ⟨p1, rfl⟩ := grown_of hb1; clear hb1)
          | (go_at_call 85; refine (HPK.out _).mono ?_; rintro e w1 ⟨rfl, hb1⟩; obtain ⟨p1, rfl⟩ := grown_of hb1; clear hb1))
        exact ret_cell_tmp w.heap.size (urlV false zeroH 0 []) (.int .i64 E) rfl rfl rfl agg_url (by simp [go_sem]) (by simp [go_sem]) rfl ⟨rfl, below_setRow (by repeat (first | exact Below.refl _ _ | assumption | refine below_grown ?_ (by first | omega | (simp [go_sem]; done) | (simp [go_sem] <;> omega)) _ | refine Below.alloc ?_ (by first | omega | (simp [go_sem]; done) | (simp [go_sem] <;> omega)) _ | refine below_bytesW ?_ (by first | omega | (simp [go_sem]; done) | (simp [go_sem] <;> omega)) _ | refine Below.drew ?_ | refine below_drewN ?_ _)) (Nat.le_refl _) _⟩
      · rw [hO]
        subst h0
        clear hO
        rcases pathOf_cases q (by omega : 0 < q.length) with ⟨i2, e⟩ | ⟨i2, e⟩ | ⟨k2, i2, h2, h3, e⟩
        · rw [e] at hok HPK
          rw [i2] at HI2
          have HPK : Hid (∀ w, Calls Tryz.prog 85 #[.string ⟨q.toArray⟩] w fun e w' => e = .returned (.bool false) ∧ Below w.heap.size w w') := fun w => by have := HPK.out w; rwa [hok] at this
          have hqe : q.isEmpty = false := by rw [List.isEmpty_eq_false_iff]; exact List.length_pos_iff.1 (by omega)
          have hqe2 : (q == []) = false := by rw [beq_eq_false_iff_ne]; exact List.length_pos_iff.1 (by omega)
          clear hok e
          go_enter Tryz.func63, Tryz.ntmps63
          go_wp2_with (first
            | (go_at_call 81; (with_reducible refine (HS1.out _).mono ?_); rintro e w1 ⟨rfl, hb1⟩; obtain ⟨p1, rfl⟩ := grown_of hb1; clear hb1)
            | (go_at_call 81; (with_reducible refine (HS2.out _).mono ?_); rintro e w1 ⟨rfl, hb1⟩; obtain ⟨p1, rfl⟩ := grown_of hb1; clear hb1)
            | (go_at_call 82; (with_reducible refine (HI1.out _).mono ?_); rintro e w1 ⟨rfl, hb1⟩; obtain ⟨p1, rfl⟩ := grown_of hb1; clear hb1)
            | (go_at_call 82; (with_reducible refine (HI2.out _).mono ?_); rintro e w1 ⟨rfl, hb1⟩; obtain ⟨p1, rfl⟩ := grown_of hb1; clear hb1)
            | (go_at_call 82; refine (HI2.out _).mono ?_; rintro e w1 ⟨rfl, hb1⟩; obtain ⟨p1, rfl⟩ := grown_of hb1; clear hb1)
            | (go_at_call 83; refine (HU.out _).mono ?_; intro e w' h; obtain ⟨rfl, h2⟩ := h; subst w')
            | (go_at_call 84; refine (HPL.out _ (by repeat (first | exact hm | apply HasMax.grown | apply HasMax.alloc | apply HasMax.drew))).mono ?_; rintro e w1 ⟨rfl, hb1⟩; obtain ⟨p1, rfl⟩ := grown_of hb1; clear hb1)
            | (go_at_call 85; refine (HPK.out _).mono ?_; rintro e w1 ⟨rfl, hb1⟩; obtain ⟨p1, rfl⟩ := grown_of hb1; clear hb1))
          exact ret_cell_tmp w.heap.size (urlV false zeroH 0 []) (.int .i64 43) rfl rfl rfl agg_url (by simp [go_sem]) (by simp [go_sem]) rfl ⟨rfl, below_setRow (by repeat (first | exact Below.refl _ _ | assumption | refine below_grown ?_ (by first | omega | (simp [go_sem]; done) | (simp [go_sem] <;> omega)) _ | refine Below.alloc ?_ (by first | omega | (simp [go_sem]; done) | (simp [go_sem] <;> omega)) _ | refine below_bytesW ?_ (by first | omega | (simp [go_sem]; done) | (simp [go_sem] <;> omega)) _ | refine Below.drew ?_ | refine below_drewN ?_ _)) (Nat.le_refl _) _⟩
        · rw [e] at hok HPK
          rw [i2] at HI2
          have HPK : Hid (∀ w, Calls Tryz.prog 85 #[.string ⟨[47].toArray⟩] w fun e w' => e = .returned (.bool false) ∧ Below w.heap.size w w') := fun w => by have := HPK.out w; rwa [hok] at this
          clear hok e
          go_enter Tryz.func63, Tryz.ntmps63
          go_wp2_with (first
            | (go_at_call 81; (with_reducible refine (HS1.out _).mono ?_); rintro e w1 ⟨rfl, hb1⟩; obtain ⟨p1, rfl⟩ := grown_of hb1; clear hb1)
            | (go_at_call 81; (with_reducible refine (HS2.out _).mono ?_); rintro e w1 ⟨rfl, hb1⟩; obtain ⟨p1, rfl⟩ := grown_of hb1; clear hb1)
            | (go_at_call 82; (with_reducible refine (HI1.out _).mono ?_); rintro e w1 ⟨rfl, hb1⟩; obtain ⟨p1, rfl⟩ := grown_of hb1; clear hb1)
            | (go_at_call 82; (with_reducible refine (HI2.out _).mono ?_); rintro e w1 ⟨rfl, hb1⟩; obtain ⟨p1, rfl⟩ := grown_of hb1; clear hb1)
            | (go_at_call 82; refine (HI2.out _).mono ?_; rintro e w1 ⟨rfl, hb1⟩; obtain ⟨p1, rfl⟩ := grown_of hb1; clear hb1)
            | (go_at_call 83; refine (HU.out _).mono ?_; intro e w' h; obtain ⟨rfl, h2⟩ := h; subst w')
            | (go_at_call 84; refine (HPL.out _ (by repeat (first | exact hm | apply HasMax.grown | apply HasMax.alloc | apply HasMax.drew))).mono ?_; rintro e w1 ⟨rfl, hb1⟩; obtain ⟨p1, rfl⟩ := grown_of hb1; clear hb1)
            | (go_at_call 85; refine (HPK.out _).mono ?_; rintro e w1 ⟨rfl, hb1⟩; obtain ⟨p1, rfl⟩ := grown_of hb1; clear hb1))
          exact ret_cell_tmp w.heap.size (urlV false zeroH 0 []) (.int .i64 43) rfl rfl rfl agg_url (by simp [go_sem]) (by simp [go_sem]) rfl ⟨rfl, below_setRow (by repeat (first | exact Below.refl _ _ | assumption | refine below_grown ?_ (by first | omega | (simp [go_sem]; done) | (simp [go_sem] <;> omega)) _ | refine Below.alloc ?_ (by first | omega | (simp [go_sem]; done) | (simp [go_sem] <;> omega)) _ | refine below_bytesW ?_ (by first | omega | (simp [go_sem]; done) | (simp [go_sem] <;> omega)) _ | refine Below.drew ?_ | refine below_drewN ?_ _)) (Nat.le_refl _) _⟩
        · rw [e] at hok HPK
          rw [i2] at HI2
          have HPK : Hid (∀ w, Calls Tryz.prog 85 #[.string ⟨(q.take k2).toArray⟩] w fun e w' => e = .returned (.bool false) ∧ Below w.heap.size w w') := fun w => by have := HPK.out w; rwa [hok] at this
          have hqe : (q.take k2).isEmpty = false := by rw [List.isEmpty_eq_false_iff]; intro e'; have := congrArg List.length e'; rw [List.length_take, List.length_nil] at this; omega
          have hqe2 : (q.take k2 == []) = false := by rw [beq_eq_false_iff_ne]; intro e'; have := congrArg List.length e'; rw [List.length_take, List.length_nil] at this; omega
          have y1 : (0 : Int) ≤ (k2 : Int) := by omega
          have y2 : (k2 : Int) ≤ q.length := by omega
          clear hok e
          go_enter Tryz.func63, Tryz.ntmps63
          go_wp2_with (first
            | (go_at_call 81; (with_reducible refine (HS1.out _).mono ?_); rintro e w1 ⟨rfl, hb1⟩; obtain ⟨p1, rfl⟩ := grown_of hb1; clear hb1)
            | (go_at_call 81; (with_reducible refine (HS2.out _).mono ?_); rintro e w1 ⟨rfl, hb1⟩; obtain ⟨p1, rfl⟩ := grown_of hb1; clear hb1)
            | (go_at_call 82; (with_reducible refine (HI1.out _).mono ?_); rintro e w1 ⟨rfl, hb1⟩; obtain ⟨p1, rfl⟩ := grown_of hb1; clear hb1)
            | (go_at_call 82; (with_reducible refine (HI2.out _).mono ?_); rintro e w1 ⟨rfl, hb1⟩; obtain ⟨p1, rfl⟩ := grown_of hb1; clear hb1)
            | (go_at_call 82; refine (HI2.out _).mono ?_; rintro e w1 ⟨rfl, hb1⟩; obtain ⟨p1, rfl⟩ := grown_of hb1; clear hb1)
            | (go_at_call 83; refine (HU.out _).mono ?_; intro e w' h; obtain ⟨rfl, h2⟩ := h; subst w')
            | (go_at_call 84; refine (HPL.out _ (by repeat (first | exact hm | apply HasMax.grown | apply HasMax.alloc | apply HasMax.drew))).mono ?_; rintro e w1 ⟨rfl, hb1⟩; obtain ⟨p1, rfl⟩ := grown_of hb1; clear hb1)
            | (go_at_call 85; refine (HPK.out _).mono ?_; rintro e w1 ⟨rfl, hb1⟩; obtain ⟨p1, rfl⟩ := grown_of hb1; clear hb1))
          exact ret_cell_tmp w.heap.size (urlV false zeroH 0 []) (.int .i64 43) rfl rfl rfl agg_url (by simp [go_sem]) (by simp [go_sem]) rfl ⟨rfl, below_setRow (by repeat (first | exact Below.refl _ _ | assumption | refine below_grown ?_ (by first | omega | (simp [go_sem]; done) | (simp [go_sem] <;> omega)) _ | refine Below.alloc ?_ (by first | omega | (simp [go_sem]; done) | (simp [go_sem] <;> omega)) _ | refine below_bytesW ?_ (by first | omega | (simp [go_sem]; done) | (simp [go_sem] <;> omega)) _ | refine Below.drew ?_ | refine below_drewN ?_ _)) (Nat.le_refl _) _⟩
      · rw [hO]
        subst h0
        clear hO
        rcases pathOf_cases q (by omega : 0 < q.length) with ⟨i2, e⟩ | ⟨i2, e⟩ | ⟨k2, i2, h2, h3, e⟩
        · rw [e] at hok HPK ⊢
          rw [i2] at HI2
          have HPK : Hid (∀ w, Calls Tryz.prog 85 #[.string ⟨q.toArray⟩] w fun e w' => e = .returned (.bool true) ∧ Below w.heap.size w w') := fun w => by have := HPK.out w; rwa [hok] at this
          have hqe : q.isEmpty = false := by rw [List.isEmpty_eq_false_iff]; exact List.length_pos_iff.1 (by omega)
          have hqe2 : (q == []) = false := by rw [beq_eq_false_iff_ne]; exact List.length_pos_iff.1 (by omega)
          clear hok e
          go_enter Tryz.func63, Tryz.ntmps63
          go_wp2_with (first
            | (go_at_call 81; (with_reducible refine (HS1.out _).mono ?_); rintro e w1 ⟨rfl, hb1⟩; obtain ⟨p1, rfl⟩ := grown_of hb1; clear hb1)
            | (go_at_call 81; (with_reducible refine (HS2.out _).mono ?_); rintro e w1 ⟨rfl, hb1⟩; obtain ⟨p1, rfl⟩ := grown_of hb1; clear hb1)
            | (go_at_call 82; (with_reducible refine (HI1.out _).mono ?_); rintro e w1 ⟨rfl, hb1⟩; obtain ⟨p1, rfl⟩ := grown_of hb1; clear hb1)
            | (go_at_call 82; (with_reducible refine (HI2.out _).mono ?_); rintro e w1 ⟨rfl, hb1⟩; obtain ⟨p1, rfl⟩ := grown_of hb1; clear hb1)
            | (go_at_call 82; refine (HI2.out _).mono ?_; rintro e w1 ⟨rfl, hb1⟩; obtain ⟨p1, rfl⟩ := grown_of hb1; clear hb1)
            | (go_at_call 83; refine (HU.out _).mono ?_; intro e w' h; obtain ⟨rfl, h2⟩ := h; subst w')
            | (go_at_call 84; refine (HPL.out _ (by repeat (first | exact hm | apply HasMax.grown | apply HasMax.alloc | apply HasMax.drew))).mono ?_; rintro e w1 ⟨rfl, hb1⟩; obtain ⟨p1, rfl⟩ := grown_of hb1; clear hb1)
            | (go_at_call 85; refine (HPK.out _).mono ?_; rintro e w1 ⟨rfl, hb1⟩; obtain ⟨p1, rfl⟩ := grown_of hb1; clear hb1))
          exact ret_cell_tmp w.heap.size (urlV false H P q) (.int .i64 0) rfl rfl rfl agg_url (by simp [go_sem]) (by simp [go_sem]) rfl ⟨rfl, below_setRow (by repeat (first | exact Below.refl _ _ | assumption | refine below_grown ?_ (by first | omega | (simp [go_sem]; done) | (simp [go_sem] <;> omega)) _ | refine Below.alloc ?_ (by first | omega | (simp [go_sem]; done) | (simp [go_sem] <;> omega)) _ | refine below_bytesW ?_ (by first | omega | (simp [go_sem]; done) | (simp [go_sem] <;> omega)) _ | refine Below.drew ?_ | refine below_drewN ?_ _)) (Nat.le_refl _) _⟩
        · rw [e] at hok HPK ⊢
          rw [i2] at HI2
          have HPK : Hid (∀ w, Calls Tryz.prog 85 #[.string ⟨[47].toArray⟩] w fun e w' => e = .returned (.bool true) ∧ Below w.heap.size w w') := fun w => by have := HPK.out w; rwa [hok] at this
          clear hok e
          go_enter Tryz.func63, Tryz.ntmps63
          go_wp2_with (first
            | (go_at_call 81; (with_reducible refine (HS1.out _).mono ?_); rintro e w1 ⟨rfl, hb1⟩; obtain ⟨p1, rfl⟩ := grown_of hb1; clear hb1)
            | (go_at_call 81; (with_reducible refine (HS2.out _).mono ?_); rintro e w1 ⟨rfl, hb1⟩; obtain ⟨p1, rfl⟩ := grown_of hb1; clear hb1)
            | (go_at_call 82; (with_reducible refine (HI1.out _).mono ?_); rintro e w1 ⟨rfl, hb1⟩; obtain ⟨p1, rfl⟩ := grown_of hb1; clear hb1)
            | (go_at_call 82; (with_reducible refine (HI2.out _).mono ?_); rintro e w1 ⟨rfl, hb1⟩; obtain ⟨p1, rfl⟩ := grown_of hb1; clear hb1)
            | (go_at_call 82; refine (HI2.out _).mono ?_; rintro e w1 ⟨rfl, hb1⟩; obtain ⟨p1, rfl⟩ := grown_of hb1; clear hb1)
            | (go_at_call 83; refine (HU.out _).mono ?_; intro e w' h; obtain ⟨rfl, h2⟩ := h; subst w')
            | (go_at_call 84; refine (HPL.out _ (by repeat (first | exact hm | apply HasMax.grown | apply HasMax.alloc | apply HasMax.drew))).mono ?_; rintro e w1 ⟨rfl, hb1⟩; obtain ⟨p1, rfl⟩ := grown_of hb1; clear hb1)
            | (go_at_call 85; refine (HPK.out _).mono ?_; rintro e w1 ⟨rfl, hb1⟩; obtain ⟨p1, rfl⟩ := grown_of hb1; clear hb1))
          exact ret_cell_tmp w.heap.size (urlV false H P [47]) (.int .i64 0) rfl rfl rfl agg_url (by simp [go_sem]) (by simp [go_sem]) rfl ⟨rfl, below_setRow (by repeat (first | exact Below.refl _ _ | assumption | refine below_grown ?_ (by first | omega | (simp [go_sem]; done) | (simp [go_sem] <;> omega)) _ | refine Below.alloc ?_ (by first | omega | (simp [go_sem]; done) | (simp [go_sem] <;> omega)) _ | refine below_bytesW ?_ (by first | omega | (simp [go_sem]; done) | (simp [go_sem] <;> omega)) _ | refine Below.drew ?_ | refine below_drewN ?_ _)) (Nat.le_refl _) _⟩
        · rw [e] at hok HPK ⊢
          rw [i2] at HI2
          have HPK : Hid (∀ w, Calls Tryz.prog 85 #[.string ⟨(q.take k2).toArray⟩] w fun e w' => e = .returned (.bool true) ∧ Below w.heap.size w w') := fun w => by have := HPK.out w; rwa [hok] at this
          have hqe : (q.take k2).isEmpty = false := by rw [List.isEmpty_eq_false_iff]; intro e'; have := congrArg List.length e'; rw [List.length_take, List.length_nil] at this; omega
          have hqe2 : (q.take k2 == []) = false := by rw [beq_eq_false_iff_ne]; intro e'; have := congrArg List.length e'; rw [List.length_take, List.length_nil] at this; omega
          have y1 : (0 : Int) ≤ (k2 : Int) := by omega
          have y2 : (k2 : Int) ≤ q.length := by omega
          clear hok e
          go_enter Tryz.func63, Tryz.ntmps63
          go_wp2_with (first
            | (go_at_call 81; (with_reducible refine (HS1.out _).mono ?_); rintro e w1 ⟨rfl, hb1⟩; obtain ⟨p1, rfl⟩ := grown_of hb1; clear hb1)
            | (go_at_call 81; (with_reducible refine (HS2.out _).mono ?_); rintro e w1 ⟨rfl, hb1⟩; obtain ⟨p1, rfl⟩ := grown_of hb1; clear hb1)
            | (go_at_call 82; (with_reducible refine (HI1.out _).mono ?_); rintro e w1 ⟨rfl, hb1⟩; obtain ⟨p1, rfl⟩ := grown_of hb1; clear hb1)
            | (go_at_call 82; (with_reducible refine (HI2.out _).mono ?_); rintro e w1 ⟨rfl, hb1⟩; obtain ⟨p1, rfl⟩ := grown_of hb1; clear hb1)
            | (go_at_call 82; refine (HI2.out _).mono ?_; rintro e w1 ⟨rfl, hb1⟩; obtain ⟨p1, rfl⟩ := grown_of hb1; clear hb1)
            | (go_at_call 83; refine (HU.out _).mono ?_; intro e w' h; obtain ⟨rfl, h2⟩ := h; subst w')
            | (go_at_call 84; refine (HPL.out _ (by repeat (first | exact hm | apply HasMax.grown | apply HasMax.alloc | apply HasMax.drew))).mono ?_; rintro e w1 ⟨rfl, hb1⟩; obtain ⟨p1, rfl⟩ := grown_of hb1; clear hb1)
            | (go_at_call 85; refine (HPK.out _).mono ?_; rintro e w1 ⟨rfl, hb1⟩; obtain ⟨p1, rfl⟩ := grown_of hb1; clear hb1))
          exact ret_cell_tmp w.heap.size (urlV false H P (q.take k2)) (.int .i64 0) rfl rfl rfl agg_url (by simp [go_sem]) (by simp [go_sem]) rfl ⟨rfl, below_setRow (by repeat (first | exact Below.refl _ _ | assumption | refine below_grown ?_ (by first | omega | (simp [go_sem]; done) | (simp [go_sem] <;> omega)) _ | refine Below.alloc ?_ (by first | omega | (simp [go_sem]; done) | (simp [go_sem] <;> omega)) _ | refine below_bytesW ?_ (by first | omega | (simp [go_sem]; done) | (simp [go_sem] <;> omega)) _ | refine Below.drew ?_ | refine below_drewN ?_ _)) (Nat.le_refl _) _⟩
theorem parseU_any (s : List UInt8) (hs : s.length ≤ 4000000000) (m : Int) (w : World) (hm : HasMax m w) :
    Calls Tryz.prog 63 #[.string ⟨s.toArray⟩] w fun e w' => e = .returned (.tuple #[.agg (uV (urlOut s).2), .int .i64 (urlOut s).1]) ∧ Below w.heap.size w w' := by
  unfold urlOut
  cases ha : afterB s httpsT
  · cases hb : afterB s httpT
    · have HS1 : Hid (∀ w, Calls Tryz.prog 81 #[.string ⟨s.toArray⟩, .string ⟨[104, 116, 116, 112, 115, 58, 47, 47].toArray⟩] w fun e w' => e = .returned (.tuple #[.string ⟨s.toArray⟩, .bool false]) ∧ Below w.heap.size w w') := fun w => by
        have := after_any s httpsT (by unfold maxLen; omega) (by decide) w
        rw [ha, if_neg (by decide)] at this
        exact this
      have HS2 : Hid (∀ w, Calls Tryz.prog 81 #[.string ⟨s.toArray⟩, .string ⟨[104, 116, 116, 112, 58, 47, 47].toArray⟩] w fun e w' => e = .returned (.tuple #[.string ⟨s.toArray⟩, .bool false]) ∧ Below w.heap.size w w') := fun w => by
        have := after_any s httpT (by unfold maxLen; omega) (by decide) w
        rw [hb, if_neg (by decide)] at this
        exact this
      rw [if_neg (by decide), if_neg (by decide)]
      clear ha hb
      go_enter Tryz.func63, Tryz.ntmps63
      go_wp2_with (first
        | (go_at_call 81; (with_reducible refine (HS1.out _).mono ?_); rintro e w1 ⟨rfl, hb1⟩; obtain ⟨p1, rfl⟩ := grown_of hb1; clear hb1)
        | (go_at_call 81; (with_reducible refine (HS2.out _).mono ?_); rintro e w1 ⟨rfl, hb1⟩; obtain ⟨p1, rfl⟩ := grown_of hb1; clear hb1))
      exact ret_cell_tmp w.heap.size (urlV false zeroH 0 []) (.int .i64 41) rfl rfl rfl agg_url (by simp [go_sem]) (by simp [go_sem]) rfl ⟨rfl, below_setRow (by repeat (first | exact Below.refl _ _ | assumption | refine below_grown ?_ (by first | omega | (simp [go_sem]; done) | (simp [go_sem] <;> omega)) _ | refine Below.alloc ?_ (by first | omega | (simp [go_sem]; done) | (simp [go_sem] <;> omega)) _ | refine below_bytesW ?_ (by first | omega | (simp [go_sem]; done) | (simp [go_sem] <;> omega)) _ | refine Below.drew ?_ | refine below_drewN ?_ _)) (Nat.le_refl _) _⟩
    · rw [if_neg (by decide), if_pos rfl]
      exact parseU_http s (s.drop 7) hs (by rw [List.length_drop]; omega) ha hb rfl m w hm
  · rw [if_pos rfl]
    exact parseU_https s (s.drop 8) hs (by rw [List.length_drop]; omega) ha rfl m w hm
end
end Go.Proofs.YtnkckejbkbbdlaaGreatDoor
