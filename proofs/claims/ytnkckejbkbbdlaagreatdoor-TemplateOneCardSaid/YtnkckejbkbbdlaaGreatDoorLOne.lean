/- Merged: TplOneP, LawTplOne. -/
import Derived.Test.YtnkckejbkbbdlaaGreatDoorTmL
import Derived.Test.YtnkckejbkbbdlaaGreatDoorLKeeps
import Derived.Deep.DeepCutAuto
namespace Go.Proofs.YtnkckejbkbbdlaaGreatDoor
section
open Go Go.RowKit
set_option maxRecDepth 20000
set_option linter.unusedSimpArgs false
set_option linter.unusedVariables false

theorem upTo_app (c : UInt8) : ∀ (a r : List UInt8), c ∉ a → upTo c (a ++ c :: r) = a ∧ past c (a ++ c :: r) = c :: r
  | [], r, _ => by simp [upTo, past]
  | x :: a, r, h => by
    have hx : (x == c) = false := by rw [beq_eq_false_iff_ne]; rintro rfl; exact h (List.mem_cons_self ..)
    obtain ⟨h1, h2⟩ := upTo_app c a r (fun hm => h (List.mem_cons_of_mem _ hm))
    unfold upTo past at *
    rw [List.cons_append, List.takeWhile_cons, List.dropWhile_cons, hx]
    exact ⟨by simp [h1], by simpa using h2⟩
/-- A place in a text. -/
theorem partsT_place (C : List GCh) (a key r : List UInt8) (ha : (123 : UInt8) ∉ a) (hk : (125 : UInt8) ∉ key) (hn : nameT key = true) (hc : hasC C key = true) :
    partsT C (a ++ 123 :: (key ++ 125 :: r)) = (partsT C r).map (fun l => (a, -1) :: ([], (atC C key : Int)) :: l) := by
  obtain ⟨h1, h2⟩ := upTo_app 123 a (key ++ 125 :: r) ha
  obtain ⟨h3, h4⟩ := upTo_app 125 key r hk
  rw [partsT_step C _ (by simp), h1, h2]
  have hp : placeOk C (List.tail (123 :: (key ++ 125 :: r))) = true := by
    unfold placeOk
    rw [List.tail_cons, h3, h4, hn, hc]
    rfl
  rw [if_neg (by simp), if_pos hp, List.tail_cons, h3, h4, List.tail_cons]
def kV : List UInt8 := [118]
def kW : List UInt8 := [119]
def oneC (v : List UInt8) : List GCh := [⟨kV, [v]⟩, ⟨kW, [v, 120 :: v]⟩]
def lastP (s : List UInt8) : List GPart := if s = [] then [] else [(s, -1)]
theorem partsT_last (C : List GCh) {s : List UInt8} (h : (123 : UInt8) ∉ s) : partsT C s = some (lastP s) := partsT_none C h
theorem oneC_at (v : List UInt8) : hasC (oneC v) kV = true ∧ hasC (oneC v) kW = true ∧ atC (oneC v) kV = 0 ∧ atC (oneC v) kW = 1 := by
  refine ⟨?_, ?_, ?_, ?_⟩
  · simp [hasC, oneC, kV]
  · simp [hasC, oneC, kV, kW]
  · simp [atC, oneC, kV, List.findIdx_cons]
  · simp [atC, oneC, kV, kW, List.findIdx_cons]
theorem usesGo_last (out : List Nat) (s : List UInt8) : usesGo out (lastP s) = out := by
  unfold lastP
  split
  · rfl
  · rw [usesGo, if_neg (by simp)]; rfl
theorem lenGo_last (C : List GCh) (n : Nat) (s : List UInt8) : lenGo C n (lastP s) = n + s.length := by
  unfold lastP
  split
  · rename_i h; subst h; rfl
  · rw [lenGo, if_pos (show (-1 : Int) < 0 by decide), lenGo]
theorem lenGo_txt (C : List GCh) (n : Nat) (s : List UInt8) (l : List GPart) : lenGo C n ((s, -1) :: l) = lenGo C (n + s.length) l := by
  rw [lenGo, if_pos (show (-1 : Int) < 0 by decide)]
theorem lenGo_pl (C : List GCh) (n : Nat) (i : Nat) (m : Nat) (l : List GPart) (hm : mostT (valsC C i) = m) (h : n + m ≤ 2000) : lenGo C n (([], (i : Int)) :: l) = lenGo C (n + m) l := by
  rw [lenGo, if_neg (show ¬ ((i : Int) < 0) by omega)]
  have e : (i : Int).toNat = i := rfl
  show (if 2000 < n + 0 + mostT (valsC C (i : Int).toNat) then _ else _) = _
  rw [e, hm, if_neg (by omega)]
  rfl
theorem fillT_last (R : List (Nat × List UInt8)) (s : List UInt8) (h : atRow R (-1) = []) : fillT R (lastP s) = s := by
  unfold lastP fillT
  split
  · rename_i h; subst h; rfl
  · simp [h]
theorem one_a (a v b : List UInt8) (ha : (123 : UInt8) ∉ a) (hb : (123 : UInt8) ∉ b) (la : a.length ≤ 300) (lv : v.length ≤ 300) (lb : b.length ≤ 300) :
    instT (oneC v) (a ++ ([123, 118, 125] ++ b)) = [a ++ v ++ b] := by
  obtain ⟨c1, c2, c3, c4⟩ := oneC_at v
  have hp : partsT (oneC v) (a ++ ([123, 118, 125] ++ b)) = some ((a, -1) :: ([], 0) :: lastP b) := by
    have := partsT_place (oneC v) a kV b ha (by decide) (by decide) c1
    rw [partsT_last _ hb, c3] at this
    exact this
  have hu : usesT ((a, (-1 : Int)) :: ([], 0) :: lastP b) = [0] := by
    unfold usesT
    rw [usesGo, if_neg (by simp), usesGo, if_pos (by simp), usesGo_last]; rfl
  have hv0 : valsC (oneC v) 0 = [v] := rfl
  have hr : rowsGo (oneC v) 1 [0] = 1 := by rw [rowsGo, hv0]; rfl
  have hl : lenGo (oneC v) 0 ((a, (-1 : Int)) :: ([], 0) :: lastP b) ≤ 2000 := by
    rw [lenGo, if_pos (show (-1 : Int) < 0 by decide), lenGo, if_neg (show ¬ ((0 : Int) < 0) by decide), if_neg, lenGo_last]
    · have : mostT (valsC (oneC v) (0 : Int).toNat) = v.length := by show mostT [v] = _; simp [mostT]
      rw [this]; simp; omega
    · have : mostT (valsC (oneC v) (0 : Int).toNat) = v.length := by show mostT [v] = _; simp [mostT]
      rw [this]; simp; omega
  unfold instT
  rw [hp]
  dsimp only
  rw [hu, hr, if_neg (by simp [hv0]), if_neg (by decide), if_neg (by omega)]
  unfold instP
  rw [hu, hr]
  have hrow : rowT (oneC v) [0] 0 = [(0, v)] := rfl
  show [fillT (rowT (oneC v) [0] 0) _] = _
  rw [hrow]
  have e1 : atRow [(0, v)] (-1) = [] := rfl
  have e2 : atRow [(0, v)] 0 = v := rfl
  have e3 := fillT_last [(0, v)] b e1
  unfold fillT at e3 ⊢
  rw [List.flatMap_cons, List.flatMap_cons, e3]
  dsimp only
  rw [e1, e2]
  simp
theorem one_b (a v b : List UInt8) (ha : (123 : UInt8) ∉ a) (hb : (123 : UInt8) ∉ b) (la : a.length ≤ 300) (lv : v.length ≤ 300) (lb : b.length ≤ 300) :
    instT (oneC v) (a ++ ([123, 119, 125] ++ (b ++ [123, 118, 125, 123, 119, 125]))) = [a ++ v ++ b ++ v ++ v, a ++ (120 :: v) ++ b ++ v ++ (120 :: v)] := by
  obtain ⟨c1, c2, c3, c4⟩ := oneC_at v
  have hp : partsT (oneC v) (a ++ ([123, 119, 125] ++ (b ++ [123, 118, 125, 123, 119, 125]))) = some [(a, -1), ([], 1), (b, -1), ([], 0), ([], -1), ([], 1)] := by
    have h1 := partsT_place (oneC v) a kW (b ++ [123, 118, 125, 123, 119, 125]) ha (by decide) (by decide) c2
    have h2 := partsT_place (oneC v) b kV [123, 119, 125] hb (by decide) (by decide) c1
    have h3 := partsT_place (oneC v) [] kW [] (by simp) (by decide) (by decide) c2
    rw [partsT_nil, c4] at h3
    have h3' : partsT (oneC v) [123, 119, 125] = some [([], -1), ([], 1)] := h3
    rw [h3', c3] at h2
    have h2' : partsT (oneC v) (b ++ [123, 118, 125, 123, 119, 125]) = some [(b, -1), ([], 0), ([], -1), ([], 1)] := h2
    rw [h2', c4] at h1
    exact h1
  have hu : usesT [(a, (-1 : Int)), ([], 1), (b, -1), ([], 0), ([], -1), ([], 1)] = [1, 0] := by
    unfold usesT
    simp [usesGo]
  have hv0 : valsC (oneC v) 0 = [v] := rfl
  have hv1 : valsC (oneC v) 1 = [v, 120 :: v] := rfl
  have hr : rowsGo (oneC v) 1 [1, 0] = 2 := by rw [rowsGo, hv1]; simp [rowsGo, hv0]
  have m0 : mostT (valsC (oneC v) 0) = v.length := by show mostT [v] = _; simp [mostT]
  have m1 : mostT (valsC (oneC v) 1) = v.length + 1 := by show mostT [v, 120 :: v] = _; simp [mostT]
  have hl : lenGo (oneC v) 0 [(a, (-1 : Int)), ([], 1), (b, -1), ([], 0), ([], -1), ([], 1)] ≤ 2000 := by
    have s1 := lenGo_pl (oneC v) (0 + a.length) 1 _ [(b, (-1 : Int)), ([], 0), ([], -1), ([], 1)] m1 (by omega)
    have s2 := lenGo_pl (oneC v) (0 + a.length + (v.length + 1) + b.length) 0 _ [([], (-1 : Int)), ([], 1)] m0 (by omega)
    have s3 := lenGo_pl (oneC v) (0 + a.length + (v.length + 1) + b.length + v.length + ([] : List UInt8).length) 1 _ [] m1 (by simp; omega)
    rw [lenGo_txt]
    refine Nat.le_trans (Nat.le_of_eq s1) ?_
    rw [lenGo_txt]
    refine Nat.le_trans (Nat.le_of_eq s2) ?_
    rw [lenGo_txt]
    refine Nat.le_trans (Nat.le_of_eq s3) ?_
    rw [lenGo]
    simp
    omega
  unfold instT
  rw [hp]
  dsimp only
  rw [hu, hr, if_neg (by simp [hv0, hv1]), if_neg (by decide), if_neg (by omega)]
  unfold instP
  rw [hu, hr]
  have r0 : rowT (oneC v) [0, 1] 0 = [(1, v), (0, v)] := by simp [rowT, stepR, hv0, hv1]
  have r1 : rowT (oneC v) [0, 1] 1 = [(1, 120 :: v), (0, v)] := by simp [rowT, stepR, hv0, hv1]
  show [fillT (rowT (oneC v) [0, 1] 0) _, fillT (rowT (oneC v) [0, 1] 1) _] = _
  rw [r0, r1]
  have e1 : ∀ x : List UInt8, atRow [(1, x), (0, v)] (-1) = [] := fun _ => rfl
  have e2 : ∀ x : List UInt8, atRow [(1, x), (0, v)] 0 = v := fun _ => rfl
  have e3 : ∀ x : List UInt8, atRow [(1, x), (0, v)] 1 = x := fun _ => rfl
  simp [fillT, e1, e2, e3]
end

section
open Go Go.RowKit
set_option maxRecDepth 20000
set_option linter.unusedSimpArgs false
set_option linter.unusedVariables false

theorem run_build_ch2 (s : List UInt8) (x : Option Addr) (n c : Nat) (w : World) : (Instr.build 45 #[(0, .string ⟨s.toArray⟩), (1, .slice x n c)]).run Tryz.prog w = .ok (.agg (chV ⟨s, x, n, c⟩)) w := by kernel_rfl
@[go_sem ↓ high] theorem run_op_build_ch2 (ev : Operand → Value) (dst : Option Tmp) (x0 x1 : Operand) (ty : TypeId) (pos : String) (af : Array Edge) (g : Option (Nat × Bool)) (w : World) :
    Sem.run Tryz.prog (execOp ev { dst := dst, op := .build 45 #[(0, x0), (1, x1)], type := ty, pos := pos, after := af, guard := g }) w = buildRow Tryz.prog w 45 #[(0, ev x0), (1, ev x1)] := by
  rw [run_op_build]
  simp
@[go_sem] theorem buildCh2_at (s : List UInt8) (x : Option Addr) (n c : Nat) (w : World) : buildRow Tryz.prog w 45 #[(0, .string ⟨s.toArray⟩), (1, .slice x n c)] = .ok (.value (.agg (chV ⟨s, x, n, c⟩))) w := by
  rw [buildRow, Sem.run_bind, run_build_ch2]
  rfl
@[go_sem] theorem buildCh2_v (x : Option Addr) (n c : Nat) (w : World) : buildRow Tryz.prog w 45 #[(0, .string ⟨#[118]⟩), (1, .slice x n c)] = .ok (.value (.agg (chV ⟨kV, x, n, c⟩))) w := buildCh2_at kV x n c w
@[go_sem] theorem buildCh2_w (x : Option Addr) (n c : Nat) (w : World) : buildRow Tryz.prog w 45 #[(0, .string ⟨#[119]⟩), (1, .slice x n c)] = .ok (.value (.agg (chV ⟨kW, x, n, c⟩))) w := buildCh2_at kW x n c w
/-- Two choices in a new slice. -/
noncomputable def bsc2 (w : World) (v0 v1 : Value) : Result Next := (Sem.run Tryz.prog (Instr.buildSlice 28 2 #[(0, v0), (1, v1)]) w).andThen fun v w' => .ok (.value v) w'
@[go_sem ↓ high] theorem run_op_bsc2 (ev : Operand → Value) (dst : Option Tmp) (x0 x1 : Operand) (ty : TypeId) (pos : String) (af : Array Edge) (g : Option (Nat × Bool)) (w : World) :
    Sem.run Tryz.prog (execOp ev { dst := dst, op := .buildSlice 28 2 #[(0, x0), (1, x1)], type := ty, pos := pos, after := af, guard := g }) w = bsc2 w (ev x0) (ev x1) := by
  unfold bsc2
  simp only [execOp, Sem.run_bind, Sem.run_pure, List.map_toArray, List.map_cons, List.map_nil]
@[go_sem] theorem bsc2_at (r q : RCh) (w : World) : bsc2 w (.agg (chV r)) (.agg (chV q)) =
    .ok (.value (.slice (some ⟨w.heap.size, 0, none⟩) 2 2)) (w.alloc (.cells (chCod.encs [r, q]).toArray 45)) := by
  obtain ⟨s1, x1, n1, c1⟩ := r
  obtain ⟨s2, x2, n2, c2⟩ := q
  kernel_rfl
theorem run_build_tx (s : List UInt8) (w : World) : (Instr.build 41 #[(2, .string ⟨s.toArray⟩)]).run Tryz.prog w = .ok (.agg (tpV ⟨[], zeroU, s, 0⟩)) w := by kernel_rfl
@[go_sem ↓ high] theorem run_op_build_tx (ev : Operand → Value) (dst : Option Tmp) (x0 : Operand) (ty : TypeId) (pos : String) (af : Array Edge) (g : Option (Nat × Bool)) (w : World) :
    Sem.run Tryz.prog (execOp ev { dst := dst, op := .build 41 #[(2, x0)], type := ty, pos := pos, after := af, guard := g }) w = buildRow Tryz.prog w 41 #[(2, ev x0)] := by
  rw [run_op_build]
  simp
@[go_sem] theorem buildTx_at (s : List UInt8) (w : World) : buildRow Tryz.prog w 41 #[(2, .string ⟨s.toArray⟩)] = .ok (.value (.agg (tpV ⟨[], zeroU, s, 0⟩))) w := by
  rw [buildRow, Sem.run_bind, run_build_tx]
  rfl
set_option maxRecDepth 100000 in
set_option maxHeartbeats 8000000 in
theorem tplOne_law (a v b : List UInt8) (m : Int) (w : World) (hm : HasMax m w) :
    Calls Tryz.prog 6 #[.string ⟨a.toArray⟩, .string ⟨v.toArray⟩, .string ⟨b.toArray⟩] w fun e w' => e = .returned (.bool true) ∧ Below w.heap.size w w' := by
  have HAL : Hid (∀ w', HasMax m w' → Calls Tryz.prog 9 #[] w' fun e w'' => e = .returned (.bool true) ∧ Below w'.heap.size w' w'') := fun w' h => tplAlive_any m w' h
  go_enter Tryz.func6, Tryz.ntmps6
  go_wp2_with (go_at_call 9; (with_reducible refine (HAL.out _ hm).mono ?_); rintro e w1 ⟨rfl, hb1⟩; obtain ⟨p1, rfl⟩ := grown_of hb1; clear hb1)
  clear HAL
  have hix0 : ∀ w, Sem.run Tryz.prog (Instr.index 43 (.agg #[.string ⟨a.toArray⟩, .string ⟨v.toArray⟩, .string ⟨b.toArray⟩]) (.int .i64 0)) w = .ok (.string ⟨a.toArray⟩) w := fun w => by kernel_rfl
  have hix1 : ∀ w, Sem.run Tryz.prog (Instr.index 43 (.agg #[.string ⟨a.toArray⟩, .string ⟨v.toArray⟩, .string ⟨b.toArray⟩]) (.int .i64 1)) w = .ok (.string ⟨v.toArray⟩) w := fun w => by kernel_rfl
  have hix2 : ∀ w, Sem.run Tryz.prog (Instr.index 43 (.agg #[.string ⟨a.toArray⟩, .string ⟨v.toArray⟩, .string ⟨b.toArray⟩]) (.int .i64 2)) w = .ok (.string ⟨b.toArray⟩) w := fun w => by kernel_rfl
  go_loop [20] (fun i => ∃ k : Nat, k ≤ 3 ∧ i = .int .i64 k ∧ Hid (∀ x ∈ [a, v, b].take k, x.length ≤ 300 ∧ opn x x.length = false)) (fun i => 3 - (intOf i).toNat)
  case atStart => exact ⟨0, Nat.zero_le _, rfl, fun x hx => absurd hx (List.not_mem_nil)⟩
  case round =>
    obtain ⟨k, hk, rfl, hfi⟩ := hrel
    by_cases hlt : k < 3
    · have h3 : k = 0 ∨ k = 1 ∨ k = 2 := by omega
      rcases h3 with h0 | h0 | h0
      · obtain rfl : k = 0 := by omega
        by_cases hl : (300 : Int) < (a.length : Int)
        · go_wp2
          go_ret
          exact ⟨rfl, (by repeat (first | exact Below.refl _ _ | assumption | refine below_grown ?_ (by first | omega | (simp [go_sem]; done) | (simp [go_sem] <;> omega)) _ | refine Below.alloc ?_ (by first | omega | (simp [go_sem]; done) | (simp [go_sem] <;> omega)) _ | refine below_bytesW ?_ (by first | omega | (simp [go_sem]; done) | (simp [go_sem] <;> omega)) _ | refine Below.drew ?_ | refine below_drewN ?_ _))⟩
        · go_wp2
          have HOS := Lib.hid (opn_succ a)
          go_loop [9] (fun i => ∃ j : Nat, j ≤ a.length ∧ i = .int .i64 j ∧ Hid (opn a j = false)) (fun i => a.length - (intOf i).toNat)
          case atStart => exact ⟨0, Nat.zero_le _, rfl, rfl⟩
          case round =>
            obtain ⟨j, hj, rfl, hno⟩ := hrel
            by_cases hjl : j < a.length
            · have hji : (j : Int) < (a.length : Int) := by omega
              have hos := HOS.out j hjl
              rw [hno.out, Bool.false_or] at hos
              have HO2 := Lib.hid hos
              clear hos
              cases hc : (((a[j]'hjl).toNat : Int) == 123)
              · have HO3 : Hid (opn a (j + 1) = false) := by show _ = _; rw [HO2.out, hc]
                clear HO2
                go_wp2
                go_round
                case rel => exact ⟨j + 1, by omega, by go_num, HO3.out⟩
                case measure => simp [intOf]; omega
              · go_wp2
                go_ret
                exact ⟨rfl, (by repeat (first | exact Below.refl _ _ | assumption | refine below_grown ?_ (by first | omega | (simp [go_sem]; done) | (simp [go_sem] <;> omega)) _ | refine Below.alloc ?_ (by first | omega | (simp [go_sem]; done) | (simp [go_sem] <;> omega)) _ | refine below_bytesW ?_ (by first | omega | (simp [go_sem]; done) | (simp [go_sem] <;> omega)) _ | refine Below.drew ?_ | refine below_drewN ?_ _))⟩
            · obtain rfl : j = a.length := by omega
              have HF2 : Hid (∀ x ∈ [a, v, b].take (0 + 1), x.length ≤ 300 ∧ opn x x.length = false) := fun x hx => by
                have hx' : x ∈ [a, v, b].take 0 ∨ x = a := by simpa [or_assoc] using hx
                rcases hx' with h | rfl
                · exact hfi.out x h
                · exact ⟨by omega, hno.out⟩
              clear hno hfi
              go_wp2
              go_round
              case rel => exact ⟨0 + 1, by omega, by go_num, HF2.out⟩
              case measure => simp [intOf]
      · obtain rfl : k = 1 := by omega
        by_cases hl : (300 : Int) < (v.length : Int)
        · go_wp2
          go_ret
          exact ⟨rfl, (by repeat (first | exact Below.refl _ _ | assumption | refine below_grown ?_ (by first | omega | (simp [go_sem]; done) | (simp [go_sem] <;> omega)) _ | refine Below.alloc ?_ (by first | omega | (simp [go_sem]; done) | (simp [go_sem] <;> omega)) _ | refine below_bytesW ?_ (by first | omega | (simp [go_sem]; done) | (simp [go_sem] <;> omega)) _ | refine Below.drew ?_ | refine below_drewN ?_ _))⟩
        · go_wp2
          have HOS := Lib.hid (opn_succ v)
          go_loop [9] (fun i => ∃ j : Nat, j ≤ v.length ∧ i = .int .i64 j ∧ Hid (opn v j = false)) (fun i => v.length - (intOf i).toNat)
          case atStart => exact ⟨0, Nat.zero_le _, rfl, rfl⟩
          case round =>
            obtain ⟨j, hj, rfl, hno⟩ := hrel
            by_cases hjl : j < v.length
            · have hji : (j : Int) < (v.length : Int) := by omega
              have hos := HOS.out j hjl
              rw [hno.out, Bool.false_or] at hos
              have HO2 := Lib.hid hos
              clear hos
              cases hc : (((v[j]'hjl).toNat : Int) == 123)
              · have HO3 : Hid (opn v (j + 1) = false) := by show _ = _; rw [HO2.out, hc]
                clear HO2
                go_wp2
                go_round
                case rel => exact ⟨j + 1, by omega, by go_num, HO3.out⟩
                case measure => simp [intOf]; omega
              · go_wp2
                go_ret
                exact ⟨rfl, (by repeat (first | exact Below.refl _ _ | assumption | refine below_grown ?_ (by first | omega | (simp [go_sem]; done) | (simp [go_sem] <;> omega)) _ | refine Below.alloc ?_ (by first | omega | (simp [go_sem]; done) | (simp [go_sem] <;> omega)) _ | refine below_bytesW ?_ (by first | omega | (simp [go_sem]; done) | (simp [go_sem] <;> omega)) _ | refine Below.drew ?_ | refine below_drewN ?_ _))⟩
            · obtain rfl : j = v.length := by omega
              have HF2 : Hid (∀ x ∈ [a, v, b].take (1 + 1), x.length ≤ 300 ∧ opn x x.length = false) := fun x hx => by
                have hx' : x ∈ [a, v, b].take 1 ∨ x = v := by simpa [or_assoc] using hx
                rcases hx' with h | rfl
                · exact hfi.out x h
                · exact ⟨by omega, hno.out⟩
              clear hno hfi
              go_wp2
              go_round
              case rel => exact ⟨1 + 1, by omega, by go_num, HF2.out⟩
              case measure => simp [intOf]
      · obtain rfl : k = 2 := by omega
        by_cases hl : (300 : Int) < (b.length : Int)
        · go_wp2
          go_ret
          exact ⟨rfl, (by repeat (first | exact Below.refl _ _ | assumption | refine below_grown ?_ (by first | omega | (simp [go_sem]; done) | (simp [go_sem] <;> omega)) _ | refine Below.alloc ?_ (by first | omega | (simp [go_sem]; done) | (simp [go_sem] <;> omega)) _ | refine below_bytesW ?_ (by first | omega | (simp [go_sem]; done) | (simp [go_sem] <;> omega)) _ | refine Below.drew ?_ | refine below_drewN ?_ _))⟩
        · go_wp2
          have HOS := Lib.hid (opn_succ b)
          go_loop [9] (fun i => ∃ j : Nat, j ≤ b.length ∧ i = .int .i64 j ∧ Hid (opn b j = false)) (fun i => b.length - (intOf i).toNat)
          case atStart => exact ⟨0, Nat.zero_le _, rfl, rfl⟩
          case round =>
            obtain ⟨j, hj, rfl, hno⟩ := hrel
            by_cases hjl : j < b.length
            · have hji : (j : Int) < (b.length : Int) := by omega
              have hos := HOS.out j hjl
              rw [hno.out, Bool.false_or] at hos
              have HO2 := Lib.hid hos
              clear hos
              cases hc : (((b[j]'hjl).toNat : Int) == 123)
              · have HO3 : Hid (opn b (j + 1) = false) := by show _ = _; rw [HO2.out, hc]
                clear HO2
                go_wp2
                go_round
                case rel => exact ⟨j + 1, by omega, by go_num, HO3.out⟩
                case measure => simp [intOf]; omega
              · go_wp2
                go_ret
                exact ⟨rfl, (by repeat (first | exact Below.refl _ _ | assumption | refine below_grown ?_ (by first | omega | (simp [go_sem]; done) | (simp [go_sem] <;> omega)) _ | refine Below.alloc ?_ (by first | omega | (simp [go_sem]; done) | (simp [go_sem] <;> omega)) _ | refine below_bytesW ?_ (by first | omega | (simp [go_sem]; done) | (simp [go_sem] <;> omega)) _ | refine Below.drew ?_ | refine below_drewN ?_ _))⟩
            · obtain rfl : j = b.length := by omega
              have HF2 : Hid (∀ x ∈ [a, v, b].take (2 + 1), x.length ≤ 300 ∧ opn x x.length = false) := fun x hx => by
                have hx' : x ∈ [a, v, b].take 2 ∨ x = b := by simpa [or_assoc] using hx
                rcases hx' with h | rfl
                · exact hfi.out x h
                · exact ⟨by omega, hno.out⟩
              clear hno hfi
              go_wp2
              go_round
              case rel => exact ⟨2 + 1, by omega, by go_num, HF2.out⟩
              case measure => simp [intOf]
    · obtain rfl : k = 3 := by omega
      have hfa := hfi.out a (by simp)
      have hfv := hfi.out v (by simp)
      have hfb := hfi.out b (by simp)
      have HIA := Lib.hid (one_a a v b (opn_all hfa.2) (opn_all hfb.2) hfa.1 hfv.1 hfb.1)
      have HIB := Lib.hid (one_b a v b (opn_all hfa.2) (opn_all hfb.2) hfa.1 hfv.1 hfb.1)
      have la := hfa.1
      have lv := hfv.1
      have lb := hfb.1
      clear hfi hfa hfv hfb
      go_upto_region 15 with fail
      obtain ⟨b0, hb0⟩ : ∃ b0, w.heap.size + p1.os.size = b0 := ⟨_, rfl⟩
      have hb0w : w.heap.size ≤ b0 := by omega
      have hgs : (grown w p1).heap.size = b0 := by rw [size_grown]; exact hb0
      have HBG : Hid (Below w.heap.size w (grown w p1)) := below_grown' w p1
      rw [hb0]
      try simp only [hb0]
      obtain ⟨wg, hwg⟩ : ∃ wg, grown w p1 = wg := ⟨_, rfl⟩
      rw [hwg] at HBG hgs
      rw [hwg]
      have h1 : ListAt strCod (wg.alloc (Obj.cells #[.string ⟨v.toArray⟩] 9)) b0 0 [v] := listAt_new _ _ _ _ rfl hgs.symm
      have h2 : ListAt strCod ((wg.alloc (Obj.cells #[.string ⟨v.toArray⟩] 9)).alloc (Obj.cells #[.string ⟨v.toArray⟩, .string ⟨(120 :: v).toArray⟩] 9)) (b0 + 1) 0 [v, 120 :: v] := listAt_new _ _ _ _ rfl (by simp [hgs])
      have HAR : Hid (ListAt chCod (((wg.alloc (Obj.cells #[.string ⟨v.toArray⟩] 9)).alloc (Obj.cells #[.string ⟨v.toArray⟩, .string ⟨(120 :: v).toArray⟩] 9)).alloc (Obj.cells (chCod.encs [⟨[118], some ⟨b0, 0, none⟩, 1, 1⟩, ⟨[119], some ⟨b0 + 1, 0, none⟩, 2, 2⟩]).toArray 45)) (b0 + 1 + 1) 0 [⟨[118], some ⟨b0, 0, none⟩, 1, 1⟩, ⟨[119], some ⟨b0 + 1, 0, none⟩, 2, 2⟩]) := listAt_new _ _ _ _ rfl (by simp [hgs])
      obtain ⟨w3, hw3⟩ : ∃ w3, (((wg.alloc (Obj.cells #[.string ⟨v.toArray⟩] 9)).alloc (Obj.cells #[.string ⟨v.toArray⟩, .string ⟨(120 :: v).toArray⟩] 9)).alloc (Obj.cells (chCod.encs [⟨[118], some ⟨b0, 0, none⟩, 1, 1⟩, ⟨[119], some ⟨b0 + 1, 0, none⟩, 2, 2⟩]).toArray 45)) = w3 := ⟨_, rfl⟩
      have hs3 : w3.heap.size = b0 + 1 + 1 + 1 := by rw [← hw3]; simp [hgs]
      have HC3 : Hid (ChsOk w3 0 [⟨[118], some ⟨b0, 0, none⟩, 1, 1⟩, ⟨[119], some ⟨b0 + 1, 0, none⟩, 2, 2⟩] (oneC v)) := by
        have g1 : ListIn strCod w3 (some ⟨b0, 0, none⟩) [v] 0 := .inr ⟨b0, 0, rfl, Nat.zero_le _, by omega, by rw [← hw3]; exact (h1.below ((Below.refl _ _).alloc (Nat.le_refl _) _)).below ((Below.refl _ _).alloc (Nat.le_refl _) _)⟩
        have g2 : ListIn strCod w3 (some ⟨b0 + 1, 0, none⟩) [v, 120 :: v] 0 := .inr ⟨b0 + 1, 0, rfl, Nat.zero_le _, by omega, by rw [← hw3]; exact h2.below ((Below.refl _ _).alloc (Nat.le_refl _) _)⟩
        refine ⟨rfl, fun i hi hi' => ?_⟩
        match i, hi, hi' with
        | 0, _, _ => exact ⟨rfl, rfl, Nat.le_refl _, g1⟩
        | 1, _, _ => exact ⟨rfl, rfl, Nat.le_refl _, g2⟩
      have HB3 : Hid (Below w.heap.size w w3) := by
        rw [← hw3]
        have := HBG.out
        exact (by repeat (first | exact Below.refl _ _ | assumption | refine below_grown ?_ (by first | omega | (simp [go_sem]; done) | (simp [go_sem] <;> omega)) _ | refine Below.alloc ?_ (by first | omega | (simp [go_sem]; done) | (simp [go_sem] <;> omega)) _ | refine below_bytesW ?_ (by first | omega | (simp [go_sem]; done) | (simp [go_sem] <;> omega)) _ | refine Below.drew ?_ | refine below_drewN ?_ _))
      have HL3 : Hid (ListIn chCod w3 (some ⟨b0 + 1 + 1, 0, none⟩) [⟨[118], some ⟨b0, 0, none⟩, 1, 1⟩, ⟨[119], some ⟨b0 + 1, 0, none⟩, 2, 2⟩] 0) := .inr ⟨b0 + 1 + 1, 0, rfl, Nat.zero_le _, by omega, by rw [← hw3]; exact HAR.out⟩
      rw [hw3]
      clear hw3 h1 h2 HAR hwg HBG hgs hb0
      have HINS : Hid (∀ (tx : List UInt8) (out : List (List UInt8)) (w' : World), tx.length ≤ 100000 → instT (oneC v) tx = out → HasMax m w' → Below w3.heap.size w3 w' → Calls Tryz.prog 12 #[.agg (tpV ⟨[], zeroU, tx, 0⟩), .slice (some ⟨b0 + 1 + 1, 0, none⟩) 2 2] w' (Gives strCod out w')) := fun tx out w' h1 h2 h3 h4 => by
        rw [← h2]
        exact inst_any (oneC v) [⟨[118], some ⟨b0, 0, none⟩, 1, 1⟩, ⟨[119], some ⟨b0 + 1, 0, none⟩, 2, 2⟩] (by simp) (fun c hc => by
          rcases List.mem_cons.1 hc with rfl | hc
          · exact ⟨by simp, fun x hx => by simp at hx; subst hx; omega⟩
          · rw [List.mem_singleton] at hc
            subst hc
            exact ⟨by simp, fun x hx => by simp at hx; rcases hx with rfl | rfl; omega; simp; omega⟩) _ 2 ⟨[], zeroU, tx, 0⟩ h1 m w' h3 (HL3.out.below h4) (HC3.out.below h4)
      have HI1 : Hid (∀ (tx : List UInt8) (w' : World), tx = a ++ ([123, 118, 125] ++ b) → HasMax m w' → Below w3.heap.size w3 w' → Calls Tryz.prog 12 #[.agg (tpV ⟨[], zeroU, tx, 0⟩), .slice (some ⟨b0 + 1 + 1, 0, none⟩) 2 2] w' fun e w'' => ∃ a5 c5, e = .returned (.slice a5 1 c5) ∧ Below w'.heap.size w' w'' ∧ ListIn strCod w'' a5 [a ++ v ++ b] 0) := fun tx w' h1 h2 h3 => by
        subst h1
        refine (HINS.out _ _ w' (by simp; omega) HIA.out h2 h3).mono ?_
        rintro e w'' ⟨a5, c5, h1, _, h3, h4⟩
        exact ⟨a5, c5, h1, h3, h4.mono (Nat.zero_le _)⟩
      have HI2 : Hid (∀ (tx : List UInt8) (w' : World), tx = a ++ ([123, 119, 125] ++ (b ++ [123, 118, 125, 123, 119, 125])) → HasMax m w' → Below w3.heap.size w3 w' → Calls Tryz.prog 12 #[.agg (tpV ⟨[], zeroU, tx, 0⟩), .slice (some ⟨b0 + 1 + 1, 0, none⟩) 2 2] w' fun e w'' => ∃ a5 c5, e = .returned (.slice a5 2 c5) ∧ Below w'.heap.size w' w'' ∧ ListIn strCod w'' a5 [a ++ v ++ b ++ v ++ v, a ++ (120 :: v) ++ b ++ v ++ (120 :: v)] 0) := fun tx w' h1 h2 h3 => by
        subst h1
        refine (HINS.out _ _ w' (by simp; omega) HIB.out h2 h3).mono ?_
        rintro e w'' ⟨a5, c5, h1, _, h3, h4⟩
        exact ⟨a5, c5, h1, h3, h4.mono (Nat.zero_le _)⟩
      have HSM : Hid (∀ (A B : List (List UInt8)) (a1 a2 : Option Addr) (n1 n2 c1 c2 : Nat) (w' : World), A = B → A.length ≤ 2 → n1 = A.length → n2 = B.length → ListIn strCod w' a1 A 0 → ListIn strCod w' a2 B 0 → Calls Tryz.prog 13 #[.slice a1 n1 c1, .slice a2 n2 c2] w' fun e w'' => e = .returned (.bool true) ∧ Below w'.heap.size w' w'') := fun A B a1 a2 n1 n2 c1 c2 w' h0 h9 h8 h7 h1 h2 => by
        subst h0 h8 h7
        have := refSame_any A A a1 a2 c1 c2 0 0 (by omega) (by omega) w' h1 h2
        rwa [show (A == A) = true from beq_self_eq_true _] at this
      have hm3 := hm.below HB3.out
      have hm := hm3
      clear HINS HIA HIB hs3
      go_upto_region 16 with (go_at_call 12; (with_reducible refine (HI1.out _ _ (by simp) hm (Below.refl _ _)).mono ?_); rintro e w4 ⟨a4, c4, rfl, hb4, hl4⟩; have HB4 := Lib.hid hb4; have HL4 := Lib.hid hl4; clear hb4 hl4)
      have hs4 := HB4.out.size
      have HB34 : Hid (Below w.heap.size w w4) := HB3.out.trans (HB4.out.mono HB3.out.size)
      have hm4 := hm.below HB4.out
      go_upto_region 17 with (go_at_call 12; (with_reducible refine (HI2.out _ _ (by simp) hm4 HB4.out).mono ?_); rintro e w5 ⟨a5, c5, rfl, hb5, hl5⟩; have HB5 := Lib.hid hb5; have HL5 := Lib.hid hl5; clear hb5 hl5)
      have hs5 := HB5.out.size
      have HB35 : Hid (Below w.heap.size w w5) := HB34.out.trans (HB5.out.mono HB34.out.size)
      have HL45 := Lib.hid (HL4.out.below HB5.out)
      have hs35 := HB35.out.size
      have HS1 : Hid (∀ (tx : List UInt8) (a1 : Option Addr) (c1 bq c2 : Nat) (w' : World), bq = w'.heap.size → tx = a ++ v ++ b → ListIn strCod w' a1 [a ++ v ++ b] 0 → Calls Tryz.prog 13 #[.slice a1 1 c1, .slice (some ⟨bq, 0, none⟩) 1 c2] (w'.alloc (Obj.cells #[.string ⟨tx.toArray⟩] 9)) fun e w'' => e = .returned (.bool true) ∧ Below (w'.alloc (Obj.cells #[.string ⟨tx.toArray⟩] 9)).heap.size (w'.alloc (Obj.cells #[.string ⟨tx.toArray⟩] 9)) w'') := fun tx a1 c1 bq c2 w' h0 h1 h2 => by
        subst h1
        exact HSM.out [a ++ v ++ b] [a ++ v ++ b] a1 _ 1 1 c1 c2 _ rfl (by simp) rfl rfl (h2.alloc _) (.inr ⟨bq, 0, rfl, Nat.zero_le _, by simp; omega, listAt_new _ _ [a ++ v ++ b] _ rfl h0⟩)
      have HS2 : Hid (∀ (tx ty : List UInt8) (a1 : Option Addr) (c1 bq c2 : Nat) (w' : World), bq = w'.heap.size → tx = a ++ v ++ b ++ v ++ v → ty = a ++ (120 :: v) ++ b ++ v ++ (120 :: v) → ListIn strCod w' a1 [a ++ v ++ b ++ v ++ v, a ++ (120 :: v) ++ b ++ v ++ (120 :: v)] 0 → Calls Tryz.prog 13 #[.slice a1 2 c1, .slice (some ⟨bq, 0, none⟩) 2 c2] (w'.alloc (Obj.cells #[.string ⟨tx.toArray⟩, .string ⟨ty.toArray⟩] 9)) fun e w'' => e = .returned (.bool true) ∧ Below (w'.alloc (Obj.cells #[.string ⟨tx.toArray⟩, .string ⟨ty.toArray⟩] 9)).heap.size (w'.alloc (Obj.cells #[.string ⟨tx.toArray⟩, .string ⟨ty.toArray⟩] 9)) w'') := fun tx ty a1 c1 bq c2 w' h0 h1 h1' h2 => by
        subst h1 h1'
        exact HSM.out [a ++ v ++ b ++ v ++ v, a ++ (120 :: v) ++ b ++ v ++ (120 :: v)] [a ++ v ++ b ++ v ++ v, a ++ (120 :: v) ++ b ++ v ++ (120 :: v)] a1 _ 2 2 c1 c2 _ rfl (by simp) rfl rfl (h2.alloc _) (.inr ⟨bq, 0, rfl, Nat.zero_le _, by simp; omega, listAt_new _ _ [a ++ v ++ b ++ v ++ v, a ++ (120 :: v) ++ b ++ v ++ (120 :: v)] _ rfl h0⟩)
      clear HSM HI1 HI2 HB3 HL3 HC3 hm hm4 HB34 HB4 hix0 hix1 hix2
      go_wp2_with (first
        | (go_at_call 13; (with_reducible refine (HS1.out _ _ _ _ _ _ (by first | rfl | (simp [go_sem]; done)) (by simp) HL45.out).mono ?_); rintro e w1 ⟨rfl, hb1⟩; obtain ⟨p1, rfl⟩ := grown_of hb1; clear hb1)
        | (go_at_call 13; (with_reducible refine (HS2.out _ _ _ _ _ _ _ (by first | rfl | (simp [go_sem]; done)) (by simp) (by simp) ((HL5.out.alloc _).grown _)).mono ?_); rintro e w6 ⟨rfl, hb6⟩; obtain ⟨p6, rfl⟩ := grown_of hb6; clear hb6))
      go_ret
      have hb5 := HB35.out
      exact ⟨by first | rfl | exact ret_bool (by simp), (by repeat (first | exact Below.refl _ _ | assumption | refine below_grown ?_ (by first | omega | (simp [go_sem]; done) | (simp [go_sem] <;> omega)) _ | refine Below.alloc ?_ (by first | omega | (simp [go_sem]; done) | (simp [go_sem] <;> omega)) _ | refine below_bytesW ?_ (by first | omega | (simp [go_sem]; done) | (simp [go_sem] <;> omega)) _ | refine Below.drew ?_ | refine below_drewN ?_ _))⟩
end
end Go.Proofs.YtnkckejbkbbdlaaGreatDoor
