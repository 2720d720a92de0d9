/- The walks of the document's digits: digit, decimal, hex, Group. -/
import Derived.Test.YtmfjabpmhkechaaGreatDoorAddrQ
import Derived.Test.YtmfjabpmhkechaaGreatDoorWordR
import Derived.Test.YtmfjabpmhkechaaGreatDoorFmt16
namespace Go.Proofs.YtmfjabpmhkechaaGreatDoor
open Go Go.RowKit
set_option maxRecDepth 20000
set_option linter.unusedSimpArgs false
set_option linter.unusedVariables false

theorem digit02_any (c : UInt8) (w : World) :
    Calls Tryz.prog 87 #[.int .u8 (c.toNat : Int)] w fun e w' => e = .returned (.int .i64 (hexD c)) ∧ w = w' := by
  have hlt := c.toNat_lt
  rcases hexD_cases c with ⟨h1, hd⟩ | ⟨h1, h2, hd⟩ | ⟨h1, h2, hd⟩ | ⟨h1, h2, hd⟩ | ⟨h1, h2, hd⟩ | ⟨h1, h2, hd⟩ | ⟨h1, hd⟩
  all_goals
    rw [hd]
    clear hd
    go_enter Tryz.func87, Tryz.ntmps87
    go_wp2
    go_ret
    exact ⟨by first | rfl | (go_num; done) | (go_num; rfl), rfl⟩

/-! ### decimal digits -/
def decD (n : Nat) : UInt8 := UInt8.ofNat (48 + n)
theorem decD_int (n : Nat) (h : n < 10) : IntKind.u8.wrap (48 + (n : Int)) = ((decD n).toNat : Int) := by
  have key : ∀ i : Fin 10, IntKind.u8.wrap (48 + (i.val : Int)) = ((decD i.val).toNat : Int) := by decide +kernel
  exact key ⟨n, h⟩
theorem decT_1 (n : Nat) (h : n < 10) : decT n = [decD n] := if_pos h
theorem decT_2 (n : Nat) (h : 10 ≤ n) (h2 : n < 256) : decT n = decT (n / 10) ++ [decD (n % 10)] := by
  have key : ∀ i : Fin 256, 10 ≤ i.val → decT i.val = decT (i.val / 10) ++ [decD (i.val % 10)] := by decide +kernel
  exact key ⟨n, h2⟩ h
theorem decT_len (n : Nat) : (decT n).length ≤ 3 := by
  unfold decT
  split
  · simp
  · split <;> simp
theorem decimal_one (n : Nat) (h : n < 10) (w : World) :
    Calls Tryz.prog 59 #[.int .i64 (n : Int)] w fun e w' => e = .returned (.string ⟨(decT n).toArray⟩) ∧ Below w.heap.size w w' := by
  rw [decT_1 n h]
  have hd := decD_int n h
  have hq : (IntKind.i64.wrap (48 + (n : Int))) = 48 + (n : Int) := IntWalk.i64_in _ (by omega)
  generalize decD n = d at *
  go_enter Tryz.func59, Tryz.ntmps59
  go_wp2
  go_ret
  exact ⟨rfl, (by repeat (first | exact Below.refl _ _ | assumption | refine below_grown ?_ (by first | omega | (simp [go_sem]; done) | (simp [go_sem] <;> omega)) _ | refine Below.alloc ?_ (by first | omega | (simp [go_sem]; done) | (simp [go_sem] <;> omega)) _ | refine below_bytesW ?_ (by first | omega | (simp [go_sem]; done) | (simp [go_sem] <;> omega)) _ | refine Below.drew ?_ | refine below_drewN ?_ _))⟩
theorem tdiv_nat (n k : Nat) : (n : Int).tdiv (k : Int) = ((n / k : Nat) : Int) := by
  rw [Int.tdiv_eq_ediv_of_nonneg (by omega)]; push_cast; rfl
theorem tmod_nat (n k : Nat) : (n : Int).tmod (k : Int) = ((n % k : Nat) : Int) := by
  rw [Int.tmod_eq_emod_of_nonneg (by omega)]; push_cast; rfl
theorem strOf_made0 (d : UInt8) (w : World) : strOf (w.alloc (Obj.cells #[Value.int IntKind.u8 (d.toNat : Int)] 5)).drew (Value.slice (some ⟨w.heap.size, 0, none⟩) 1 1) = some [d] :=
  (strOf_one w _ _ _ 1 rfl).trans (by simp)
theorem strOf_made (d : UInt8) (w : World) (p : Regrown) : strOf (grown (w.alloc (Obj.cells #[Value.int IntKind.u8 (d.toNat : Int)] 5)).drew p) (Value.slice (some ⟨w.heap.size, 0, none⟩) 1 1) = some [d] :=
  strOf_below (strOf_made0 d w) (by simp [go_sem]) (below_grown' _ _)
theorem decimal_more (n : Nat) (h : 10 ≤ n) (h2 : n < 256) (hrec : ∀ w, Calls Tryz.prog 59 #[.int .i64 ((n / 10 : Nat) : Int)] w fun e w' => e = .returned (.string ⟨(decT (n / 10)).toArray⟩) ∧ Below w.heap.size w w') (w : World) :
    Calls Tryz.prog 59 #[.int .i64 (n : Int)] w fun e w' => e = .returned (.string ⟨(decT n).toArray⟩) ∧ Below w.heap.size w w' := by
  have HC := Lib.hid hrec
  have hl := decT_len (n / 10)
  rw [decT_2 n h h2]
  have hd := decD_int (n % 10) (by omega)
  have hq : (n : Int).tdiv 10 = ((n / 10 : Nat) : Int) := tdiv_nat n 10
  have hr : (n : Int).tmod 10 = ((n % 10 : Nat) : Int) := tmod_nat n 10
  have hw : (IntKind.i64.wrap ((n / 10 : Nat) : Int)) = ((n / 10 : Nat) : Int) := IntWalk.i64_in _ (by omega)
  have hw2 : (IntKind.i64.wrap (48 + ((n % 10 : Nat) : Int))) = 48 + ((n % 10 : Nat) : Int) := IntWalk.i64_in _ (by omega)
  generalize decD (n % 10) = d at *
  generalize decT (n / 10) = T at *
  generalize n / 10 = q at *
  generalize n % 10 = r at *
  have hn : ¬ 9223372036854775807 < T.length + 1 := by omega
  have hso0 := strOf_made0 d
  have hso := strOf_made d
  clear hrec
  go_enter Tryz.func59, Tryz.ntmps59
  go_wp2
  go_region_law (first | (go_simp; with_reducible refine (HC.out _).mono ?_; rintro e w1 ⟨rfl, hb1⟩; obtain ⟨p1, rfl⟩ := grown_of hb1; clear hb1; dsimp only))
  all_goals
    go_wp2
    go_ret
    exact ⟨rfl, (by repeat (first | exact Below.refl _ _ | assumption | refine below_grown ?_ (by first | omega | (simp [go_sem]; done) | (simp [go_sem] <;> omega)) _ | refine Below.alloc ?_ (by first | omega | (simp [go_sem]; done) | (simp [go_sem] <;> omega)) _ | refine below_bytesW ?_ (by first | omega | (simp [go_sem]; done) | (simp [go_sem] <;> omega)) _ | refine Below.drew ?_ | refine below_drewN ?_ _))⟩
theorem decimal_any (c : UInt8) (w : World) :
    Calls Tryz.prog 59 #[.int .i64 (c.toNat : Int)] w fun e w' => e = .returned (.string ⟨(decT c.toNat).toArray⟩) ∧ Below w.heap.size w w' := by
  have h := c.toNat_lt
  have h1 : ∀ n : Nat, n < 10 → ∀ w, Calls Tryz.prog 59 #[.int .i64 (n : Int)] w fun e w' => e = .returned (.string ⟨(decT n).toArray⟩) ∧ Below w.heap.size w w' := fun n hn w => decimal_one n hn w
  have h2 : ∀ n : Nat, n < 100 → ∀ w, Calls Tryz.prog 59 #[.int .i64 (n : Int)] w fun e w' => e = .returned (.string ⟨(decT n).toArray⟩) ∧ Below w.heap.size w w' := fun n hn w => by
    by_cases hs : n < 10
    · exact h1 n hs w
    · exact decimal_more n (by omega) (by omega) (h1 (n / 10) (by omega)) w
  by_cases hs : c.toNat < 10
  · exact h1 _ hs w
  · exact decimal_more _ (by omega) (by omega) (h2 (c.toNat / 10) (by omega)) w

/-! ### hexadecimal digits -/
theorem hex_slice (n : Nat) (h : n < 16) : (([48, 49, 50, 51, 52, 53, 54, 55, 56, 57, 97, 98, 99, 100, 101, 102] : List UInt8).drop n).take 1 = [hexd n] := by
  have key : ∀ i : Fin 16, (([48, 49, 50, 51, 52, 53, 54, 55, 56, 57, 97, 98, 99, 100, 101, 102] : List UInt8).drop i.val).take 1 = [hexd i.val] := by decide +kernel
  exact key ⟨n, h⟩
theorem hex_one (n : Nat) (h : n < 16) (w : World) :
    Calls Tryz.prog 88 #[.int .i64 (n : Int)] w fun e w' => e = .returned (.string ⟨(hexL n).toArray⟩) ∧ Below w.heap.size w w' := by
  rw [show hexL n = [hexd n] from if_pos h]
  have hd := hex_slice n h
  have hw : (IntKind.i64.wrap ((n : Int) + 1)) = (n : Int) + 1 := IntWalk.i64_in _ (by omega)
  generalize hexd n = d at *
  go_enter Tryz.func88, Tryz.ntmps88
  go_wp2
  go_ret
  exact ⟨ret_str (by simp), (by repeat (first | exact Below.refl _ _ | assumption | refine below_grown ?_ (by first | omega | (simp [go_sem]; done) | (simp [go_sem] <;> omega)) _ | refine Below.alloc ?_ (by first | omega | (simp [go_sem]; done) | (simp [go_sem] <;> omega)) _ | refine below_bytesW ?_ (by first | omega | (simp [go_sem]; done) | (simp [go_sem] <;> omega)) _ | refine Below.drew ?_ | refine below_drewN ?_ _))⟩
theorem hex_more (n : Nat) (h : 16 ≤ n) (h2 : n < 65536) (hrec : ∀ w, Calls Tryz.prog 88 #[.int .i64 ((n / 16 : Nat) : Int)] w fun e w' => e = .returned (.string ⟨(hexL (n / 16)).toArray⟩) ∧ Below w.heap.size w w') (w : World) :
    Calls Tryz.prog 88 #[.int .i64 (n : Int)] w fun e w' => e = .returned (.string ⟨(hexL n).toArray⟩) ∧ Below w.heap.size w w' := by
  have HC := Lib.hid hrec
  have hl := (hexL_len (n / 16)).2
  rw [hexL_step n h h2]
  have hd := hex_slice (n % 16) (by omega)
  have hr16 : n % 16 < 16 := by omega
  have hq : (n : Int).tdiv 16 = ((n / 16 : Nat) : Int) := tdiv_nat n 16
  have hr : (n : Int).tmod 16 = ((n % 16 : Nat) : Int) := tmod_nat n 16
  have hw : (IntKind.i64.wrap ((n / 16 : Nat) : Int)) = ((n / 16 : Nat) : Int) := IntWalk.i64_in _ (by omega)
  have hw2 : (IntKind.i64.wrap (((n % 16 : Nat) : Int) + 1)) = ((n % 16 : Nat) : Int) + 1 := IntWalk.i64_in _ (by omega)
  generalize hexd (n % 16) = d at *
  generalize hexL (n / 16) = T at *
  generalize n / 16 = q at *
  generalize n % 16 = r at *
  have hn : ¬ 9223372036854775807 < T.length + 1 := by omega
  have hx1 : (0 : Int) ≤ (r : Int) + 1 := by omega
  have hx2 : (r : Int) + 1 ≤ 16 := by omega
  have hx3 : (r : Int) ≤ (r : Int) + 1 := by omega
  clear hrec
  go_enter Tryz.func88, Tryz.ntmps88
  go_wp2
  go_region_law (first | (go_simp; with_reducible refine (HC.out _).mono ?_; rintro e w1 ⟨rfl, hb1⟩; obtain ⟨p1, rfl⟩ := grown_of hb1; clear hb1; dsimp only))
  all_goals
    go_wp2
    go_ret
    exact ⟨rfl, (by repeat (first | exact Below.refl _ _ | assumption | refine below_grown ?_ (by first | omega | (simp [go_sem]; done) | (simp [go_sem] <;> omega)) _ | refine Below.alloc ?_ (by first | omega | (simp [go_sem]; done) | (simp [go_sem] <;> omega)) _ | refine below_bytesW ?_ (by first | omega | (simp [go_sem]; done) | (simp [go_sem] <;> omega)) _ | refine Below.drew ?_ | refine below_drewN ?_ _))⟩
theorem hex_any (n : Nat) (h : n < 65536) (w : World) :
    Calls Tryz.prog 88 #[.int .i64 (n : Int)] w fun e w' => e = .returned (.string ⟨(hexL n).toArray⟩) ∧ Below w.heap.size w w' := by
  have step : ∀ (k : Nat), k ≤ 65536 → (∀ n : Nat, n < k → ∀ w, Calls Tryz.prog 88 #[.int .i64 (n : Int)] w fun e w' => e = .returned (.string ⟨(hexL n).toArray⟩) ∧ Below w.heap.size w w') := by
    intro k
    induction k using Nat.strongRecOn with
    | _ k ih =>
      intro hk n hn w
      by_cases hs : n < 16
      · exact hex_one n hs w
      · exact hex_more n (by omega) (by omega) (ih (n / 16 + 1) (by omega) (by omega) (n / 16) (by omega)) w
  exact step 65536 (Nat.le_refl _) n h w
theorem group02_any (a : GAddr) (k : Nat) (hk : k < 8) (hk' : k < (grpL a.b).length) (w : World) :
    Calls Tryz.prog 60 #[.agg (addrC a), .int .i64 (k : Int)] w fun e w' => e = .returned (.int .i64 (((grpL a.b)[k]'hk').toNat : Int)) ∧ Below w.heap.size w w' := by
  have hlen := a.len
  rw [grpL_get a.b k hk' (by omega) (by omega), w16_nat]
  have hv : Var (w.alloc (Obj.cells (addrC a) 24)) w.heap.size (u8Cod.encs a.b) := Var.new _ _ _ (by rw [addrC_encs]) rfl
  have hc1 := u8At hv.list (2 * k) (by omega)
  have hc2 := u8At hv.list (2 * k + 1) (by omega)
  rw [Nat.zero_add] at hc1 hc2
  generalize a.b[2 * k]'(by omega) = x at *
  generalize a.b[2 * k + 1]'(by omega) = y at *
  have hx := x.toNat_lt
  have hy := y.toNat_lt
  have HV := Lib.hid hv
  clear hv
  go_enter Tryz.func60, Tryz.ntmps60
  go_wp2
  go_region
  go_wp2
  go_ret
  exact ⟨by first | rfl | (go_num; done) | (go_num; rfl), (by repeat (first | exact Below.refl _ _ | assumption | refine below_grown ?_ (by first | omega | (simp [go_sem]; done) | (simp [go_sem] <;> omega)) _ | refine Below.alloc ?_ (by first | omega | (simp [go_sem]; done) | (simp [go_sem] <;> omega)) _ | refine below_bytesW ?_ (by first | omega | (simp [go_sem]; done) | (simp [go_sem] <;> omega)) _ | refine Below.drew ?_ | refine below_drewN ?_ _))⟩
end Go.Proofs.YtmfjabpmhkechaaGreatDoor
