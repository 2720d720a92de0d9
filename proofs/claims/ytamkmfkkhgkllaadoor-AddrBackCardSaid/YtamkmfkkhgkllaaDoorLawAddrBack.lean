/- The walk of the statement AddrBack. -/
import Derived.Test.YtamkmfkkhgkllaaDoorAddrAlive
import Derived.Test.YtamkmfkkhgkllaaDoorAddrV4
namespace Go.Proofs.YtamkmfkkhgkllaaDoor
open Go Go.RowKit
set_option maxRecDepth 20000
set_option linter.unusedSimpArgs false
set_option linter.unusedVariables false

theorem from_grpG (a : GAddr) : fromG (grpG a) = a := addr_ext (from_grp a.b (by rw [a.len]))
theorem back6 (a : GAddr) : v6Ok (text6L a.b) = true ∧ v6A (text6L a.b) = a := by
  have h := v6_text (grpL a.b) (grpG a).len
  obtain ⟨h1, h2⟩ := v6_yes h (grpG a).len
  exact ⟨h1, h2.trans (from_grpG a)⟩
def lowA (a : GAddr) : GAddr := ⟨List.replicate 12 0 ++ a.b.drop 12, by simp [a.len]⟩
theorem back4 (a : GAddr) : v4Ok (text4L a.b) = true ∧ v4A (text4L a.b) = lowA a := by
  obtain ⟨h1, h2⟩ := v4_text a.b a.len
  exact ⟨h1, addr_ext ((v4_yes h1).trans h2)⟩
theorem text4_len (a : GAddr) : (text4L a.b).length ≤ 1000 := by
  have := joinL_le 46 ((a.b.drop 12).map fun c => decT c.toNat) 3 (fun p hp => by
    simp only [List.mem_map] at hp
    obtain ⟨y, _, rfl⟩ := hp
    exact (decT_ok y).2.2.2)
  rw [List.length_map, List.length_drop, a.len] at this
  show (joinL 46 _).length ≤ _
  omega
theorem addrC_get (a : GAddr) (k : Nat) (h : k < a.b.length) : (addrC a)[k]? = some (.int .u8 ((a.b[k]'h).toNat : Int)) := by
  rw [addrC, addrL]; simp [h]
theorem addrC_at (a : GAddr) (k : Nat) (h : k < a.b.length) (h' : k < (addrC a).size) : (addrC a)[k]'h' = .int .u8 ((a.b[k]'h).toNat : Int) := by
  have := addrC_get a k h
  rw [Array.getElem?_eq_getElem h'] at this
  exact Option.some.inj this
def lowV (x0 x1 x2 x3 : UInt8) : Array Value := (u8Cod.encs (List.replicate 12 0 ++ [x0, x1, x2, x3])).toArray
theorem run_build_low (x0 x1 x2 x3 : UInt8) (w : World) :
    (Instr.build 26 #[(12, .int .u8 (x0.toNat : Int)), (13, .int .u8 (x1.toNat : Int)), (14, .int .u8 (x2.toNat : Int)), (15, .int .u8 (x3.toNat : Int))]).run Tryd.prog w = .ok (.agg (lowV x0 x1 x2 x3)) w := by
  have : ∀ v0 v1 v2 v3 : Int, (Instr.build 26 #[(12, .int .u8 v0), (13, .int .u8 v1), (14, .int .u8 v2), (15, .int .u8 v3)]).run Tryd.prog w = .ok (.agg (List.replicate 12 (Value.int .u8 0) ++ [Value.int .u8 v0, Value.int .u8 v1, Value.int .u8 v2, Value.int .u8 v3]).toArray) w := by
    intro v0 v1 v2 v3
    kernel_rfl
  rw [this]
  rfl
@[go_sem ↓ high] theorem run_op_build_low (ev : Operand → Value) (dst : Option Tmp) (x0 x1 x2 x3 : Operand) (ty : TypeId) (pos : String) (af : Array Edge) (g : Option (Nat × Bool)) (w : World) :
    Sem.run Tryd.prog (execOp ev { dst := dst, op := .build 26 #[(12, x0), (13, x1), (14, x2), (15, x3)], type := ty, pos := pos, after := af, guard := g }) w = buildRow Tryd.prog w 26 #[(12, ev x0), (13, ev x1), (14, ev x2), (15, ev x3)] := by
  rw [run_op_build]
  simp
@[go_sem] theorem buildLow_at (x0 x1 x2 x3 : UInt8) (w : World) : buildRow Tryd.prog w 26 #[(12, .int .u8 (x0.toNat : Int)), (13, .int .u8 (x1.toNat : Int)), (14, .int .u8 (x2.toNat : Int)), (15, .int .u8 (x3.toNat : Int))] = .ok (.value (.agg (lowV x0 x1 x2 x3))) w := by
  rw [buildRow, Sem.run_bind, run_build_low]
  rfl
theorem lowV_eq (a : GAddr) (h12 : 12 < a.b.length) (h13 : 13 < a.b.length) (h14 : 14 < a.b.length) (h15 : 15 < a.b.length) : lowV (a.b[12]'h12) (a.b[13]'h13) (a.b[14]'h14) (a.b[15]'h15) = addrC (lowA a) := by
  obtain ⟨l, hl⟩ := a
  obtain ⟨a, b, c, d, e, f, g, i, j, k, m, n, o, p, q, r, rfl⟩ := list16 l hl
  rw [lowV, addrC_encs]
  rfl
set_option maxHeartbeats 1000000 in
theorem back_law (a : GAddr) (m : Int) (w : World) (hm : HasMax m w) (htz : HasTz w) (hd : HasDec w) :
    Calls Tryd.prog 8 #[.agg (addrC a)] w fun e w' => e = .returned (.bool true) ∧ Below w.heap.size w w' := by
  have H6 : Hid (∀ w, HasTz w → Calls Tryd.prog 14 #[.agg (addrC a)] w fun e w' => e = .returned (.string ⟨(text6L a.b).toArray⟩) ∧ Below w.heap.size w w') := fun w h => text6_any a w h
  have H4 : Hid (∀ w, HasDec w → Calls Tryd.prog 17 #[.agg (addrC a)] w fun e w' => e = .returned (.string ⟨(text4L a.b).toArray⟩) ∧ Below w.heap.size w w') := fun w h => text4_any a w h
  have HV6 : Hid (∀ w, HasMax m w → Calls Tryd.prog 15 #[.string ⟨(text6L a.b).toArray⟩] w fun e w' => e = .returned (.tuple #[.agg (addrC a), .bool true]) ∧ Below w.heap.size w w') := fun w hm => by
    have := v6_any (text6L a.b) (by have := (text6_len _ (grpG a).len).2; show (text6G _).length ≤ _; exact Nat.le_trans this (by decide)) m w hm
    rwa [(back6 a).1, (back6 a).2] at this
  have HV4 : Hid (∀ w, HasMax m w → Calls Tryd.prog 20 #[.string ⟨(text4L a.b).toArray⟩] w fun e w' => e = .returned (.tuple #[.agg (addrC (lowA a)), .bool true]) ∧ Below w.heap.size w w') := fun w hm => by
    have := v4_any (text4L a.b) (Nat.le_trans (text4_len a) (by decide)) m w hm
    rwa [(back4 a).1, (back4 a).2] at this
  have he1 : addrEq a a = true := (addrEq_iff _ _).2 rfl
  have he2 : addrEq (lowA a) (lowA a) = true := (addrEq_iff _ _).2 rfl
  have hlen := a.len
  have hcs := addrC_size a
  have hc12 : ∀ h, (addrC a)[12]'h = .int .u8 ((a.b[12]'(by omega)).toNat : Int) := fun h => addrC_at a _ _ h
  have hc13 : ∀ h, (addrC a)[13]'h = .int .u8 ((a.b[13]'(by omega)).toNat : Int) := fun h => addrC_at a _ _ h
  have hc14 : ∀ h, (addrC a)[14]'h = .int .u8 ((a.b[14]'(by omega)).toNat : Int) := fun h => addrC_at a _ _ h
  have hc15 : ∀ h, (addrC a)[15]'h = .int .u8 ((a.b[15]'(by omega)).toNat : Int) := fun h => addrC_at a _ _ h
  have hlow := lowV_eq a (by omega) (by omega) (by omega) (by omega)
  generalize a.b[12]'(by omega) = x0 at *
  generalize a.b[13]'(by omega) = x1 at *
  generalize a.b[14]'(by omega) = x2 at *
  generalize a.b[15]'(by omega) = x3 at *
  generalize lowA a = la at *
  generalize text6L a.b = X at *
  generalize text4L a.b = Y at *
  go_enter Tryd.func8, Tryd.ntmps8
  go_wp2_with (first
    | (go_at_call 11; refine (addrAlive_any m _ (by repeat (first | exact hm | apply HasMax.grown | apply HasMax.alloc | apply HasMax.drew)) (by repeat (first | exact htz | apply HasTz.grown | apply HasTz.alloc | apply HasTz.drew))).mono ?_; rintro e w1 ⟨rfl, hb1⟩; obtain ⟨p1, rfl⟩ := grown_of hb1; clear hb1)
    | (go_at_call 14; refine (H6.out _ (by repeat (first | exact htz | apply HasTz.grown | apply HasTz.alloc | apply HasTz.drew))).mono ?_; rintro e w1 ⟨rfl, hb1⟩; obtain ⟨p1, rfl⟩ := grown_of hb1; clear hb1)
    | (go_at_call 15; refine (HV6.out _ (by repeat (first | exact hm | apply HasMax.grown | apply HasMax.alloc | apply HasMax.drew))).mono ?_; rintro e w1 ⟨rfl, hb1⟩; obtain ⟨p1, rfl⟩ := grown_of hb1; clear hb1)
    | (go_at_call 17; refine (H4.out _ (by repeat (first | exact hd | apply HasDec.grown | apply HasDec.alloc | apply HasDec.drew))).mono ?_; rintro e w1 ⟨rfl, hb1⟩; obtain ⟨p1, rfl⟩ := grown_of hb1; clear hb1)
    | (go_at_call 20; refine (HV4.out _ (by repeat (first | exact hm | apply HasMax.grown | apply HasMax.alloc | apply HasMax.drew))).mono ?_; rintro e w1 ⟨rfl, hb1⟩; obtain ⟨p1, rfl⟩ := grown_of hb1; clear hb1))
  go_ret
  exact ⟨by simp, (by repeat (first | exact Below.refl _ _ | assumption | refine below_grown ?_ (by first | omega | (simp [go_sem]; done) | (simp [go_sem] <;> omega)) _ | refine Below.alloc ?_ (by first | omega | (simp [go_sem]; done) | (simp [go_sem] <;> omega)) _ | refine below_bytesW ?_ (by first | omega | (simp [go_sem]; done) | (simp [go_sem] <;> omega)) _ | refine Below.drew ?_ | refine below_drewN ?_ _))⟩
end Go.Proofs.YtamkmfkkhgkllaaDoor
