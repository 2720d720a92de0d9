/- Merged: TplKs, TplK. -/
import Derived.Test.YtnkckejbkbbdlaaGreatDoorTmG
import Derived.Test.YtnkckejbkbbdlaaGreatDoorTmC2
import Derived.Test.YtnkckejbkbbdlaaGreatDoorTmInst
import Derived.Deep.RegionLaw
import Derived.Deep.DeepCutAuto
import Derived.Deep.RegionHeld3
namespace Go.Proofs.YtnkckejbkbbdlaaGreatDoor
section
open Go Go.RowKit
set_option linter.unusedSimpArgs false
set_option linter.unusedVariables false

theorem storeRow_mid {P : Program} {t : TypeId} (w : World) (b o : Nat) (old : List Value) (cs : Array Value) (h : isAggT P t = true) (hs : cs.size = P.cellsOf t) (hv : Var w b old) (ho : o + cs.size ≤ old.length) (h1 : allOne cs = true) :
    storeRow P w t (.pointer (some ⟨b, o, none⟩)) (.agg cs) = .ok .skip (w.setRow b (old.take o ++ cs.toList ++ old.drop (o + cs.size)).toArray) := by
  obtain ⟨_, h2⟩ := isAggT_run h w
  obtain ⟨t', hh⟩ := hv
  have h3 : (Value.agg cs).cells = cs := rfl
  have := run_storeCells_at P b o t' cs.toList 0 old.toArray w hh (by simp; omega) (List.all_eq_true.1 h1)
  simp only [storeRow, Instr.storeAt, Instr.sureAddr, storeVar, Sem.run_bind, Sem.run_pure, Result.andThen_ok, h2, h3, hs]
  simp only [Nat.add_zero, Array.length_toList] at this
  simp [this, hs]
theorem splice {α : Type} (A U U' Z : List α) (n : Nat) (hA : A.length = 1) (hU : U.length = n) : (A ++ (U ++ Z)).take 1 ++ U' ++ (A ++ (U ++ Z)).drop (1 + n) = A ++ (U' ++ Z) := by
  rw [List.take_left' hA, ← List.append_assoc A U Z, List.drop_left' (by rw [List.length_append, hA, hU]), List.append_assoc]
/-- The URL stored into a template's variable. -/
theorem store_url (w : World) (b : Nat) (s : List UInt8) (u u' : Bool × GHost × Int × List UInt8) (tx : List UInt8) (line : Int) (hv : Var w b (tpR ⟨s, u, tx, line⟩)) :
    storeRow Tryz.prog w 39 (.pointer (some ⟨b, 1, none⟩)) (.agg (urlV u'.1 u'.2.1 u'.2.2.1 u'.2.2.2)) = .ok .skip (w.setRow b (tpV ⟨s, u', tx, line⟩)) := by
  have hl : (urlR u.1 u.2.1 u.2.2.1 u.2.2.2).length = 21 := urlR_length _ _ _ _
  have := storeRow_mid (P := Tryz.prog) (t := 39) w b 1 _ (urlV u'.1 u'.2.1 u'.2.2.1 u'.2.2.2) agg_url (by rw [urlV_size, cellsOf_url]) hv (by rw [urlV_size, tpR_length]; decide) (urlV_one _ _ _ _)
  rw [this, urlV_size]
  have e : (tpR ⟨s, u, tx, line⟩).take 1 ++ (urlV u'.1 u'.2.1 u'.2.2.1 u'.2.2.2).toList ++ (tpR ⟨s, u, tx, line⟩).drop (1 + 21) = tpR ⟨s, u', tx, line⟩ := splice _ _ (urlR u'.1 u'.2.1 u'.2.2.1 u'.2.2.2) _ 21 rfl hl
  rw [e]; rfl
end

section
open Go Go.RowKit
set_option maxRecDepth 20000
set_option linter.unusedSimpArgs false
set_option linter.unusedVariables false

theorem run_build_tp (s : List UInt8) (line : Int) (w : World) : (Instr.build 41 #[(3, .int .i64 line), (0, .string ⟨s.toArray⟩)]).run Tryz.prog w = .ok (.agg (tpV ⟨s, zeroU, [], line⟩)) w := by kernel_rfl
@[go_sem ↓ high] theorem run_op_build_tp (ev : Operand → Value) (dst : Option Tmp) (x0 x1 : Operand) (ty : TypeId) (pos : String) (af : Array Edge) (g : Option (Nat × Bool)) (w : World) :
    Sem.run Tryz.prog (execOp ev { dst := dst, op := .build 41 #[(3, x0), (0, x1)], type := ty, pos := pos, after := af, guard := g }) w = buildRow Tryz.prog w 41 #[(3, ev x0), (0, ev x1)] := by
  rw [run_op_build]
  simp
@[go_sem] theorem buildTp_at (s : List UInt8) (line : Int) (w : World) : buildRow Tryz.prog w 41 #[(3, .int .i64 line), (0, .string ⟨s.toArray⟩)] = .ok (.value (.agg (tpV ⟨s, zeroU, [], line⟩))) w := by
  rw [buildRow, Sem.run_bind, run_build_tp]
  rfl
@[go_sem ↓ high] theorem aggTp_lit (x : List UInt8) (line : Int) : Value.agg #[.string ⟨x.toArray⟩, .bool false, .int .i64 0, .string ⟨#[]⟩, .int .u8 0, .int .u8 0, .int .u8 0, .int .u8 0, .int .u8 0, .int .u8 0, .int .u8 0, .int .u8 0, .int .u8 0, .int .u8 0, .int .u8 0, .int .u8 0, .int .u8 0, .int .u8 0, .int .u8 0, .int .u8 0, .int .i64 0, .string ⟨#[]⟩, .string ⟨#[]⟩, .int .i64 line] = .agg (tpV ⟨x, zeroU, [], line⟩) := rfl
theorem tpR_set22 (x : List UInt8) (u : Bool × GHost × Int × List UInt8) (s : List UInt8) (line : Int) : (tpR ⟨x, u, [], line⟩).set 22 (.string ⟨s.toArray⟩) = tpR ⟨x, u, s, line⟩ := by
  unfold tpR
  simp [List.set_append, urlR_length]
/-- A way that ends inside a region: a done region in its place, for the walk. -/
theorem panicOut {G : Prop} {w0 : World} (h : G) (hd : wpAny Tryz.prog .any (#[] : Array Oper) (fun _ _ _ => True) 1 #[] ⟨#[], []⟩ w0) : G := h
def CookiePost (B b : Nat) (T : List GTpl) (C : List GCh) (line : Int) (vW : Value) (W : List (List UInt8)) (w : World) (e : Ending) (w' : World) : Prop :=
  Keeps (Also b B) w w' ∧ (((ckLine W T C line).1 = 0 ∧ e = .returned (.tuple #[]) ∧ RdS w' B b (T ++ [(ckLine W T C line).2.2]) C line vW) ∨ ((ckLine W T C line).1 ≠ 0 ∧ e = faultP (ckLine W T C line).1 line (colW W (ckLine W T C line).2.1)))
theorem tp_cell22 {w : World} {b : Nat} {x : List UInt8} {u : Bool × GHost × Int × List UInt8} {s : List UInt8} {line : Int} (h : Var w b (tpR ⟨x, u, s, line⟩)) : w.cell? ⟨b, 22, none⟩ = some (.string ⟨s.toArray⟩) := by
  obtain ⟨t, h⟩ := h
  simp only [World.cell?, h]
  exact tpV_22 ⟨x, u, s, line⟩
theorem tp_new (w : World) (r : GTpl) (t : TypeId) {b : Nat} (hb : b = w.heap.size) : ListAt tpCod (w.alloc (.cells (tpV r) t)) b 0 [r] := listAt_new w _ _ _ (by show _ = tpR r ++ []; rw [List.append_nil]; rfl) hb
end
end Go.Proofs.YtnkckejbkbbdlaaGreatDoor
