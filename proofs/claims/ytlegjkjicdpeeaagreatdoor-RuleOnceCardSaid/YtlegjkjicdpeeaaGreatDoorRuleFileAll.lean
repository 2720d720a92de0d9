/- Merged: Fault, RuleCol, RuleFileP, RuleFileR, RuleMap, RuleFileW, RuleSame. -/
import Derived.Test.YtlegjkjicdpeeaaGreatDoorHost
import Derived.Test.YtlegjkjicdpeeaaGreatDoorVar
import Derived.Test.YtlegjkjicdpeeaaGreatDoorRuleAll
import Derived.Test.YtlegjkjicdpeeaaGreatDoorLines
import Derived.Test.YtlegjkjicdpeeaaGreatDoorLinesR
import Derived.Maps.Own
import Derived.WideKeyEntry
import Derived.DeepKeys4
namespace Go.Proofs.YtlegjkjicdpeeaaGreatDoor
section
open Go Go.RowKit
set_option maxRecDepth 20000
set_option linter.unusedSimpArgs false
set_option linter.unusedVariables false

structure GFault where
  code : Int
  line : Int
  col : Int
def faultR (c l k : Int) : List Value := [.int .i64 c, .int .i64 l, .int .i64 k]
def faultV (c l k : Int) : Array Value := (faultR c l k).toArray
@[go_sem] theorem faultV_size (c l k : Int) : (faultV c l k).size = 3 := by simp [faultV, faultR]
theorem fault_one (c l k : Int) : ∀ v ∈ faultR c l k, v.oneCell' = true := by
  intro v hv
  simp only [faultR, List.mem_cons, List.not_mem_nil, or_false] at hv
  rcases hv with rfl | rfl | rfl <;> rfl
@[go_sem] theorem faultV_one (c l k : Int) : allOne (faultV c l k) = true := allOne_of (fault_one c l k)
@[go_sem ↓ high] theorem faultV_0 (c l k : Int) : (faultV c l k)[0]? = some (.int .i64 c) := by simp [faultV, faultR]
@[go_sem ↓ high] theorem faultV_1 (c l k : Int) : (faultV c l k)[1]? = some (.int .i64 l) := by simp [faultV, faultR]
@[go_sem ↓ high] theorem faultV_2 (c l k : Int) : (faultV c l k)[2]? = some (.int .i64 k) := by simp [faultV, faultR]
@[go_sem] theorem faultV_all (c l k : Int) : (faultV c l k).extract 0 3 = faultV c l k := by
  rw [← faultV_size c l k]; simp
@[go_sem] theorem agg_fault : isAggT Tryz.prog 46 = true := by kernel_rfl
@[go_sem] theorem cellsOf_fault : Tryz.prog.cellsOf 46 = 3 := by kernel_rfl
def faultEq (c l k c' l' k' : Int) : Bool := c == c' && (l == l' && k == k')
theorem faultEq_iff {c l k c' l' k' : Int} : faultEq c l k c' l' k' = true ↔ c = c' ∧ l = l' ∧ k = k' := by
  simp [faultEq]
theorem cellsOf_errno : Tryz.prog.cellsOf 25 = 1 := by kernel_rfl
theorem keyLits_errno (D : Nat) (n : Int) (h : (Lit.int .i64 n).wf = true) : Tryz.prog.keyLits (D + 1) 25 [.int .i64 n] = some [.int .i64 n] := by
  simp [Program.keyLits, Tryz.underlying25, h]
theorem keyLits_fault (D : Nat) (c l k : Int) (h1 : (Lit.int .i64 c).wf = true) (h2 : (Lit.int .i64 l).wf = true) (h3 : (Lit.int .i64 k).wf = true) : Tryz.prog.keyLits (D + 3) 46 (faultR c l k) = some [.int .i64 c, .int .i64 l, .int .i64 k] := by
  unfold Program.keyLits
  rw [Tryz.underlying46]
  simp [cellsOf_fault, faultR, cellsOf_int, cellsOf_errno, keyLits_errno, keyLits_i64, h1, h2, h3]
theorem fault_rows (c l k c' l' k' : Int) (h1 : (Lit.int .i64 c).wf = true) (h2 : (Lit.int .i64 l).wf = true) (h3 : (Lit.int .i64 k).wf = true) (h1' : (Lit.int .i64 c').wf = true) (h2' : (Lit.int .i64 l').wf = true) (h3' : (Lit.int .i64 k').wf = true) (x y : Operand) (w : World) :
    eqRow Tryz.prog w 46 x y (.agg (faultV c l k)) (.agg (faultV c' l' k')) = .ok (.value (.bool (faultEq c l k c' l' k'))) w ∧
    neRow Tryz.prog w 46 x y (.agg (faultV c l k)) (.agg (faultV c' l' k')) = .ok (.value (.bool (!faultEq c l k c' l' k'))) w :=
  eq_rows (m := 10) (by kernel_rfl) (by decide) (by kernel_rfl) (keyLits_fault 0 c l k h1 h2 h3) (keyLits_fault 0 c' l' k' h1' h2' h3') (by simp [Value.formed, Tryz.underlying46, cellsOf_fault, faultR]) (by simp [Value.formed, Tryz.underlying46, cellsOf_fault, faultR])
    (by rw [faultEq_iff]; simp) x y w
@[go_sem] theorem eqRow_fault (c l k c' l' k' : Int) (h1 : (Lit.int .i64 c).wf = true) (h2 : (Lit.int .i64 l).wf = true) (h3 : (Lit.int .i64 k).wf = true) (h1' : (Lit.int .i64 c').wf = true) (h2' : (Lit.int .i64 l').wf = true) (h3' : (Lit.int .i64 k').wf = true) (x y : Operand) (w : World) :
    eqRow Tryz.prog w 46 x y (.agg (faultV c l k)) (.agg (faultV c' l' k')) = .ok (.value (.bool (faultEq c l k c' l' k'))) w := (fault_rows c l k c' l' k' h1 h2 h3 h1' h2' h3' x y w).1
@[go_sem] theorem neRow_fault (c l k c' l' k' : Int) (h1 : (Lit.int .i64 c).wf = true) (h2 : (Lit.int .i64 l).wf = true) (h3 : (Lit.int .i64 k).wf = true) (h1' : (Lit.int .i64 c').wf = true) (h2' : (Lit.int .i64 l').wf = true) (h3' : (Lit.int .i64 k').wf = true) (x y : Operand) (w : World) :
    neRow Tryz.prog w 46 x y (.agg (faultV c l k)) (.agg (faultV c' l' k')) = .ok (.value (.bool (!faultEq c l k c' l' k'))) w := (fault_rows c l k c' l' k' h1 h2 h3 h1' h2' h3' x y w).2
/-! ### built -/
theorem run_build_fault0 (w : World) : (Instr.build 46 #[]).run Tryz.prog w = .ok (.agg (faultV 0 0 0)) w := by kernel_rfl
theorem run_build_fault (c l k : Int) (w : World) : (Instr.build 46 #[(0, .int .i64 c), (1, .int .i64 l), (2, .int .i64 k)]).run Tryz.prog w = .ok (.agg (faultV c l k)) w := by kernel_rfl
@[go_sem ↓ high] theorem run_op_build_fault0 (ev : Operand → Value) (dst : Option Tmp) (ty : TypeId) (pos : String) (af : Array Edge) (g : Option (Nat × Bool)) (w : World) :
    Sem.run Tryz.prog (execOp ev { dst := dst, op := .build 46 #[], type := ty, pos := pos, after := af, guard := g }) w = .ok (.value (.agg (faultV 0 0 0))) w := by
  rw [run_op_build, buildRow, Sem.run_bind]
  simp [run_build_fault0]
@[go_sem ↓ high] theorem run_op_build_fault (ev : Operand → Value) (dst : Option Tmp) (x0 x1 x2 : Operand) (ty : TypeId) (pos : String) (af : Array Edge) (g : Option (Nat × Bool)) (w : World) :
    Sem.run Tryz.prog (execOp ev { dst := dst, op := .build 46 #[(0, x0), (1, x1), (2, x2)], type := ty, pos := pos, after := af, guard := g }) w = buildRow Tryz.prog w 46 #[(0, ev x0), (1, ev x1), (2, ev x2)] := by
  rw [run_op_build]
  simp
@[go_sem] theorem buildFault_at (c l k : Int) (w : World) : buildRow Tryz.prog w 46 #[(0, .int .i64 c), (1, .int .i64 l), (2, .int .i64 k)] = .ok (.value (.agg (faultV c l k))) w := by
  rw [buildRow, Sem.run_bind, run_build_fault]
  rfl
theorem ret_tmp_cell {P : Program} {fn : Func} {p u : Tmp} {ty : TypeId} {R : Ending → World → Prop} {a : Act} {w : World} (g : Nat) (cs : Array Value) (v : Value) (h : fn.results = #[.tmp u, .cell p ty]) (hp : a.tmps.getD p undef = .pointer (some ⟨g, 0, none⟩)) (hv : a.tmps.getD u undef = v) (hagg : isAggT P ty = true)
    (hr : hasRow w ⟨g, 0, none⟩ (P.cellsOf ty) = true) (hc : rowAt w ⟨g, 0, none⟩ (P.cellsOf ty) = cs) (hd : a.defers = []) (hR : R (.returned (.tuple #[v, .agg cs])) w) : bodyPost P fn R .ret a w := by
  refine bodyPost_ret (v := .tuple #[v, .agg cs]) ?_ hd hR
  have hp' : a.tmps[p]?.getD undef = .pointer (some ⟨g, 0, none⟩) := by simpa using hp
  have hv' : a.tmps[u]?.getD undef = v := by simpa using hv
  have := run_loadVar_agg (P := P) hagg ⟨g, 0, none⟩ w hr
  rw [hc] at this
  simp [results, h, hp', hv', asAddr, this]
/-! ### a slice and a fault -/
/-- A call hands back a slice of these values, in memory of its own, and a fault. -/
def GivesF {α : Type} (c : Cod α) (xs : List α) (f : Int × Int × Int) (w : World) (e : Ending) (w' : World) : Prop :=
  ∃ a cap, e = .returned (.tuple #[.slice a xs.length cap, .agg (faultV f.1 f.2.1 f.2.2)]) ∧ xs.length ≤ cap ∧ Below w.heap.size w w' ∧ ListIn c w' a xs w.heap.size
end

section
open Go Go.RowKit
set_option maxRecDepth 20000
set_option linter.unusedSimpArgs false
set_option linter.unusedVariables false

def colR (s : List UInt8) : Int := ((s.length - (Lib.trimLeftS s [32, 9]).length + 1 : Nat) : Int)
theorem trimLeft_le (s cs : List UInt8) : (Lib.trimLeftS s cs).length ≤ s.length := by
  unfold Lib.trimLeftS
  exact (List.dropWhile_sublist _).length_le
theorem column_any (s : List UInt8) (hs : s.length ≤ 4294967000) (w : World) :
    Calls Tryz.prog 62 #[.string ⟨s.toArray⟩] w fun e w' => e = .returned (.int .i64 (colR s)) ∧ Below w.heap.size w w' := by
  have hz : (ByteArray.mk s.toArray).size = s.length := by simp [ByteArray.size]
  have HT : Hid (∀ w, Calls Tryz.prog 91 #[.string ⟨s.toArray⟩, .string ⟨[32, 9].toArray⟩] w fun e w' => e = .returned (.string ⟨(Lib.trimLeftS s [32, 9]).toArray⟩) ∧ Below w.heap.size w w') := fun w =>
    (Any.strings_TrimLeft_laid Tryz.lays161 (by kernel_rfl) ⟨s.toArray⟩ ⟨[32, 9].toArray⟩ w (by decide) (ascii_of_all (by decide))).mono fun e w' h => by simpa using h
  have hle := trimLeft_le s [32, 9]
  have HC : Hid (colR s = ((s.length - (Lib.trimLeftS s [32, 9]).length + 1 : Nat) : Int)) := rfl
  generalize Lib.trimLeftS s [32, 9] = t at *
  have e1 : IntKind.i64.wrap ((s.length : Int) - (t.length : Int)) = (s.length : Int) - (t.length : Int) := IntWalk.i64_in _ (by omega)
  have e2 : IntKind.i64.wrap ((s.length : Int) - (t.length : Int) + 1) = (s.length : Int) - (t.length : Int) + 1 := IntWalk.i64_in _ (by omega)
  go_enter Tryz.func62, Tryz.ntmps62
  go_wp2_with (go_at_call 91; (with_reducible refine (HT.out _).mono ?_); rintro e w1 ⟨rfl, hb1⟩; obtain ⟨p1, rfl⟩ := grown_of hb1; clear hb1)
  go_ret
  refine ⟨?_, (by repeat (first | exact Below.refl _ _ | assumption | refine below_grown ?_ (by first | omega | (simp [go_sem]; done) | (simp [go_sem] <;> omega)) _ | refine Below.alloc ?_ (by first | omega | (simp [go_sem]; done) | (simp [go_sem] <;> omega)) _ | refine below_bytesW ?_ (by first | omega | (simp [go_sem]; done) | (simp [go_sem] <;> omega)) _ | refine Below.drew ?_ | refine below_drewN ?_ _))⟩
  rw [HC.out]
  exact congrArg (fun z => Ending.returned (Value.int .i64 z)) (by omega)
theorem trimLeft_at (s : List UInt8) (k : Nat) (hk : k ≤ s.length) (ha : (s.take k).all blankSp = true) (hc : k = s.length ∨ ∃ h : k < s.length, blankSp (s[k]'h) = false) : (Lib.trimLeftS s [32, 9]).length = s.length - k := by
  have := Lib.trimLeftS_drop s [32, 9] k hk (fun j b hj hb => by
    obtain ⟨hl, rfl⟩ := List.getElem?_eq_some_iff.1 hb
    have : s[j] ∈ s.take k := by rw [List.mem_take_iff_getElem]; exact ⟨j, by omega, rfl⟩
    exact List.all_eq_true.1 ha _ this) (fun b hb => by
    obtain ⟨hl, rfl⟩ := List.getElem?_eq_some_iff.1 hb
    rcases hc with h | ⟨h, hc⟩
    · omega
    · exact hc)
  rw [this, List.length_drop]
theorem all_take_sp (l : List UInt8) (k : Nat) (h : k < l.length) : (l.take (k + 1)).all blankSp = ((l.take k).all blankSp && blankSp (l[k]'h)) := by
  rw [List.take_succ_eq_append_getElem h, List.all_append]; simp
set_option maxHeartbeats 1000000 in
theorem refColumn_any (s : List UInt8) (hs : s.length ≤ 4294967000) (w : World) :
    Calls Tryz.prog 53 #[.string ⟨s.toArray⟩] w fun e w' => e = .returned (.int .i64 (colR s)) ∧ w = w' := by
  have HTA := Lib.hid (trimLeft_at s)
  have HC : Hid (colR s = ((s.length - (Lib.trimLeftS s [32, 9]).length + 1 : Nat) : Int)) := rfl
  generalize Lib.trimLeftS s [32, 9] = t at *
  generalize colR s = col at *
  go_enter Tryz.func53, Tryz.ntmps53
  go_wp2
  go_loop [3] (fun n => ∃ k : Nat, k ≤ s.length ∧ n = .int .i64 ((k : Int) + 1) ∧ Hid ((s.take k).all blankSp = true)) (fun n => s.length + 1 - (intOf n).toNat)
  case atStart => exact ⟨0, Nat.zero_le _, rfl, rfl⟩
  case round =>
    obtain ⟨k, hk, rfl, hinv⟩ := hrel
    by_cases hlt : k < s.length
    · have HS := Lib.hid (all_take_sp s k hlt)
      have HTK := Lib.hid (HTA.out k hk hinv.out)
      have hi : ((k : Int) + 1) ≤ (s.length : Int) := by omega
      have e1 : IntKind.i64.wrap ((k : Int) + 1 - 1) = (k : Int) + 1 - 1 := IntWalk.i64_in _ (by omega)
      have e1' : (k : Int) + 1 - 1 = (k : Int) := by omega
      have hp : blankSp (s[k]'hlt) = false → t.length = s.length - k := fun h => HTK.out (.inr ⟨hlt, h⟩)
      have HPP := Lib.hid hp
      clear hp
      obtain ⟨c, hcc⟩ : ∃ c, ∀ h, s[k]'h = c := ⟨s[k]'hlt, fun _ => rfl⟩
      rw [hcc] at HS HPP
      rcases blank_cases c with ⟨c1, hc⟩ | ⟨c1, c2, hc⟩ | ⟨c1, c2, hc⟩
      · go_wp2
        go_round
        case rel => exact ⟨k + 1, by omega, by go_num, show _ = true by rw [HS.out, hinv.out, hc]; rfl⟩
        case measure => simp [intOf]; omega
      · go_wp2
        go_round
        case rel => exact ⟨k + 1, by omega, by go_num, show _ = true by rw [HS.out, hinv.out, hc]; rfl⟩
        case measure => simp [intOf]; omega
      · have hT := HPP.out hc
        go_wp2
        go_ret
        refine ⟨?_, rfl⟩
        rw [HC.out, hT]
        exact congrArg (fun z => Ending.returned (Value.int .i64 z)) (by omega)
    · obtain rfl : k = s.length := by omega
      have hT := HTA.out _ (Nat.le_refl _) hinv.out (.inl rfl)
      go_wp2
      go_ret
      refine ⟨?_, rfl⟩
      rw [HC.out, hT]
      exact congrArg (fun z => Ending.returned (Value.int .i64 z)) (by omega)
end

section
open Go Go.RowKit
set_option maxRecDepth 20000
set_option linter.unusedSimpArgs false
set_option linter.unusedVariables false

abbrev GRule := Int × List UInt8
abbrev GFlt := Int × Int × Int
/-- From a line on, with these rules so far: the rules and the fault. -/
def ruleStep : List (List UInt8) → Nat → List GRule → List GRule × GFlt
  | [], _, out => (out, 0, 0, 0)
  | x :: L, i, out =>
    if (ruleOut x).2.2 ≠ 0 then ([], (ruleOut x).2.2, (i : Int) + 1, colR x)
    else if (ruleOut x).2.1 = false then ruleStep L (i + 1) out
    else if out.contains (ruleOut x).1 = true then ([], 52, (i : Int) + 1, colR x)
    else if 200 ≤ out.length then ([], 53, (i : Int) + 1, colR x)
    else ruleStep L (i + 1) (out ++ [(ruleOut x).1])
def ruleFile (s : List UInt8) : List GRule × GFlt := if 20000 < s.length then ([], 54, 1, 1) else ruleStep (linesL s) 0 []
theorem ruleStep_at (L : List (List UInt8)) (k : Nat) (h : k < L.length) (out : List GRule) : ruleStep (L.drop k) k out =
    if (ruleOut (L[k]'h)).2.2 ≠ 0 then ([], (ruleOut (L[k]'h)).2.2, (k : Int) + 1, colR (L[k]'h))
    else if (ruleOut (L[k]'h)).2.1 = false then ruleStep (L.drop (k + 1)) (k + 1) out
    else if out.contains (ruleOut (L[k]'h)).1 = true then ([], 52, (k : Int) + 1, colR (L[k]'h))
    else if 200 ≤ out.length then ([], 53, (k : Int) + 1, colR (L[k]'h))
    else ruleStep (L.drop (k + 1)) (k + 1) (out ++ [(ruleOut (L[k]'h)).1]) := by
  rw [List.drop_eq_getElem_cons h]; rfl
theorem ruleStep_end (L : List (List UInt8)) (out : List GRule) : ruleStep (L.drop L.length) L.length out = (out, 0, 0, 0) := by
  rw [List.drop_length]; rfl
theorem linesL_piece (s x : List UInt8) (h : x ∈ linesL s) : x.length ≤ s.length := by
  unfold linesL at h
  obtain ⟨y, hy, rfl⟩ := List.mem_map.1 h
  have h1 : (cutCR y).length ≤ y.length := by
    unfold cutCR Lib.trimSuffix
    split
    · simp
    · exact Nat.le_refl _
  have h2 : y ∈ splitL 10 s := by
    unfold dropEmpty at hy
    split at hy
    · exact List.dropLast_subset _ hy
    · exact hy
  have := splitL_piece_le 10 s y h2
  omega
theorem linesL_le' (l : List UInt8) : (linesL l).length ≤ l.length + 1 := by
  have h1 := splitL_length_le 10 l
  unfold linesL
  rw [List.length_map]
  unfold dropEmpty
  split
  · rw [List.length_dropLast]; omega
  · omega
theorem ruleOut_err (s : List UInt8) : (ruleOut s).2.2 = 0 ∨ ((ruleOut s).2.2 = 51 ∧ (ruleOut s).2.1 = false) := by
  rcases rule_ways s with ⟨_, h⟩ | ⟨_, _, h⟩ | ⟨_, _, h⟩
  · rw [h]; exact .inl rfl
  · rw [h]; exact .inl rfl
  · rcases h with ⟨_, h⟩ | ⟨_, _, h⟩ | ⟨_, _, _, _, h⟩ | ⟨_, _, _, _, h⟩ | ⟨_, _, _, h⟩ <;> rw [h]
    · exact .inr ⟨rfl, rfl⟩
    · exact .inr ⟨rfl, rfl⟩
    · exact .inr ⟨rfl, rfl⟩
    · exact .inl rfl
    · exact .inl rfl
theorem ruleOut_bd' (s : List UInt8) : ((ruleOut s).1.1 = 0 ∨ (ruleOut s).1.1 = 1 ∨ (ruleOut s).1.1 = 2 ∨ (ruleOut s).1.1 = 3) ∧ (ruleOut s).1.2.length ≤ 253 := by
  rcases rule_ways s with ⟨_, h⟩ | ⟨_, _, h⟩ | ⟨_, _, h⟩
  · rw [h]; exact ⟨.inl rfl, Nat.zero_le _⟩
  · rw [h]; exact ⟨.inl rfl, Nat.zero_le _⟩
  · rcases h with ⟨_, h⟩ | ⟨_, _, h⟩ | ⟨_, _, _, _, h⟩ | ⟨_, _, _, _, h⟩ | ⟨_, _, _, h⟩
    · rw [h]; exact ⟨.inl rfl, Nat.zero_le _⟩
    · rw [h]; exact ⟨.inl rfl, Nat.zero_le _⟩
    · rw [h]; exact ⟨.inl rfl, Nat.zero_le _⟩
    · rw [h]; exact ⟨.inr (.inr (.inr rfl)), parseH_name _⟩
    · rw [h]; exact ⟨.inr (ruleKind_1 _), parseH_name _⟩
theorem wf_kind' {k : Int} (h : k = 0 ∨ k = 1 ∨ k = 2 ∨ k = 3) : (Lit.int .i64 k).wf = true := by
  rcases h with rfl | rfl | rfl | rfl <;> rfl
/-- A rule as it lies in a slice. -/
def ruleCod : Cod GRule where
  E := 24
  S := 32
  sz := 2
  bys := 24
  z := .agg (ruleV 0 [])
  enc := fun r => ruleR r.1 r.2
  und := by kernel_rfl
  info := by kernel_rfl
  zsz := by rfl
  pos := by decide
  len := fun _ => rfl
  one := fun r => rule_one r.1 r.2
theorem ruleAt {w : World} {b o : Nat} {xs : List GRule} (h : ListAt ruleCod w b o xs) (j : Nat) (hj : j < xs.length) :
    w.cell? ⟨b, o + j * 2, none⟩ = some (.int .i64 (xs[j]'hj).1) ∧ w.cell? ⟨b, o + j * 2 + 1, none⟩ = some (.string ⟨(xs[j]'hj).2.toArray⟩) := by
  have e0 := ruleCod.encs_get xs j hj 0 (by decide)
  have e1 := ruleCod.encs_get xs j hj 1 (by decide)
  exact ⟨h (j * 2 + 0) _ e0, by rw [Nat.add_assoc]; exact h (j * 2 + 1) _ e1⟩
theorem ruleRow {w : World} {b o : Nat} {xs : List GRule} (h : ListAt ruleCod w b o xs) (j : Nat) (hj : j < xs.length) :
    hasRow w ⟨b, o + j * 2, none⟩ 2 = true ∧ rowAt w ⟨b, o + j * 2, none⟩ 2 = ruleV (xs[j]'hj).1 (xs[j]'hj).2 := by
  obtain ⟨h0, h1⟩ := ruleAt h j hj
  refine ⟨?_, ?_⟩
  · rw [hasRow_iff]
    intro i hi
    rw [add_mk]
    match i, hi with
    | 0, _ => rw [Nat.add_zero, h0]; rfl
    | 1, _ => rw [h1]; rfl
  · have e : rowAt w ⟨b, o + j * 2, none⟩ 2 = #[(w.cell? ⟨b, o + j * 2, none⟩).getD undef, (w.cell? ⟨b, o + j * 2 + 1, none⟩).getD undef] := by
      simp [rowAt, List.range_succ, add_mk]
    rw [e, h0, h1]; rfl
end

section
open Go Go.RowKit
set_option maxRecDepth 20000
set_option linter.unusedSimpArgs false
set_option linter.unusedVariables false

theorem ListAt.into {α : Type} {c : Cod α} {w w' : World} {b o : Nat} {xs : List α} (h : ListAt c w b o xs) (hb : Below w.heap.size w w') : ListAt c w' b o xs := h.below hb
theorem ListIn.setRow {α : Type} {c : Cod α} {w : World} {a : Option Addr} {xs : List α} {lo : Nat} (h : ListIn c w a xs lo) {g : Nat} (hg : g < lo) (cs : Array Value) : ListIn c (w.setRow g cs) a xs lo := by
  rcases h with h | ⟨b, o, h1, h2, h3, h4⟩
  · exact .inl h
  · refine .inr ⟨b, o, h1, h2, by rw [setRow_size']; exact h3, fun j u hj => ?_⟩
    rw [cell_setRow_other _ _ _ _ _ (by omega)]
    exact h4 j u hj
theorem Own.made1 {α : Type} {c : Cod α} {Q : Nat → Prop} {w : World} {t : TypeId} {b : Nat} (ht : t = c.E) (hb : b = w.heap.size) (h : Q b) : Own c Q (w.alloc (.cells #[] t)) (.slice (some ⟨b, 0, none⟩) 0 0) [] := by
  subst hb
  exact Own.made0 h ht
def okR (r : GRule) : Prop := (r.1 = 0 ∨ r.1 = 1 ∨ r.1 = 2 ∨ r.1 = 3) ∧ r.2.length ≤ 253
theorem contains_take (P : List GRule) (r : GRule) (n : Nat) (h : n < P.length) : (P.take (n + 1)).contains r = ((P.take n).contains r || (r == P[n]'h)) := by
  rw [List.take_succ_eq_append_getElem h, Bool.eq_iff_iff]
  simp only [Bool.or_eq_true, List.contains_iff_mem, List.mem_append, List.mem_singleton, beq_iff_eq]
theorem contains_at (P : List GRule) (r : GRule) (n : Nat) (h : n < P.length) (e : P[n]'h = r) : P.contains r = true := by
  rw [List.contains_iff_mem, ← e]; exact List.getElem_mem h
set_option maxRecDepth 100000 in
set_option maxHeartbeats 8000000 in
theorem refRuleFile_any (s : List UInt8) (hs : s.length ≤ 100000) (w : World) :
    Calls Tryz.prog 27 #[.string ⟨s.toArray⟩] w (GivesF ruleCod (ruleFile s).1 (ruleFile s).2 w) := by
  by_cases hlong : (20000 : Int) < s.length
  · have e : ruleFile s = ([], 54, 1, 1) := by unfold ruleFile; rw [if_pos (by omega)]
    rw [e]
    go_enter Tryz.func27, Tryz.ntmps27
    go_wp2
    exact ret_tmp_cell w.heap.size (faultV 54 1 1) (.slice none 0 0) rfl rfl rfl agg_fault (by simp [go_sem]) (by simp [go_sem]) rfl ⟨none, 0, rfl, Nat.le_refl _, below_setRow (by repeat (first | exact Below.refl _ _ | assumption | refine below_grown ?_ (by first | omega | (simp [go_sem]; done) | (simp [go_sem] <;> omega)) _ | refine Below.alloc ?_ (by first | omega | (simp [go_sem]; done) | (simp [go_sem] <;> omega)) _ | refine below_bytesW ?_ (by first | omega | (simp [go_sem]; done) | (simp [go_sem] <;> omega)) _ | refine Below.drew ?_ | refine below_drewN ?_ _)) (Nat.le_refl _) _, .inl rfl⟩
  · have e : ruleFile s = ruleStep (linesL s) 0 [] := by unfold ruleFile; rw [if_neg (by omega)]
    rw [e]
    have HL := Lib.hid (fun w => refLines_any s (by omega) w)
    have HPL := Lib.hid (linesL_piece s)
    have hLl := linesL_le' s
    generalize linesL s = L at *
    clear e
    obtain ⟨RES, hres⟩ : ∃ RES, ruleStep L 0 [] = RES := ⟨_, rfl⟩
    rw [hres]
    have HRES := Lib.hid hres
    clear hres
    go_enter Tryz.func27, Tryz.ntmps27
    go_wp2_with (go_at_call 52; (with_reducible refine (HL.out _).mono ?_); intro e w1 hg; obtain ⟨a1, c1, rfl, hc1, hb1, hin1⟩ := hg; have HBC := Lib.hid hb1; have HIN := Lib.hid hin1; clear hb1 hin1)
    have hs0 := HBC.out.size
    simp at hs0
    have HV3 : Hid (hasVar w1 w.heap.size 3 = true) := (hasVar_congr (HBC.out.block _ (by simp <;> omega))).trans (by simp [go_sem])
    go_loopw [4, 20] (fun out i wr => ∃ (k : Nat) (P : List GRule), k ≤ L.length ∧ P.length ≤ k ∧ i = .int .i64 k ∧ Keeps (Also (w.heap.size + 1) w1.heap.size) w1 wr ∧ Own ruleCod (Also (w.heap.size + 1) w1.heap.size) wr out P ∧ Hid (ruleStep (L.drop k) k P = RES) ∧ Hid (∀ r ∈ P, okR r)) (fun _ i _ => L.length - (intOf i).toNat)
    case atStart => exact ⟨0, [], Nat.zero_le _, Nat.le_refl _, rfl, Keeps.refl _ _, (Own.made1 rfl (by simp) (Or.inl rfl)).below HBC.out, by rw [List.drop_zero]; exact HRES.out, fun r h => by cases h⟩
    case round =>
      obtain ⟨k, P, hk, hPk, rfl, hb, ho, hinv, HPW⟩ := hrel
      have hsz := hb.size
      have HB := Lib.hid hb
      have HO := Lib.hid ho
      have HBE : Hid (Below w.heap.size w wr) := ((((Below.refl _ _).alloc (Nat.le_refl _) _).alloc (by simp) _).trans ((HBC.out.mono (by first | omega | (simp; done) | (simp; omega) | (simp [go_sem]; done) | (simp [go_sem]; omega) | (simp [strCod]; omega))).trans ((hb.below_also (by omega) (Nat.le_refl _)).mono (by omega))))
      have HVR : Hid (hasVar wr w.heap.size 3 = true) := (hasVar_congr (hb.block _ (by omega) (by intro hn; rcases hn with hn | hn <;> first | omega | (simp at hn; omega)))).trans HV3.out
      clear hb ho
      obtain ⟨a, cap, rfl, hcap, hin⟩ := HO.out.slice (B := w.heap.size + 1) (fun _ h => also_le (by omega) h)
      have HINP := Lib.hid hin
      clear hin
      by_cases hlt : k < L.length
      · obtain ⟨b1, o1, rfl, hlo1, hhi1, hat1⟩ := HIN.out.resolve_left (fun h => by subst h; exact absurd hlt (Nat.not_lt_zero _))
        have hlo2 : w.heap.size + 1 + 1 ≤ b1 := by simpa using hlo1
        have hcell := strAt (hat1.keeps HB.out hhi1 (by intro hn; rcases hn with hn | hn <;> first | omega | (simp at hn; omega))) k hlt
        have hx := HPL.out _ (List.getElem_mem hlt)
        have HST := Lib.hid (ruleStep_at L k hlt P)
        have HRL := Lib.hid (fun w => refRuleLine_any (L[k]'hlt) (by omega) w)
        have HCOL := Lib.hid (fun w => refColumn_any (L[k]'hlt) (by omega) w)
        have hbd := ruleOut_bd' (L[k]'hlt)
        have hre := ruleOut_err (L[k]'hlt)
        have hst := HST.out
        rw [hinv.out] at hst
        clear HST hinv
        generalize L[k]'hlt = x at *
        obtain ⟨⟨⟨kk, nn⟩, says, er⟩, ho⟩ : ∃ o, ruleOut x = o := ⟨_, rfl⟩
        rw [ho] at HRL hbd hst hre
        dsimp only at HRL hbd hst hre
        clear ho
        have HSTP := Lib.hid hst
        clear hst
        have hk1 : (Lit.int .i64 kk).wf = true := wf_kind' hbd.1
        have hn1 : nn.length ≤ maxLen := by unfold maxLen; omega
        have hwk : IntKind.i64.wrap ((k : Int) + 1) = (k : Int) + 1 := IntWalk.i64_in _ (by omega)
        go_upto_region 8 with (go_at_call 15; (with_reducible refine (HRL.out _).mono ?_); intro e w2 he; obtain ⟨rfl, hb2⟩ := he; have HB2 := Lib.hid hb2; clear hb2)
        have hsz2 := HB2.out.size
        have hv3 : hasVar w2 w.heap.size 3 = true := (hasVar_congr (HB2.out.block _ (by omega))).trans HVR.out
        have hi3 : isOld w.heap.size w2 = true := isOld_iff.2 (by omega)
        have HBW : Hid (Below w.heap.size w w2) := HBE.out.trans (HB2.out.mono (by omega))
        have HK3 : Hid (Keeps (Also (w.heap.size + 1) w1.heap.size) w1 (w2.alloc (Obj.cells (ruleV kk nn) 24))) := (HB.out.bel HB2.out).alloc _
        have HO3 : Hid (Own ruleCod (Also (w.heap.size + 1) w1.heap.size) (w2.alloc (Obj.cells (ruleV kk nn) 24)) (.slice a P.length cap) P) := (HO.out.below HB2.out).alloc _
        by_cases he : er = 0
        · subst he
          cases says
          · have HS2 : Hid (ruleStep (L.drop (k + 1)) (k + 1) P = RES) := by
              have := HSTP.out
              rw [if_neg (by simp), if_pos rfl] at this
              exact this.symm
            clear HSTP
            go_wp2
            go_roundw
            case rel => exact ⟨k + 1, P, by omega, by omega, by go_num, HK3.out, HO3.out, HS2.out, HPW.out⟩
            case measure => simp [intOf]; omega
          · have HV7 : Hid (Var (w2.alloc (Obj.cells (ruleV kk nn) 24)) w2.heap.size (ruleR kk nn)) := Var.new _ _ _ rfl rfl
            have HIN3 : Hid (ListIn ruleCod (w2.alloc (Obj.cells (ruleV kk nn) 24)) a P (w.heap.size + 1)) := by
              rcases HINP.out with h | ⟨g, o, h1, h2, h3, h4⟩
              · exact .inl h
              · exact .inr ⟨g, o, h1, h2, by simp; omega, (h4.below HB2.out).below ((Below.refl _ _).alloc (Nat.le_refl _) _)⟩
            have HBW3 : Hid (Below w.heap.size w (w2.alloc (Obj.cells (ruleV kk nn) 24))) := HBW.out.alloc (by omega) _
            have hsz3 : w2.heap.size + 1 = (w2.alloc (Obj.cells (ruleV kk nn) 24)).heap.size := by simp
            have HV33 : Hid (hasVar (w2.alloc (Obj.cells (ruleV kk nn) 24)) w.heap.size 3 = true) := by show _ = _; simp [go_sem, hv3, hi3]
            clear hv3 hi3
            go_upto_region 10 with fail
            generalize w2.alloc (Obj.cells (ruleV kk nn) 24) = w3 at *
            go_wp2
            go_loopw [43] (fun j wr => ∃ n : Nat, n ≤ P.length ∧ j = .int .i64 n ∧ Below w3.heap.size w3 wr ∧ Hid ((P.take n).contains (kk, nn) = false)) (fun j _ => P.length - (intOf j).toNat)
            case atStart => exact ⟨0, Nat.zero_le _, rfl, Below.refl _ _, rfl⟩
            case round =>
              obtain ⟨n, hn, rfl, hb', hno⟩ := hrel
              have hsz4 := hb'.size
              have hr7 : hasRow wr ⟨w2.heap.size, 0, none⟩ 2 = true := (HV7.out.below hb').hasRow rfl
              have hq7 : rowAt wr ⟨w2.heap.size, 0, none⟩ 2 = ruleV kk nn := (HV7.out.below hb').rowAt rfl
              have hv3 : hasVar wr w.heap.size 3 = true := (hasVar_congr (hb'.block _ (by omega))).trans HV33.out
              have hi3 : isOld w.heap.size wr = true := isOld_iff.2 (by omega)
              have hi7 : isOld w2.heap.size wr = true := isOld_iff.2 (by omega)
              have HB4 := Lib.hid hb'
              have HBW4 : Hid (Below w.heap.size w wr) := HBW3.out.trans (hb'.mono (by omega))
              clear hb'
              by_cases hnl : n < P.length
              · obtain ⟨g, o, rfl, hlo, hhi, hat⟩ := HIN3.out.resolve_left (fun h => by subst h; exact absurd hnl (Nat.not_lt_zero _))
                obtain ⟨hrow, hqow⟩ := ruleRow (hat.below HB4.out) n hnl
                have HT := Lib.hid (contains_take P (kk, nn) n hnl)
                have HAT := Lib.hid (contains_at P (kk, nn) n hnl)
                have hpw := HPW.out _ (List.getElem_mem hnl)
                clear hat
                obtain ⟨⟨pk, pn⟩, hp⟩ : ∃ r, P[n]'hnl = r := ⟨_, rfl⟩
                rw [hp] at hqow HT HAT hpw
                clear hp
                dsimp only at hqow
                have hk2 : (Lit.int .i64 pk).wf = true := wf_kind' hpw.1
                have hn2 : pn.length ≤ maxLen := by have := hpw.2; unfold maxLen; dsimp only at this; omega
                clear hpw
                cases hq : ruleEq pk pn kk nn
                · have HF : Hid ((P.take (n + 1)).contains (kk, nn) = false) := by
                    show _ = _
                    rw [HT.out, hno.out, Bool.false_or, beq_eq_false_iff_ne]
                    intro e
                    obtain ⟨rfl, rfl⟩ := Prod.mk.inj e
                    rw [ruleEq_iff.2 ⟨rfl, rfl⟩] at hq
                    cases hq
                  go_wp2
                  go_roundw
                  case rel => exact ⟨n + 1, by omega, by go_num, (by repeat (first | exact Below.refl _ _ | assumption | refine below_grown ?_ (by first | omega | (simp [go_sem]; done) | (simp [go_sem] <;> omega)) _ | refine Below.alloc ?_ (by first | omega | (simp [go_sem]; done) | (simp [go_sem] <;> omega)) _ | refine below_bytesW ?_ (by first | omega | (simp [go_sem]; done) | (simp [go_sem] <;> omega)) _ | refine Below.drew ?_ | refine below_drewN ?_ _)), HF.out⟩
                  case measure => simp [intOf]; omega
                · have HEND : Hid (RES = ([], 52, (k : Int) + 1, colR x)) := by
                    show _ = _
                    obtain ⟨rfl, rfl⟩ := ruleEq_iff.1 hq
                    rw [HSTP.out, if_neg (by simp), if_neg (by simp), if_pos (HAT.out rfl)]
                  clear HSTP
                  go_wp2_with (go_at_call 53; (with_reducible refine (HCOL.out _).mono ?_); intro e w' h; obtain ⟨rfl, h2⟩ := h; subst w')
                  exact ret_tmp_cell w.heap.size (faultV 52 ((k : Int) + 1) (colR x)) (.slice none 0 0) rfl rfl rfl agg_fault (by simp [go_sem, hv3, hi3]) (by simp [go_sem, hv3, hi3]) rfl (by rw [HEND.out]; exact ⟨none, 0, rfl, Nat.le_refl _, below_setRow (HBW4.out.alloc (by omega) _) (Nat.le_refl _) _, .inl rfl⟩)
              · obtain rfl : n = P.length := by omega
                have hno2 := hno.out
                rw [List.take_length] at hno2
                by_cases h200 : 200 ≤ P.length
                · have HEND : Hid (RES = ([], 53, (k : Int) + 1, colR x)) := by
                    show _ = _
                    rw [HSTP.out, if_neg (by simp), if_neg (by simp), if_neg (by rw [hno2]; decide), if_pos h200]
                  clear HSTP hno2 hno
                  go_wp2_with (go_at_call 53; (with_reducible refine (HCOL.out _).mono ?_); intro e w' h; obtain ⟨rfl, h2⟩ := h; subst w')
                  exact ret_tmp_cell w.heap.size (faultV 53 ((k : Int) + 1) (colR x)) (.slice none 0 0) rfl rfl rfl agg_fault (by simp [go_sem, hv3, hi3]) (by simp [go_sem, hv3, hi3]) rfl (by rw [HEND.out]; exact ⟨none, 0, rfl, Nat.le_refl _, below_setRow HBW4.out (Nat.le_refl _) _, .inl rfl⟩)
                · have HS2 : Hid (ruleStep (L.drop (k + 1)) (k + 1) (P ++ [(kk, nn)]) = RES) := by
                    show _ = _
                    rw [HSTP.out, if_neg (by simp), if_neg (by simp), if_neg (by rw [hno2]; decide), if_neg h200]
                  have HK4 : Hid (Keeps (Also (w.heap.size + 1) w1.heap.size) w1 wr) := HK3.out.bel HB4.out
                  have HO4 : Hid (Own ruleCod (Also (w.heap.size + 1) w1.heap.size) wr (.slice a P.length cap) P) := HO3.out.below HB4.out
                  have HPW2 : Hid (∀ r ∈ P ++ [(kk, nn)], okR r) := fun r h => by
                    rcases List.mem_append.1 h with h | h
                    · exact HPW.out r h
                    · rw [List.mem_singleton] at h; subst h; exact hbd
                  clear HSTP hno2 hno
                  go_wp2_with (at_builtin; refine wpList_append_list rfl ruleCod (.tmp 64) (.tmp 66) 32 rfl rfl (Also (w.heap.size + 1) w1.heap.size) _ _ (P) rfl (HO4.out.alloc _) _ 0 _ _ [(kk, nn)] rfl rfl (listAt_new _ _ [_] _ rfl (by first | rfl | (simp [go_sem]; done))) (by first | omega | (simp; done) | (simp; omega) | (simp [go_sem]; done) | (simp [go_sem]; omega) | (simp [ruleCod]; omega)) (by first | omega | (simp; done) | (simp; omega) | (simp [go_sem]; done) | (simp [go_sem]; omega) | (simp [ruleCod]; omega)) (by first | (show _ ≤ _; first | omega | (simp; omega) | (simp [go_sem]; omega)) | (show _ ∨ _; right; first | omega | (simp; omega) | (simp [go_sem]; omega))) ?_; intro v' w1 ho1 hb1; have HO1 := Lib.hid ho1; have HB1 := Lib.hid hb1; clear ho1 hb1)
                  go_roundw
                  case rel => exact ⟨k + 1, P ++ [(kk, nn)], by omega, by simp; omega, by go_num, (HK4.out.alloc _).trans HB1.out, HO1.out, HS2.out, HPW2.out⟩
                  case measure => simp [intOf]; omega
        · have HEND : Hid (RES = ([], er, (k : Int) + 1, colR x)) := by
            show _ = _
            rw [HSTP.out, if_pos he]
          have he1 : (er != 0) = true := by rw [bne_iff_ne]; exact he
          clear HSTP he
          go_wp2_with (go_at_call 53; (with_reducible refine (HCOL.out _).mono ?_); intro e w' h; obtain ⟨rfl, h2⟩ := h; subst w')
          exact ret_tmp_cell w.heap.size (faultV er ((k : Int) + 1) (colR x)) (.slice none 0 0) rfl rfl rfl agg_fault (by simp [go_sem, hv3, hi3]) (by simp [go_sem, hv3, hi3]) rfl (by rw [HEND.out]; exact ⟨none, 0, rfl, Nat.le_refl _, below_setRow (HBW.out.alloc (by omega) _) (Nat.le_refl _) _, .inl rfl⟩)
      · obtain rfl : k = L.length := by omega
        have hfin := hinv.out
        rw [ruleStep_end] at hfin
        subst hfin
        have hv3 := HVR.out
        have hi3 : isOld w.heap.size wr = true := isOld_iff.2 (by omega)
        go_wp2
        exact ret_tmp_cell w.heap.size (faultV 0 0 0) (.slice a P.length cap) rfl rfl rfl agg_fault (by simp [go_sem, hv3, hi3]) (by simp [go_sem, hv3, hi3]) rfl ⟨a, cap, rfl, hcap, below_setRow HBE.out (Nat.le_refl _) _, (HINP.out.setRow (by omega) _).mono (Nat.le_succ _)⟩
end

section
open Go Go.RowKit
open Go.WideElems (Fit entry_then_store)
open Go.ChangeMaps (setBlock heap_setBlock_same heap_setBlock_other)
set_option maxRecDepth 20000
set_option linter.unusedSimpArgs false
set_option linter.unusedVariables false

theorem ruleWide : (match Tryz.prog.underlying 24 with | some (.array _ _) | some (.struct _) => true | _ => false) = true := by kernel_rfl
theorem ruleLaw : Go.WideMaps.KeyLaw Tryz.prog 24 := deep_law_laid (m := 10) (by kernel_rfl) (by omega) (of_decide_eq_true (by kernel_rfl)) (by kernel_rfl) ruleWide
theorem seenTy : Tryz.prog.underlying 86 = some (.map 24 3) := by kernel_rfl
theorem seenZ (u : World) : (zeroValue 3).run Tryz.prog u = .ok (.int .i64 0) u := by kernel_rfl
def ruleK (r : GRule) : Value := .agg (ruleV r.1 r.2)
theorem ruleK_inj {r r' : GRule} (h : ruleK r = ruleK r') : r = r' := by
  obtain ⟨k, n⟩ := r
  obtain ⟨k', n'⟩ := r'
  simp [ruleK, ruleV, ruleR] at h
  exact Prod.ext h.1 h.2
theorem ruleKey (r : GRule) (hr : okR r) : ∃ kl, keyOf Tryz.prog 24 (ruleK r) = some kl := by
  have h2 : r.2.length ≤ maxLen := by have := hr.2; unfold maxLen; omega
  have hl : Tryz.prog.keyLits (Tryz.prog.types.size + 1) 24 (ruleR r.1 r.2) = some [.int .i64 r.1, .string r.2] := by
    have : Tryz.prog.types.size + 1 = (Tryz.prog.types.size - 2) + 3 := by kernel_rfl
    rw [this]
    exact keyLits_rule _ _ _ (wf_kind' hr.1) h2
  have hf : (ruleK r).formed Tryz.prog 24 = true := by simp [ruleK, ruleV, Value.formed, Tryz.underlying24, cellsOf_rule, ruleR]
  apply Option.isSome_iff_exists.1
  unfold keyOf
  rw [Tryz.underlying24]
  dsimp only
  have hkt : Tryz.prog.keyType 24 = true := by kernel_rfl
  rw [hkt, Bool.true_and, if_pos hf]
  have hc : (ruleK r).cells.toList = ruleR r.1 r.2 := rfl
  rw [hc, hl]
  rfl
noncomputable abbrev RI : Value → Option (DataW Unit × List MemPlace) := plainElem Tryz.prog 3
/-- Block b is a map of just these rules, each seen once. -/
def SeenR (w : World) (b : Nat) (P : List GRule) : Prop := ∃ es clock, w.heap[b]? = some (.map es clock) ∧ Fit Tryz.prog 24 RI es clock ∧ es.size ≤ P.length ∧
  (∀ e ∈ es.toList, e.val = .int .i64 1 ∧ ∃ r ∈ P, e.key = ruleK r) ∧ (∀ r ∈ P, ∃ e ∈ es.toList, e.key = ruleK r)
theorem SeenR.made (w : World) (b : Nat) (hb : b = w.heap.size) : SeenR (w.alloc (.map #[] 0)) b [] := by
  subst hb
  exact ⟨#[], 0, (MapKept.heap_alloc w _).1, ⟨by simp, Go.MapKept.stamped_empty 0, by simp⟩, Nat.le_refl _, by simp, by simp⟩
theorem SeenR.old {w w' : World} {b : Nat} {P : List GRule} (h : SeenR w b P) (he : w'.heap[b]? = w.heap[b]?) : SeenR w' b P := by
  obtain ⟨es, clock, hb, r⟩ := h
  exact ⟨es, clock, he.trans hb, r⟩
def seenN (P : List GRule) (r : GRule) : Int := if P.contains r = true then 1 else 0
theorem setBlock_twice (w : World) (b : Nat) (o o' : Obj) : setBlock (setBlock w b o) b o' = setBlock w b o' := by
  simp [setBlock]
theorem setBlock_inj {w : World} {b : Nat} {o o' : Obj} {es : Array MapEntry} {clock : Nat} (hb : w.heap[b]? = some (.map es clock)) (h : setBlock w b o = setBlock w b o') : o = o' := by
  have h1 := heap_setBlock_same hb o
  have h2 := heap_setBlock_same hb o'
  rw [h, h2] at h1
  exact (Option.some.inj h1).symm
theorem grown_setBlock {w : World} {b : Nat} {es : Array MapEntry} {clock : Nat} (hb : w.heap[b]? = some (.map es clock)) (o : Obj) : w.grownBy (setBlock w b o) (some b) :=
  ⟨rfl, rfl, rfl, by simp [setBlock], fun i _ hi => heap_setBlock_other hb _ (fun e => hi (by rw [e]))⟩
theorem seen_at {es : Array MapEntry} {P : List GRule} {r : GRule} (hall : ∀ e ∈ es.toList, e.val = .int .i64 1 ∧ ∃ r ∈ P, e.key = ruleK r) (h : ∃ e ∈ es.toList, e.key = ruleK r) : P.contains r = true := by
  obtain ⟨e, he, hk⟩ := h
  obtain ⟨_, r', hr', hk'⟩ := hall e he
  rw [ruleK_inj (hk.symm.trans hk'), List.contains_iff_mem]
  exact hr'
theorem seen_not {es : Array MapEntry} {P : List GRule} {r : GRule} (hex : ∀ r ∈ P, ∃ e ∈ es.toList, e.key = ruleK r) (h : ∀ e ∈ es.toList, e.key ≠ ruleK r) : P.contains r = false := by
  cases hc : P.contains r
  · rfl
  · obtain ⟨e, he, hk⟩ := hex r (List.contains_iff_mem.1 hc)
    exact absurd hk (h e he)
set_option maxHeartbeats 1000000 in
/-- 'seen[r]++', in whatever order: the look-up ahead of the entry or behind it. -/
theorem seen_incr {w : World} {b : Nat} {P : List GRule} (h : SeenR w b P) (r : GRule) (hr : okR r) (hP : P.length < 1000) :
    ∃ (W1 W2 : World) (st : Int),
      (Instr.lookup 86 (.map (some b)) (ruleK r) false).run Tryz.prog w = .ok (.int .i64 (seenN P r)) w ∧
      (Instr.mapEntry 86 (.map (some b)) (ruleK r)).run Tryz.prog w = .ok (.tuple #[.int .i64 (seenN P r), .int .i64 st]) W1 ∧
      (Instr.lookup 86 (.map (some b)) (ruleK r) false).run Tryz.prog W1 = .ok (.int .i64 (seenN P r)) W1 ∧
      (Instr.entryStore 86 (.map (some b)) (.int .i64 st) (.int .i64 (seenN P r + 1))).run Tryz.prog W1 = .ok () W2 ∧
      (Instr.lookup 86 (.map (some b)) (ruleK r) false).run Tryz.prog W2 = .ok (.int .i64 (seenN P r + 1)) W2 ∧
      w.grownBy W2 (some b) ∧ (P.contains r = false → SeenR W2 b (P ++ [r])) := by
  obtain ⟨es, clock, hb, F, hsz, hall, hex⟩ := h
  obtain ⟨kl, hkey⟩ := ruleKey r hr
  have K := ruleLaw
  obtain ⟨v0, st, es1, clock1, hme, hv0, hst⟩ := entry_then_store K seenTy seenZ hb F hkey
  have hv : v0 = .int .i64 (seenN P r) := by
    unfold seenN
    rcases hv0 with ⟨e0, he0, hk0, rfl⟩ | ⟨hno, rfl⟩
    · rw [seen_at hall ⟨e0, he0, hk0⟩, if_pos rfl]
      exact (hall e0 he0).1
    · rw [seen_not hex hno, if_neg (by decide)]
  subst hv
  have hc01 : seenN P r = 0 ∨ seenN P r = 1 := by unfold seenN; split <;> simp
  have hwf : (Lit.int .i64 (seenN P r + 1)).wf = true := by rcases hc01 with e | e <;> rw [e] <;> rfl
  have hui : Tryz.prog.underlying 3 = some (.int .i64) := Tryz.underlying3
  have hb1 : (setBlock w b (.map es1 clock1)).heap[b]? = some (.map es1 clock1) := heap_setBlock_same hb _
  obtain ⟨es', clock', hes, hup⟩ := hst (setBlock w b (.map es1 clock1)) (.int .i64 (seenN P r + 1)) hb1
  rw [setBlock_twice] at hes
  have hroom : es.size < maxLen := by unfold maxLen; omega
  obtain ⟨es2, clock2, hup2, F2, hput, _, _, hmem⟩ := Go.Maps.fit_store (R' := RI) (Go.Maps.Keyed.of_law K) seenTy hb F hroom (fun x _ _ z hz => hz) hkey (plainElem_int (H := Unit) hui hwf)
  have hsame : (Obj.map es' clock') = .map es2 clock2 := by
    have e := hup.symm.trans hup2
    simp only [Result.ok.injEq, true_and] at e
    exact setBlock_inj hb e
  have hb2 : (setBlock w b (.map es2 clock2)).heap[b]? = some (.map es2 clock2) := heap_setBlock_same hb _
  rw [hsame] at hes
  have hown : w.ownsMap Tryz.prog 24 RI b P.length (.map ((es.toList.map (Go.WideElems.rg Tryz.prog 24 RI)).foldr DataW.insert [])) := ⟨es, clock, hb, F, hsz, rfl⟩
  obtain ⟨w', hup3, hown2, _⟩ := hown.update (Go.Maps.Keyed.of_law K) seenTy (by unfold maxLen; omega) hkey (plainElem_int (H := Unit) hui hwf)
  have hw' : w' = setBlock w b (.map es2 clock2) := by
    have e := hup3.symm.trans hup2
    simpa using e
  subst hw'
  have hsz2 : es2.size ≤ P.length + 1 := by
    obtain ⟨es4, clock4, hb4, _, hs4, _⟩ := hown2
    rw [hb2] at hb4
    simp only [Option.some.injEq, Obj.map.injEq] at hb4
    rw [hb4.1]; exact hs4
  have hput2 : ∀ z, DataW.atKey (DataW.put (.map ((es.toList.map (Go.WideElems.rg Tryz.prog 24 RI)).foldr DataW.insert [])) kl (.lit (.int .i64 (seenN P r + 1)))) kl z = .lit (.int .i64 (seenN P r + 1)) := fun z => Go.Maps.atKey_put_same ⟨_, rfl⟩ ((Go.Maps.Keyed.of_law K).key hkey) _ _
  have look2 : (Instr.lookup 86 (.map (some b)) (ruleK r) false).run Tryz.prog (setBlock w b (.map es2 clock2)) = .ok (.int .i64 (seenN P r + 1)) (setBlock w b (.map es2 clock2)) := by
    obtain ⟨c, hrun, hat, _⟩ := hown2.lookup_int (Go.Maps.Keyed.of_law K) seenTy hui (seenZ _) hkey
    rw [hput2] at hat
    simp only [DataW.lit.injEq, Lit.int.injEq, true_and] at hat
    rw [hrun, ← hat]
  refine ⟨setBlock w b (.map es1 clock1), setBlock w b (.map es2 clock2), st, ?_, ?_, ?_, hes, ?_, grown_setBlock hb _, ?_⟩
  · -- the look-up ahead
    rcases Go.Maps.fit_look (w := w) (H := Unit) false (Go.Maps.Keyed.of_law K) seenTy (seenZ w) hb F hkey with ⟨hrun, hno, _⟩ | ⟨e0, y, he0, hk0, hrun, _⟩
    · rw [hrun]
      have : seenN P r = 0 := by unfold seenN; rw [seen_not hex hno, if_neg (by decide)]
      rw [this]; rfl
    · rw [hrun]
      have : seenN P r = 1 := by unfold seenN; rw [seen_at hall ⟨e0, he0, hk0⟩, if_pos rfl]
      rw [this]
      exact congrArg (fun v => Result.ok v w) (hall e0 he0).1
  · exact hme
  · -- the look-up behind
    rcases K.find w hkey es.toList F.keys with ⟨f1, f2⟩ | ⟨j, e0, f1, f2, f3⟩
    · have hz0 : seenN P r = 0 := by unfold seenN; rw [seen_not hex f2, if_neg (by decide)]
      have hme' : (Instr.mapEntry 86 (.map (some b)) (ruleK r)).run Tryz.prog w = .ok (.tuple #[.int .i64 0, goInt clock]) (setBlock w b (.map (es.push ⟨ruleK r, .int .i64 0, clock⟩) (clock + 1))) := by
        simp [Instr.mapEntry, run_underlying seenTy, MapKept.run_getObj_map hb, K.check w false hkey, f1, seenZ, MapKept.run_setObj_map _ hb, Result.andThen, setBlock]
      have e := hme.symm.trans hme'
      simp only [Result.ok.injEq] at e
      have e1 := setBlock_inj hb e.2
      simp only [Obj.map.injEq] at e1
      obtain ⟨rfl, rfl⟩ := e1
      have hkeys : ∀ x ∈ (es.push ⟨ruleK r, .int .i64 0, clock⟩).toList, ∃ l, keyOf Tryz.prog 24 x.key = some l := by
        intro x hx
        rw [Array.toList_push, List.mem_append, List.mem_singleton] at hx
        rcases hx with hx | rfl
        · exact F.keys x hx
        · exact ⟨kl, hkey⟩
      rcases K.find (setBlock w b (.map (es.push ⟨ruleK r, .int .i64 0, clock⟩) (clock + 1))) hkey _ hkeys with ⟨g1, g2⟩ | ⟨j, e0, g1, g2, g3⟩
      · exact absurd rfl (g2 ⟨ruleK r, .int .i64 0, clock⟩ (by simp))
      · have hv0 : e0.val = .int .i64 0 := by
          have hm := List.mem_of_getElem? g2
          rw [Array.toList_push, List.mem_append, List.mem_singleton] at hm
          rcases hm with hm | rfl
          · exact absurd g3 (f2 e0 hm)
          · rfl
        rw [hz0]
        simp only [Array.toList_push] at g1
        simp [Instr.lookup, run_underlying seenTy, MapKept.run_getObj_map hb1, K.check _ _ hkey, g1, hv0, Result.andThen]
    · have hm0 := List.mem_of_getElem? f2
      have hz1 : seenN P r = 1 := by unfold seenN; rw [seen_at hall ⟨e0, hm0, f3⟩, if_pos rfl]
      have hes1 : es1 = es ∧ clock1 = clock := by
        obtain ⟨v1, st1, es3, clock3, hme3, _, _⟩ := entry_then_store K seenTy seenZ hb F hkey
        have hj : es[j]? = some e0 := by simpa using f2
        have hkeep : es.modify j (fun e => { e with key := ruleK r }) = es := by
          apply Array.ext'
          rw [Array.toList_modify]
          apply List.ext_getElem?
          intro i
          rw [List.getElem?_modify]
          by_cases hi : j = i
          · subst hi
            rw [f2]
            simp [← f3]
          · simp [hi]
        have hme' : (Instr.mapEntry 86 (.map (some b)) (ruleK r)).run Tryz.prog w = .ok (.tuple #[e0.val, goInt e0.born]) (setBlock w b (.map es clock)) := by
          simp [Instr.mapEntry, run_underlying seenTy, MapKept.run_getObj_map hb, K.check w false hkey, f1, hj, f3, K.stays w hkey, hkeep, MapKept.run_setObj_map _ hb, Result.andThen, setBlock]
        have e := hme.symm.trans hme'
        simp only [Result.ok.injEq] at e
        have e1 := setBlock_inj hb e.2
        simpa using e1
      obtain ⟨rfl, rfl⟩ := hes1
      rcases Go.Maps.fit_look (w := setBlock w b (.map es1 clock1)) (H := Unit) false (Go.Maps.Keyed.of_law K) seenTy (seenZ _) hb1 F hkey with ⟨hrun, hno, _⟩ | ⟨e1, y, he1, hk1, hrun, _⟩
      · exact absurd f3 (hno e0 hm0)
      · rw [hrun, hz1]
        exact congrArg (fun v => Result.ok v _) (hall e1 he1).1
  · exact look2
  · intro hno
    refine ⟨es2, clock2, hb2, F2, ?_, ?_, ?_⟩
    · rw [List.length_append]; exact hsz2
    · intro e he
      have hz0 : seenN P r = 0 := by unfold seenN; rw [hno, if_neg (by decide)]
      rcases hmem e he with ⟨h1, h2⟩ | ⟨h1, h2⟩
      · obtain ⟨g1, r', hr', g2⟩ := hall e h1
        exact ⟨g1, r', List.mem_append_left _ hr', g2⟩
      · exact ⟨by rw [h2, hz0]; rfl, r, by simp, h1⟩
    · intro r' hr'
      by_cases hc : ∃ e ∈ es2.toList, e.key = ruleK r'
      · exact hc
      · exfalso
        have hnone : ∀ e ∈ es2.toList, e.key ≠ ruleK r' := fun e he h => hc ⟨e, he, h⟩
        have hD2 := hown2
        obtain ⟨es4, clock4, hb4, _, _, hD4⟩ := hD2
        rw [hb2] at hb4
        simp only [Option.some.injEq, Obj.map.injEq] at hb4
        rw [← hb4.1] at hD4
        have key : ∀ kl', keyOf Tryz.prog 24 (ruleK r') = some kl' → ∀ zd, DataW.atKey (DataW.put (.map ((es.toList.map (Go.WideElems.rg Tryz.prog 24 RI)).foldr DataW.insert [])) kl (.lit (.int .i64 (seenN P r + 1)))) kl' zd = zd := by
          intro kl' hk' zd
          rcases Go.Maps.fit_look (w := setBlock w b (.map es2 clock2)) (H := Unit) false (Go.Maps.Keyed.of_law K) seenTy (seenZ _) hb2 F2 hk' with ⟨_, _, hat⟩ | ⟨e1, _, he1, hk1, _⟩
          · rw [hD4]; exact hat zd
          · exact absurd hk1 (hnone e1 he1)
        rcases List.mem_append.1 hr' with hm | hm
        · obtain ⟨e0, he0, hk0⟩ := hex r' hm
          obtain ⟨kl', hk'⟩ := F.keys e0 he0
          rw [hk0] at hk'
          by_cases hkk : kl' = kl
          · subst hkk
            have := K.inj hk' hkey
            rw [ruleK_inj this] at hm
            rw [List.contains_iff_mem.2 hm] at hno
            cases hno
          · have hz1 := key kl' hk' (.lit (.bool true))
            have hz2 := key kl' hk' (.lit (.bool false))
            rw [Go.Maps.atKey_put_other hkk] at hz1 hz2
            rcases Go.Maps.fit_look (w := w) (H := Unit) false (Go.Maps.Keyed.of_law K) seenTy (seenZ _) hb F hk' with ⟨_, hn, _⟩ | ⟨e1, y, _, _, _, _, hat, _⟩
            · exact absurd hk0 (hn e0 he0)
            · rw [hat] at hz1 hz2
              rw [hz1] at hz2
              cases hz2
        · rw [List.mem_singleton] at hm
          subst hm
          have := key kl hkey (.lit (.bool true))
          rw [hput2] at this
          cases this
end

section
open Go Go.RowKit
set_option maxRecDepth 20000
set_option linter.unusedSimpArgs false
set_option linter.unusedVariables false

theorem Keeps.sub {Q Q' : Nat → Prop} {w w' : World} (h : Keeps Q w w') (hq : ∀ k, Q k → Q' k) : Keeps Q' w w' :=
  ⟨h.os, h.tape, h.output, h.size, fun k hk hn => h.block k hk (fun e => hn (hq k e))⟩
theorem keeps_grownBy {Q : Nat → Prop} {w w' : World} {b : Nat} (h : w.grownBy w' (some b)) (hq : Q b) : Keeps Q w w' :=
  ⟨h.os, h.tape, h.output, h.size, fun k hk hn => h.block k hk (fun e => hn (by cases e; exact hq))⟩
set_option maxRecDepth 100000 in
set_option maxHeartbeats 8000000 in
theorem ruleFile_any (s : List UInt8) (hs : s.length ≤ 100000) (m : Int) (w : World) (hm : HasMax m w) (htz : HasTz w) (hd : HasDec w) :
    Calls Tryz.prog 33 #[.string ⟨s.toArray⟩] w (GivesF ruleCod (ruleFile s).1 (ruleFile s).2 w) := by
  by_cases hlong : (20000 : Int) < s.length
  · have e : ruleFile s = ([], 54, 1, 1) := by unfold ruleFile; rw [if_pos (by omega)]
    rw [e]
    go_enter Tryz.func33, Tryz.ntmps33
    go_wp2
    exact ret_tmp_cell w.heap.size (faultV 54 1 1) (.slice none 0 0) rfl rfl rfl agg_fault (by simp [go_sem]) (by simp [go_sem]) rfl ⟨none, 0, rfl, Nat.le_refl _, (by repeat (first | exact Below.refl _ _ | assumption | refine below_grown ?_ (by first | omega | (simp [go_sem]; done) | (simp [go_sem] <;> omega)) _ | refine Below.alloc ?_ (by first | omega | (simp [go_sem]; done) | (simp [go_sem] <;> omega)) _ | refine below_bytesW ?_ (by first | omega | (simp [go_sem]; done) | (simp [go_sem] <;> omega)) _ | refine Below.drew ?_ | refine below_drewN ?_ _)), .inl rfl⟩
  · have e : ruleFile s = ruleStep (linesL s) 0 [] := by unfold ruleFile; rw [if_neg (by omega)]
    rw [e]
    have HL : Hid (∀ w, HasMax m w → Calls Tryz.prog 61 #[.string ⟨s.toArray⟩] w (Gives strCod (linesL s) w)) := fun w h => lines_any s (by omega) m w h
    have HPL := Lib.hid (linesL_piece s)
    have hLl := linesL_le' s
    generalize linesL s = L at *
    clear e
    obtain ⟨RES, hres⟩ : ∃ RES, ruleStep L 0 [] = RES := ⟨_, rfl⟩
    rw [hres]
    have HRES := Lib.hid hres
    clear hres
    have hmm := @run_makeMap Tryz.prog
    go_enter Tryz.func33, Tryz.ntmps33
    go_wp2_with (go_at_call 61; (with_reducible refine (HL.out _ ?_).mono ?_); (exact (by repeat (first | exact hm | apply HasMax.grown | apply HasMax.alloc | apply HasMax.drew))); intro e w1 hg; obtain ⟨a1, c1, rfl, hc1, hb1, hin1⟩ := hg; have HBC := Lib.hid hb1; have HIN := Lib.hid hin1; clear hb1 hin1)
    have hs0 := HBC.out.size
    simp at hs0
    have HV3 : Hid (hasVar w1 w.heap.size 3 = true) := (hasVar_congr (HBC.out.block _ (by simp <;> omega))).trans (by simp [go_sem])
    have HSE : Hid (SeenR w1 (w.heap.size + 1) []) := SeenR.old (SeenR.made _ _ (by simp)) (HBC.out.block _ (by simp))
    clear hmm
    go_loopw [4, 19] (fun out i wr => ∃ (k : Nat) (P : List GRule), k ≤ L.length ∧ P.length ≤ 200 ∧ i = .int .i64 k ∧ Keeps (Also (w.heap.size + 1) w1.heap.size) w1 wr ∧ Own ruleCod (From w1.heap.size) wr out P ∧ SeenR wr (w.heap.size + 1) P ∧ Hid (ruleStep (L.drop k) k P = RES) ∧ Hid (∀ r ∈ P, okR r)) (fun _ i _ => L.length - (intOf i).toNat)
    case atStart => exact ⟨0, [], Nat.zero_le _, Nat.zero_le _, rfl, Keeps.refl _ _, Own.nil _ _, HSE.out, by rw [List.drop_zero]; exact HRES.out, fun r h => by cases h⟩
    case round =>
      obtain ⟨k, P, hk, hPk, rfl, hb, ho, hse, hinv, HPW⟩ := hrel
      have hsz := hb.size
      have HB := Lib.hid hb
      have HO := Lib.hid ho
      have HSW := Lib.hid hse
      have HBE : Hid (Below w.heap.size w wr) := ((((Below.refl _ _).alloc (Nat.le_refl _) _).alloc (by simp) _).trans ((HBC.out.mono (by first | omega | (simp; done) | (simp; omega) | (simp [go_sem]; done) | (simp [go_sem]; omega) | (simp [strCod]; omega))).trans ((hb.below_also (by omega) (Nat.le_refl _)).mono (by omega))))
      have HVR : Hid (hasVar wr w.heap.size 3 = true) := (hasVar_congr (hb.block _ (by omega) (by intro hn; rcases hn with hn | hn <;> first | omega | (simp at hn; omega)))).trans HV3.out
      clear hb ho hse
      obtain ⟨a, cap, rfl, hcap, hin⟩ := HO.out.slice (B := w1.heap.size) (fun _ h => from_le h)
      have HINP := Lib.hid hin
      clear hin
      by_cases hlt : k < L.length
      · obtain ⟨b1, o1, rfl, hlo1, hhi1, hat1⟩ := HIN.out.resolve_left (fun h => by subst h; exact absurd hlt (Nat.not_lt_zero _))
        have hlo2 : w.heap.size + 1 + 1 ≤ b1 := by simpa using hlo1
        have hcell := strAt (hat1.keeps HB.out hhi1 (by intro hn; rcases hn with hn | hn <;> first | omega | (simp at hn; omega))) k hlt
        have hx := HPL.out _ (List.getElem_mem hlt)
        have HST := Lib.hid (ruleStep_at L k hlt P)
        have HRL : Hid (∀ w, HasMax m w → HasTz w → HasDec w → Calls Tryz.prog 14 #[.string ⟨(L[k]'hlt).toArray⟩] w fun e w' => e = .returned (.tuple #[.agg (ruleV (ruleOut (L[k]'hlt)).1.1 (ruleOut (L[k]'hlt)).1.2), .bool (ruleOut (L[k]'hlt)).2.1, .int .i64 (ruleOut (L[k]'hlt)).2.2]) ∧ Below w.heap.size w w') := fun w a b c => ruleLine_any (L[k]'hlt) (by omega) m w a b c
        have HCOL := Lib.hid (fun w => column_any (L[k]'hlt) (by omega) w)
        have hbd := ruleOut_bd' (L[k]'hlt)
        have hre := ruleOut_err (L[k]'hlt)
        have hst := HST.out
        rw [hinv.out] at hst
        clear HST hinv
        generalize L[k]'hlt = x at *
        obtain ⟨⟨⟨kk, nn⟩, says, er⟩, ho⟩ : ∃ o, ruleOut x = o := ⟨_, rfl⟩
        rw [ho] at HRL hbd hst hre
        dsimp only at HRL hbd hst hre
        clear ho
        have HSTP := Lib.hid hst
        clear hst
        have hwk : IntKind.i64.wrap ((k : Int) + 1) = (k : Int) + 1 := IntWalk.i64_in _ (by omega)
        have hmr := hm.below HBE.out
        have htr := htz.below HBE.out
        have hdr := hd.below HBE.out
        go_upto_region 9 with (go_at_call 14; (with_reducible refine (HRL.out _ hmr htr hdr).mono ?_); intro e w2 he; obtain ⟨rfl, hb2⟩ := he; have HB2 := Lib.hid hb2; clear hb2)
        have hsz2 := HB2.out.size
        have HBW3 : Hid (Below w.heap.size w (w2.alloc (Obj.cells (ruleV kk nn) 24))) := (HBE.out.trans (HB2.out.mono (by omega))).alloc (by omega) _
        have HK3 : Hid (Keeps (Also (w.heap.size + 1) w1.heap.size) w1 (w2.alloc (Obj.cells (ruleV kk nn) 24))) := (HB.out.bel HB2.out).alloc _
        have HO3 : Hid (Own ruleCod (From w1.heap.size) (w2.alloc (Obj.cells (ruleV kk nn) 24)) (.slice a P.length cap) P) := (HO.out.below HB2.out).alloc _
        have HV7 : Hid (Var (w2.alloc (Obj.cells (ruleV kk nn) 24)) w2.heap.size (ruleR kk nn)) := Var.new _ _ _ rfl rfl
        have hsz3 : w2.heap.size + 1 = (w2.alloc (Obj.cells (ruleV kk nn) 24)).heap.size := by simp
        have HV33 : Hid (hasVar (w2.alloc (Obj.cells (ruleV kk nn) 24)) w.heap.size 3 = true) := by
          have h1 : hasVar w2 w.heap.size 3 = true := (hasVar_congr (HB2.out.block _ (by omega))).trans HVR.out
          have h2 : isOld w.heap.size w2 = true := isOld_iff.2 (by omega)
          show _ = _; simp [go_sem, h1, h2]
        have HS3 : Hid (SeenR (w2.alloc (Obj.cells (ruleV kk nn) 24)) (w.heap.size + 1) P) := (HSW.out.old (HB2.out.block _ (by omega))).old ((Below.refl w2.heap.size w2).alloc (Nat.le_refl _) _ |>.block _ (by omega))
        generalize (w2.alloc (Obj.cells (ruleV kk nn) 24)) = w3 at *
        have hi3 : isOld w.heap.size w3 = true := isOld_iff.2 (by omega)
        have hv3 := HV33.out
        by_cases he : er = 0
        · subst he
          cases says
          · have HS2 : Hid (ruleStep (L.drop (k + 1)) (k + 1) P = RES) := by
              have := HSTP.out
              rw [if_neg (by simp), if_pos rfl] at this
              exact this.symm
            clear HSTP
            go_wp2
            go_roundw
            case rel => exact ⟨k + 1, P, by omega, hPk, by go_num, HK3.out, HO3.out, HS3.out, HS2.out, HPW.out⟩
            case measure => simp [intOf]; omega
          · have hr7 : hasRow w3 ⟨w2.heap.size, 0, none⟩ 2 = true := HV7.out.hasRow rfl
            have hq7 : rowAt w3 ⟨w2.heap.size, 0, none⟩ 2 = ruleV kk nn := HV7.out.rowAt rfl
            have hr7d : hasRow w3.drew ⟨w2.heap.size, 0, none⟩ 2 = true := hr7
            have hq7d : rowAt w3.drew ⟨w2.heap.size, 0, none⟩ 2 = ruleV kk nn := hq7
            obtain ⟨W1, W2, st, l0, me, l1, es, l2, hgr, hnew⟩ := seen_incr (w := w3.drew) (HS3.out.old rfl) (kk, nn) hbd (by omega)
            have HGR := Lib.hid hgr
            have HNEW := Lib.hid hnew
            clear hgr hnew
            unfold ruleK at l0 me l1 l2
            dsimp only at l0 me l1 l2
            go_upto_region 10 with fail
            cases hcon : P.contains (kk, nn)
            all_goals
              unfold seenN at l0 me l1 es l2
              rw [hcon] at l0 me l1 es l2
              simp at l0 me l1 es l2
            · have HCON := Lib.hid hcon
              clear hcon
              go_region
              have hK := HGR.out
              have hKW : Keeps (fun j => j = (w.heap.size + 1)) w3 W2 := ⟨hK.os, hK.tape, hK.output, hK.size, fun j hj hn => hK.block j hj (fun e => hn (by cases e; rfl))⟩
              have hKA : Keeps (Also (w.heap.size + 1) w1.heap.size) w3 W2 := ⟨hK.os, hK.tape, hK.output, hK.size, fun j hj hn => hK.block j hj (fun e => hn (.inl (by cases e; rfl)))⟩
              have hsz4 := hKW.size
              have HBW4 : Hid (Below w.heap.size w W2) := HBW3.out.trans (hKW.below (fun j hj => ⟨by omega, by omega⟩))
              have HK4 : Hid (Keeps (Also (w.heap.size + 1) w1.heap.size) w1 W2) := HK3.out.trans hKA
              have HO4 : Hid (Own ruleCod (From w1.heap.size) W2 (.slice a P.length cap) P) := HO3.out.keeps hKW (fun g hg _ h => by have := from_le hg; omega)
              have hv7 := HV7.out.keeps hKW (by omega)
              have hr7' : hasRow W2 ⟨w2.heap.size, 0, none⟩ 2 = true := hv7.hasRow rfl
              have hq7' : rowAt W2 ⟨w2.heap.size, 0, none⟩ 2 = ruleV kk nn := hv7.rowAt rfl
              have HV34 : Hid (hasVar W2 w.heap.size 3 = true) := (hasVar_congr (hKW.block _ (by omega) (by omega))).trans HV33.out
              clear hv3 hi3 hK hKW hKA hv7
              have hv3 := HV34.out
              have hi3 : isOld w.heap.size W2 = true := isOld_iff.2 (by omega)
              have HSN := Lib.hid (HNEW.out HCON.out)
              by_cases h200 : P.length = 200
              · have h2 : ((P.length : Int) == 200) = true := by rw [beq_iff_eq]; omega
                have HEND : Hid (RES = ([], 53, (k : Int) + 1, colR x)) := by
                  show _ = _
                  rw [HSTP.out, if_neg (by simp), if_neg (by simp), if_neg (by rw [HCON.out]; decide), if_pos (by omega)]
                clear HSTP
                go_wp2_with (go_at_call 62; (with_reducible refine (HCOL.out _).mono ?_); rintro e w1 ⟨rfl, hb1⟩; obtain ⟨p1, rfl⟩ := grown_of hb1; clear hb1)
                exact ret_tmp_cell w.heap.size (faultV 53 ((k : Int) + 1) (colR x)) (.slice none 0 0) rfl rfl rfl agg_fault (by simp [go_sem, hv3, hi3]) (by simp [go_sem, hv3, hi3]) rfl (by rw [HEND.out]; exact ⟨none, 0, rfl, Nat.le_refl _, below_setRow (below_grown HBW4.out (by omega) _) (Nat.le_refl _) _, .inl rfl⟩)
              · have h2 : ((P.length : Int) == 200) = false := by rw [beq_eq_false_iff_ne]; omega
                have HS2 : Hid (ruleStep (L.drop (k + 1)) (k + 1) (P ++ [(kk, nn)]) = RES) := by
                  show _ = _
                  rw [HSTP.out, if_neg (by simp), if_neg (by simp), if_neg (by rw [HCON.out]; decide), if_neg (by omega)]
                have HPW2 : Hid (∀ r ∈ P ++ [(kk, nn)], okR r) := fun r h => by
                  rcases List.mem_append.1 h with h | h
                  · exact HPW.out r h
                  · rw [List.mem_singleton] at h; subst h; exact hbd
                clear HSTP
                go_wp2_with (at_builtin; refine wpList_append_list rfl ruleCod (.tmp 59) (.tmp 61) 32 rfl rfl (From w1.heap.size) _ _ (P) rfl (HO4.out.alloc _) _ 0 _ _ [(kk, nn)] rfl rfl (listAt_new _ _ [_] _ rfl (by first | rfl | (simp [go_sem]; done))) (by first | omega | (simp; done) | (simp; omega) | (simp [go_sem]; done) | (simp [go_sem]; omega) | (simp [ruleCod]; omega)) (by first | omega | (simp; done) | (simp; omega) | (simp [go_sem]; done) | (simp [go_sem]; omega) | (simp [ruleCod]; omega)) (by first | (show _ ≤ _; first | omega | (simp; omega) | (simp [go_sem]; omega)) | (show _ ∨ _; right; first | omega | (simp; omega) | (simp [go_sem]; omega))) ?_; intro v' w1 ho1 hb1; have HO1 := Lib.hid ho1; have HB1 := Lib.hid hb1; clear ho1 hb1)
                go_roundw
                case rel => exact ⟨k + 1, P ++ [(kk, nn)], by omega, by simp; omega, by go_num, (HK4.out.alloc _).trans (HB1.out.sub (fun j h => .inr h)), HO1.out, (HSN.out.old ((Below.refl W2.heap.size W2).alloc (Nat.le_refl _) _ |>.block _ (by omega))).old (HB1.out.block _ (by simp; omega) (fun h => by have := from_le h; omega)), HS2.out, HPW2.out⟩
                case measure => simp [intOf]; omega
            · have HCON := Lib.hid hcon
              clear hcon
              go_region
              have hK := HGR.out
              have hKW : Keeps (fun j => j = (w.heap.size + 1)) w3 W2 := ⟨hK.os, hK.tape, hK.output, hK.size, fun j hj hn => hK.block j hj (fun e => hn (by cases e; rfl))⟩
              have hKA : Keeps (Also (w.heap.size + 1) w1.heap.size) w3 W2 := ⟨hK.os, hK.tape, hK.output, hK.size, fun j hj hn => hK.block j hj (fun e => hn (.inl (by cases e; rfl)))⟩
              have hsz4 := hKW.size
              have HBW4 : Hid (Below w.heap.size w W2) := HBW3.out.trans (hKW.below (fun j hj => ⟨by omega, by omega⟩))
              have HK4 : Hid (Keeps (Also (w.heap.size + 1) w1.heap.size) w1 W2) := HK3.out.trans hKA
              have HO4 : Hid (Own ruleCod (From w1.heap.size) W2 (.slice a P.length cap) P) := HO3.out.keeps hKW (fun g hg _ h => by have := from_le hg; omega)
              have hv7 := HV7.out.keeps hKW (by omega)
              have hr7' : hasRow W2 ⟨w2.heap.size, 0, none⟩ 2 = true := hv7.hasRow rfl
              have hq7' : rowAt W2 ⟨w2.heap.size, 0, none⟩ 2 = ruleV kk nn := hv7.rowAt rfl
              have HV34 : Hid (hasVar W2 w.heap.size 3 = true) := (hasVar_congr (hKW.block _ (by omega) (by omega))).trans HV33.out
              clear hv3 hi3 hK hKW hKA hv7
              have hv3 := HV34.out
              have hi3 : isOld w.heap.size W2 = true := isOld_iff.2 (by omega)
              have HEND : Hid (RES = ([], 52, (k : Int) + 1, colR x)) := by
                show _ = _
                rw [HSTP.out, if_neg (by simp), if_neg (by simp), if_pos HCON.out]
              clear HSTP
              go_wp2_with (go_at_call 62; (with_reducible refine (HCOL.out _).mono ?_); rintro e w1 ⟨rfl, hb1⟩; obtain ⟨p1, rfl⟩ := grown_of hb1; clear hb1)
              exact ret_tmp_cell w.heap.size (faultV 52 ((k : Int) + 1) (colR x)) (.slice none 0 0) rfl rfl rfl agg_fault (by simp [go_sem, hv3, hi3]) (by simp [go_sem, hv3, hi3]) rfl (by rw [HEND.out]; exact ⟨none, 0, rfl, Nat.le_refl _, below_setRow (below_grown HBW4.out (by omega) _) (Nat.le_refl _) _, .inl rfl⟩)
        · have hf : says = false := by rcases hre with h | h; exact absurd h he; exact h.2
          subst hf
          have HEND : Hid (RES = ([], er, (k : Int) + 1, colR x)) := by
            show _ = _
            rw [HSTP.out, if_pos he]
          have he1 : (er != 0) = true := by rw [bne_iff_ne]; exact he
          have he2 : (er == 0) = false := by rw [beq_eq_false_iff_ne]; exact he
          clear HSTP he
          go_wp2_with (go_at_call 62; (with_reducible refine (HCOL.out _).mono ?_); rintro e w1 ⟨rfl, hb1⟩; obtain ⟨p1, rfl⟩ := grown_of hb1; clear hb1)
          exact ret_tmp_cell w.heap.size (faultV er ((k : Int) + 1) (colR x)) (.slice none 0 0) rfl rfl rfl agg_fault (by simp [go_sem, hv3, hi3]) (by simp [go_sem, hv3, hi3]) rfl (by rw [HEND.out]; exact ⟨none, 0, rfl, Nat.le_refl _, below_setRow (below_grown HBW3.out (by omega) _) (Nat.le_refl _) _, .inl rfl⟩)
      · obtain rfl : k = L.length := by omega
        have hfin := hinv.out
        rw [ruleStep_end] at hfin
        subst hfin
        have hv3 := HVR.out
        have hi3 : isOld w.heap.size wr = true := isOld_iff.2 (by omega)
        go_wp2
        exact ret_tmp_cell w.heap.size (faultV 0 0 0) (.slice a P.length cap) rfl rfl rfl agg_fault (by simp [go_sem, hv3, hi3]) (by simp [go_sem, hv3, hi3]) rfl ⟨a, cap, rfl, hcap, below_setRow HBE.out (Nat.le_refl _) _, (HINP.out.setRow (by omega) _).mono (by omega)⟩
end

section
open Go Go.RowKit
set_option maxRecDepth 20000
set_option linter.unusedSimpArgs false
set_option linter.unusedVariables false

theorem colR_bd (x : List UInt8) : 0 ≤ colR x ∧ colR x ≤ x.length + 1 := by
  unfold colR; omega
theorem ruleStep_bd (N : Nat) : ∀ (L : List (List UInt8)) (i : Nat) (out : List GRule), (∀ x ∈ L, x.length ≤ N) → (∀ r ∈ out, okR r) → out.length ≤ 200 →
    (0 ≤ (ruleStep L i out).2.1 ∧ (ruleStep L i out).2.1 ≤ 60) ∧ (0 ≤ (ruleStep L i out).2.2.1 ∧ (ruleStep L i out).2.2.1 ≤ i + L.length) ∧ (0 ≤ (ruleStep L i out).2.2.2 ∧ (ruleStep L i out).2.2.2 ≤ N + 1) ∧ (∀ r ∈ (ruleStep L i out).1, okR r) ∧ (ruleStep L i out).1.length ≤ 200
  | [], i, out, _, h2, h3 => ⟨⟨Int.le_refl _, (by decide : (0 : Int) ≤ 60)⟩, ⟨Int.le_refl _, by show (0 : Int) ≤ _; omega⟩, ⟨Int.le_refl _, by show (0 : Int) ≤ _; omega⟩, h2, h3⟩
  | x :: L, i, out, h1, h2, h3 => by
    have hx := h1 x List.mem_cons_self
    have hL : ∀ y ∈ L, y.length ≤ N := fun y hy => h1 y (List.mem_cons_of_mem _ hy)
    obtain ⟨c1, c2⟩ := colR_bd x
    have he := ruleOut_err x
    have hlen : ((x :: L).length : Int) = L.length + 1 := by simp
    have fin : ∀ c : Int, (0 ≤ c ∧ c ≤ 60) → (0 ≤ c ∧ c ≤ 60) ∧ (0 ≤ (i : Int) + 1 ∧ (i : Int) + 1 ≤ i + (x :: L).length) ∧ (0 ≤ colR x ∧ colR x ≤ N + 1) ∧ (∀ r ∈ ([] : List GRule), okR r) ∧ ([] : List GRule).length ≤ 200 := fun c hc => ⟨hc, by omega, by omega, (fun r h => by cases h), Nat.zero_le _⟩
    rw [ruleStep]
    split
    · exact fin (ruleOut x).2.2 (by rcases he with h | ⟨h, _⟩ <;> omega)
    · split
      · have := ruleStep_bd N L (i + 1) out hL h2 h3
        exact ⟨this.1, by have := this.2.1; omega, this.2.2⟩
      · split
        · exact fin 52 (by omega)
        · split
          · exact fin 53 (by omega)
          · have := ruleStep_bd N L (i + 1) (out ++ [(ruleOut x).1]) hL (fun r hr => by
              rcases List.mem_append.1 hr with hr | hr
              · exact h2 r hr
              · rw [List.mem_singleton] at hr; subst hr; exact ruleOut_bd' x) (by simp; omega)
            exact ⟨this.1, by have := this.2.1; omega, this.2.2⟩
theorem ruleFile_bd (s : List UInt8) (hs : s.length ≤ 100000) :
    (0 ≤ (ruleFile s).2.1 ∧ (ruleFile s).2.1 ≤ 60) ∧ (0 ≤ (ruleFile s).2.2.1 ∧ (ruleFile s).2.2.1 ≤ 200000) ∧ (0 ≤ (ruleFile s).2.2.2 ∧ (ruleFile s).2.2.2 ≤ 200000) ∧ (∀ r ∈ (ruleFile s).1, okR r) ∧ (ruleFile s).1.length ≤ 200 := by
  unfold ruleFile
  split
  · exact ⟨⟨(by decide : (0 : Int) ≤ 54), (by decide : (54 : Int) ≤ 60)⟩, ⟨(by decide : (0 : Int) ≤ 1), (by decide : (1 : Int) ≤ 200000)⟩, ⟨(by decide : (0 : Int) ≤ 1), (by decide : (1 : Int) ≤ 200000)⟩, (fun r h => by cases h), Nat.zero_le _⟩
  · have h := ruleStep_bd s.length (linesL s) 0 [] (fun x hx => linesL_piece s x hx) (fun r h => by cases h) (Nat.zero_le _)
    have hl := linesL_le' s
    exact ⟨h.1, by have := h.2.1; omega, by have := h.2.2.1; omega, h.2.2.2⟩
theorem wf_small {n : Int} (h : 0 ≤ n ∧ n ≤ 200000) : (Lit.int .i64 n).wf = true := by
  have e1 : IntKind.i64.min = -9223372036854775808 := rfl
  have e2 : IntKind.i64.max = 9223372036854775807 := rfl
  simp only [Lit.wf, e1, e2, Bool.and_eq_true, decide_eq_true_eq]
  omega
set_option maxHeartbeats 2000000 in
theorem refSameR_any (A : List GRule) (a b : Option Addr) (ca cb la lb : Nat) (hA : A.length ≤ 200) (hok : ∀ r ∈ A, okR r) (w : World) (ha : ListIn ruleCod w a A la) (hb : ListIn ruleCod w b A lb) :
    Calls Tryz.prog 34 #[.slice a A.length ca, .slice b A.length cb] w fun e w' => e = .returned (.bool true) ∧ Below w.heap.size w w' := by
  have HA := Lib.hid ha
  have HB := Lib.hid hb
  have HOK := Lib.hid hok
  clear ha hb hok
  go_enter Tryz.func34, Tryz.ntmps34
  go_wp2
  go_loopw [5, 13] (fun _ i wr => ∃ k : Nat, k ≤ A.length ∧ i = .int .i64 k ∧ Below w.heap.size w wr) (fun _ i _ => A.length - (intOf i).toNat)
  case atStart => exact ⟨0, Nat.zero_le _, rfl, Below.refl _ _⟩
  case round =>
    obtain ⟨k, hk, rfl, hbw⟩ := hrel
    have hsz := hbw.size
    by_cases hlt : k < A.length
    · obtain ⟨b1, o1, rfl, _, h1, hat1⟩ := HA.out.resolve_left (fun h => by subst h; exact absurd hlt (Nat.not_lt_zero _))
      obtain ⟨b2, o2, rfl, _, h2, hat2⟩ := HB.out.resolve_left (fun h => by subst h; exact absurd hlt (Nat.not_lt_zero _))
      obtain ⟨r1, q1⟩ := ruleRow (hat1.below hbw) k hlt
      obtain ⟨r2, q2⟩ := ruleRow (hat2.below hbw) k hlt
      have hr := HOK.out _ (List.getElem_mem hlt)
      have hi1 : (k : Int) < (A.length : Int) := by omega
      have ho1 : isOld b1 wr = true := isOld_iff.2 (by omega)
      have ho2 : isOld b2 wr = true := isOld_iff.2 (by omega)
      clear hat1 hat2
      obtain ⟨⟨kk, nn⟩, hp⟩ : ∃ r, A[k]'hlt = r := ⟨_, rfl⟩
      rw [hp] at q1 q2 hr
      clear hp
      dsimp only at q1 q2
      have hk1 : (Lit.int .i64 kk).wf = true := wf_kind' hr.1
      have hn1 : nn.length ≤ maxLen := by have := hr.2; unfold maxLen; dsimp only at this; omega
      have he : ruleEq kk nn kk nn = true := ruleEq_iff.2 ⟨rfl, rfl⟩
      clear hr
      go_wp2
      refine wp_region_quiet_grown (by kernel_rfl) (by kernel_rfl) ?_
      repeat (quiet_step (fail))
      refine wpQuiet_nil ?_; intro _ hw'; obtain ⟨pq, hw''⟩ := hw'; subst hw''
      go_wp2
      go_roundw
      case rel => exact ⟨k + 1, by omega, by go_num, (by repeat (first | exact Below.refl _ _ | assumption | refine below_grown ?_ (by first | omega | (simp [go_sem]; done) | (simp [go_sem] <;> omega)) _ | refine Below.alloc ?_ (by first | omega | (simp [go_sem]; done) | (simp [go_sem] <;> omega)) _ | refine below_bytesW ?_ (by first | omega | (simp [go_sem]; done) | (simp [go_sem] <;> omega)) _ | refine Below.drew ?_ | refine below_drewN ?_ _))⟩
      case measure => simp [intOf]; omega
    · obtain rfl : k = A.length := by omega
      go_wp2
      go_ret
      exact ⟨rfl, (by repeat (first | exact Below.refl _ _ | assumption | refine below_grown ?_ (by first | omega | (simp [go_sem]; done) | (simp [go_sem] <;> omega)) _ | refine Below.alloc ?_ (by first | omega | (simp [go_sem]; done) | (simp [go_sem] <;> omega)) _ | refine below_bytesW ?_ (by first | omega | (simp [go_sem]; done) | (simp [go_sem] <;> omega)) _ | refine Below.drew ?_ | refine below_drewN ?_ _))⟩
end
end Go.Proofs.YtlegjkjicdpeeaaGreatDoor
