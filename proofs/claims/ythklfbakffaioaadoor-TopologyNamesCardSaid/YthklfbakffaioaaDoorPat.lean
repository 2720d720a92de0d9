/- Patterns as data: how they lie in cells, how values of the type are opened, when two are one, how one is built. -/
import Derived.Test.YthklfbakffaioaaDoorOpen
import Derived.Test.YthklfbakffaioaaDoorHostBn
namespace Go.Proofs.YthklfbakffaioaaDoor
open Go Go.RowKit
set_option maxRecDepth 20000
set_option linter.unusedSimpArgs false
set_option linter.unusedVariables false

structure GPat where
  wild : Bool
  host : GHost
  plain : Bool
  secure : Bool
  pre : List UInt8
  hpre : pre.length ≤ maxLen
def patR (wi : Bool) (h : GHost) (pl se : Bool) (pa : List UInt8) : List Value := [.bool wi] ++ (hostL h ++ [.bool pl, .bool se, .string ⟨pa.toArray⟩])
def patV (wi : Bool) (h : GHost) (pl se : Bool) (pa : List UInt8) : Array Value := (patR wi h pl se pa).toArray
theorem patR_length (wi : Bool) (h : GHost) (pl se : Bool) (pa : List UInt8) : (patR wi h pl se pa).length = 22 := by simp [patR, hostL_length]
@[go_sem] theorem patV_size (wi : Bool) (h : GHost) (pl se : Bool) (pa : List UInt8) : (patV wi h pl se pa).size = 22 := by simp [patV, patR_length]
theorem pat_idx (wi : Bool) (h : GHost) (pl se : Bool) (pa : List UInt8) (i : Nat) (v : Value) (hi : 19 ≤ i) (hv : [Value.bool pl, .bool se, .string ⟨pa.toArray⟩][i - 19]? = some v) : (patV wi h pl se pa)[i]? = some v := by
  rw [patV, List.getElem?_toArray, patR, List.getElem?_append_right (by simp; omega), List.getElem?_append_right (by rw [hostL_length]; simp; omega), hostL_length, ← hv]
  congr 1
@[go_sem ↓ high] theorem patV_0 (wi : Bool) (h : GHost) (pl se : Bool) (pa : List UInt8) : (patV wi h pl se pa)[0]? = some (.bool wi) := by simp [patV, patR]
@[go_sem ↓ high] theorem patV_1 (wi : Bool) (h : GHost) (pl se : Bool) (pa : List UInt8) : (patV wi h pl se pa)[1]? = some (.int .i64 h.kind) := by simp [patV, patR, hostL]
@[go_sem ↓ high] theorem patV_2 (wi : Bool) (h : GHost) (pl se : Bool) (pa : List UInt8) : (patV wi h pl se pa)[2]? = some (.string ⟨h.name.toArray⟩) := by simp [patV, patR, hostL]
@[go_sem ↓ high] theorem patV_19 (wi : Bool) (h : GHost) (pl se : Bool) (pa : List UInt8) : (patV wi h pl se pa)[19]? = some (.bool pl) := pat_idx wi h pl se pa 19 _ (by decide) rfl
@[go_sem ↓ high] theorem patV_20 (wi : Bool) (h : GHost) (pl se : Bool) (pa : List UInt8) : (patV wi h pl se pa)[20]? = some (.bool se) := pat_idx wi h pl se pa 20 _ (by decide) rfl
@[go_sem ↓ high] theorem patV_21 (wi : Bool) (h : GHost) (pl se : Bool) (pa : List UInt8) : (patV wi h pl se pa)[21]? = some (.string ⟨pa.toArray⟩) := pat_idx wi h pl se pa 21 _ (by decide) rfl
@[go_sem] theorem patV_all (wi : Bool) (h : GHost) (pl se : Bool) (pa : List UInt8) : (patV wi h pl se pa).extract 0 22 = patV wi h pl se pa := by
  have := patV_size wi h pl se pa
  rw [← this]; simp
@[go_sem] theorem patV_host (wi : Bool) (h : GHost) (pl se : Bool) (pa : List UInt8) : (patV wi h pl se pa).extract 1 19 = hostC h := extract_mid _ _ _ 1 19 rfl (by rw [hostL_length])
theorem pat_one (wi : Bool) (h : GHost) (pl se : Bool) (pa : List UInt8) : ∀ v ∈ patR wi h pl se pa, v.oneCell' = true := by
  intro v hv
  simp only [patR, List.mem_append, List.mem_cons, List.not_mem_nil, or_false] at hv
  rcases hv with rfl | hv | rfl | rfl | rfl
  · rfl
  · exact host_one _ v hv
  all_goals rfl
@[go_sem] theorem patV_one (wi : Bool) (h : GHost) (pl se : Bool) (pa : List UInt8) : allOne (patV wi h pl se pa) = true := allOne_of (pat_one wi h pl se pa)
@[go_sem] theorem agg_pat : isAggT Tryd.prog 41 = true := by kernel_rfl
@[go_sem] theorem cellsOf_pat : Tryd.prog.cellsOf 41 = 22 := by kernel_rfl
def patC (u : GPat) : Array Value := patV u.wild u.host u.plain u.secure u.pre
section
variable {w : World} {r : Reach} {base : Nat}
def patT : List TypeId := [4] ++ (hostT ++ [4, 4, 9])
theorem fits_pat {vs : List Value} (h : RowFits Tryd.prog w r base patT vs) : ∃ u : GPat, vs = patR u.wild u.host u.plain u.secure u.pre := by
  obtain ⟨v0, vs, rfl, h0, h⟩ := rowFits_cons h
  obtain ⟨vh, vs, rfl, hh, h⟩ := rowFits_split (ts := hostT) h
  obtain ⟨v1, vs, rfl, h1, h⟩ := rowFits_cons h
  obtain ⟨v2, vs, rfl, h2, h⟩ := rowFits_cons h
  obtain ⟨v3, vs, rfl, h3, h⟩ := rowFits_cons h
  obtain rfl := rowFits_nil h
  obtain ⟨wi, rfl⟩ := cell_bool Tryd.underlying4 h0
  obtain ⟨ho, rfl⟩ := fits_host hh
  obtain ⟨pl, rfl⟩ := cell_bool Tryd.underlying4 h1
  obtain ⟨se, rfl⟩ := cell_bool Tryd.underlying4 h2
  obtain ⟨pa, rfl, g3⟩ := cell_str Tryd.underlying9 h3
  exact ⟨⟨wi, ho, pl, se, pa, g3⟩, rfl⟩
theorem open_pattern {v : Value} (h : Value.okWide Tryd.prog w r base 41 v) : ∃ u : GPat, v = .agg (patC u) := by
  unfold Value.okWide at h
  rw [Tryd.underlying41] at h
  obtain ⟨cs, rfl, hs, hr⟩ := h
  obtain ⟨c, hc⟩ := fits_pat (rowFits_row (ts := patT) (by kernel_rfl) (by rw [hs, cellsOf_pat]; rfl) hr)
  exact ⟨c, by rw [patC, patV, ← hc]⟩
end
/-! ### when two are one -/
def patK (wi : Bool) (h : GHost) (pl se : Bool) (pa : List UInt8) : List Lit := [.bool wi] ++ (hostK h ++ ([.bool pl] ++ ([.bool se] ++ ([.string pa] ++ []))))
theorem addrK_lenP (a : GAddr) : (addrK a).length = 16 := by simp [addrK, a.len]
theorem hostK_lenP (h : GHost) : (hostK h).length = 18 := by simp [hostK, addrK_lenP]
theorem patK_inj {wi wi' : Bool} {h h' : GHost} {pl pl' se se' : Bool} {pa pa' : List UInt8} (e : patK wi h pl se pa = patK wi' h' pl' se' pa') : wi = wi' ∧ h = h' ∧ pl = pl' ∧ se = se' ∧ pa = pa' := by
  simp only [patK, List.singleton_append, List.cons.injEq, Lit.bool.injEq, List.append_nil] at e
  obtain ⟨e1, e2⟩ := e
  obtain ⟨e2, e3⟩ := List.append_inj e2 (by rw [hostK_lenP, hostK_lenP])
  simp only [List.cons.injEq, Lit.bool.injEq, Lit.string.injEq, true_and, and_true] at e3
  exact ⟨e1, hostK_inj e2, e3.1, e3.2.1, e3.2.2⟩
def patEq (wi : Bool) (h : GHost) (pl se : Bool) (pa : List UInt8) (wi' : Bool) (h' : GHost) (pl' se' : Bool) (pa' : List UInt8) : Bool := wi == wi' && (hostEq h h' && (pl == pl' && (se == se' && pa == pa')))
theorem keyLits_pat (D : Nat) (wi : Bool) (h : GHost) (pl se : Bool) (pa : List UInt8) (h2 : pa.length ≤ maxLen) : Tryd.prog.keyLits (D + 4) 41 (patR wi h pl se pa) = some (patK wi h pl se pa) := by
  have e0 : (patR wi h pl se pa).take 1 = [.bool wi] := by simp [patR]
  have e1 : ((patR wi h pl se pa).tail).take 18 = hostL h := by simp [patR, hostL_length]
  have e2 : ((patR wi h pl se pa).drop 19).take 1 = [.bool pl] := by simp [patR, hostL_length]
  have hd : ∀ k, 18 ≤ k → (hostL h).drop k = [] := fun k hk => List.drop_of_length_le (by rw [hostL_length]; exact hk)
  have e3 : ((patR wi h pl se pa).drop 20).take 1 = [.bool se] := by simp [patR, hostL_length, List.drop_append, hd]
  have e4 : ((patR wi h pl se pa).drop 21).take 1 = [.string ⟨pa.toArray⟩] := by simp [patR, hostL_length, List.drop_append, hd]
  unfold Program.keyLits
  rw [Tryd.underlying41]
  simp [cellsOf_pat, patR_length, cellsOf_str, cellsOf_int, cellsOf_bool, cellsOf_host, e0, e1, e2, e3, e4, keyLits_host, keyLits_str, keyLits_bool, keyLits_i64, h2, patK]
theorem pat_rows (wi wi' : Bool) (h h' : GHost) (pl pl' se se' : Bool) (pa pa' : List UInt8) (h2 : pa.length ≤ maxLen) (h2' : pa'.length ≤ maxLen) (x y : Operand) (w : World) :
    eqRow Tryd.prog w 41 x y (.agg (patV wi h pl se pa)) (.agg (patV wi' h' pl' se' pa')) = .ok (.value (.bool (patEq wi h pl se pa wi' h' pl' se' pa'))) w ∧
    neRow Tryd.prog w 41 x y (.agg (patV wi h pl se pa)) (.agg (patV wi' h' pl' se' pa')) = .ok (.value (.bool (!patEq wi h pl se pa wi' h' pl' se' pa'))) w :=
  eq_rows (m := 10) (by kernel_rfl) (by decide) (by kernel_rfl) (keyLits_pat 0 wi h pl se pa h2) (keyLits_pat 0 wi' h' pl' se' pa' h2') (by simp [Value.formed, Tryd.underlying41, cellsOf_pat, patR_length]) (by simp [Value.formed, Tryd.underlying41, cellsOf_pat, patR_length])
    (by unfold patEq; simp only [Bool.and_eq_true, beq_iff_eq, hostEq_iff]; exact ⟨fun ⟨a, b, c, d, e⟩ => by rw [a, b, c, d, e], patK_inj⟩) x y w
@[go_sem] theorem eqRow_pat (wi wi' : Bool) (h h' : GHost) (pl pl' se se' : Bool) (pa pa' : List UInt8) (h2 : pa.length ≤ maxLen) (h2' : pa'.length ≤ maxLen) (x y : Operand) (w : World) :
    eqRow Tryd.prog w 41 x y (.agg (patV wi h pl se pa)) (.agg (patV wi' h' pl' se' pa')) = .ok (.value (.bool (patEq wi h pl se pa wi' h' pl' se' pa'))) w := (pat_rows wi wi' h h' pl pl' se se' pa pa' h2 h2' x y w).1
/-! ### built -/
theorem list18p {α : Type} (l : List α) (h : l.length = 18) : ∃ a b c d e f g i j k m n o p q r s t, l = [a, b, c, d, e, f, g, i, j, k, m, n, o, p, q, r, s, t] := by
  match l, h with
  | [a, b, c, d, e, f, g, i, j, k, m, n, o, p, q, r, s, t], _ => exact ⟨a, b, c, d, e, f, g, i, j, k, m, n, o, p, q, r, s, t, rfl⟩
theorem run_build_pat0 (w : World) : (Instr.build 41 #[]).run Tryd.prog w = .ok (.agg (patV false zeroH false false [])) w := by kernel_rfl
theorem run_build_pat (wi : Bool) (h : GHost) (pl se : Bool) (pa : List UInt8) (w : World) :
    (Instr.build 41 #[(0, .bool wi), (1, .agg (hostC h)), (2, .bool pl), (3, .bool se), (4, .string ⟨pa.toArray⟩)]).run Tryd.prog w = .ok (.agg (patV wi h pl se pa)) w := by
  have : ∀ l : List Value, l.length = 18 → (Instr.build 41 #[(0, .bool wi), (1, .agg l.toArray), (2, .bool pl), (3, .bool se), (4, .string ⟨pa.toArray⟩)]).run Tryd.prog w = .ok (.agg (([.bool wi] ++ (l ++ [.bool pl, .bool se, .string ⟨pa.toArray⟩]) : List Value)).toArray) w := by
    intro l hl
    obtain ⟨a, b, c, d, e, f, g, i, j, k, m, n, o, p, q, r, s, t, rfl⟩ := list18p l hl
    kernel_rfl
  exact this (hostL h) (hostL_length h)
@[go_sem ↓ high] theorem run_op_build_pat0 (ev : Operand → Value) (dst : Option Tmp) (ty : TypeId) (pos : String) (af : Array Edge) (g : Option (Nat × Bool)) (w : World) :
    Sem.run Tryd.prog (execOp ev { dst := dst, op := .build 41 #[], type := ty, pos := pos, after := af, guard := g }) w = .ok (.value (.agg (patV false zeroH false false []))) w := by
  rw [run_op_build, buildRow, Sem.run_bind]
  simp [run_build_pat0]
@[go_sem ↓ high] theorem run_op_build_pat (ev : Operand → Value) (dst : Option Tmp) (x0 x1 x2 x3 x4 : Operand) (ty : TypeId) (pos : String) (af : Array Edge) (g : Option (Nat × Bool)) (w : World) :
    Sem.run Tryd.prog (execOp ev { dst := dst, op := .build 41 #[(0, x0), (1, x1), (2, x2), (3, x3), (4, x4)], type := ty, pos := pos, after := af, guard := g }) w = buildRow Tryd.prog w 41 #[(0, ev x0), (1, ev x1), (2, ev x2), (3, ev x3), (4, ev x4)] := by
  rw [run_op_build]
  simp
@[go_sem] theorem buildPat_at (wi : Bool) (h : GHost) (pl se : Bool) (pa : List UInt8) (w : World) : buildRow Tryd.prog w 41 #[(0, .bool wi), (1, .agg (hostC h)), (2, .bool pl), (3, .bool se), (4, .string ⟨pa.toArray⟩)] = .ok (.value (.agg (patV wi h pl se pa))) w := by
  rw [buildRow, Sem.run_bind, run_build_pat]
  rfl
end Go.Proofs.YthklfbakffaioaaDoor
