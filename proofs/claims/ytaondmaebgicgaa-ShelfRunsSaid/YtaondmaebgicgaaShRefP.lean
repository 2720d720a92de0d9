/- The document's doings on the list: by places; a store into the middle of a list; what a doing hands back. -/
import Derived.Test.YtaondmaebgicgaaShRefD
import Derived.Test.YtaondmaebgicgaaBuildS
namespace Go.Proofs.Ytaondmaebgicgaa
open Go Go.RowKit
set_option maxRecDepth 20000
set_option linter.unusedSimpArgs false
set_option linter.unusedVariables false

theorem idx_cons (y : GKept) (W : List GKept) (c : GCookie) : idxW (y :: W) c = if samePl y.1 c = true then 0 else idxW W c + 1 := by
  unfold idxW
  rw [List.findIdx_cons]
  cases samePl y.1 c <;> simp
theorem repl_set {W : List GKept} (hA : Apart W) {c : GCookie} {k x : GKept} (h : findW W c = some k) : replW W c x = W.set (idxW W c) x := by
  induction W with
  | nil => cases h
  | cons y W ih =>
    have hA2 := List.pairwise_cons.1 hA
    rw [idx_cons]
    unfold findW at h
    rw [List.find?_cons] at h
    cases hy : samePl y.1 c
    · rw [hy] at h
      have := ih hA2.2 h
      unfold replW at this ⊢
      rw [List.map_cons, hy, this]
      simp
    · have hn : ∀ z ∈ W, samePl z.1 c = false := fun z hz => by
        have := hA2.1 z hz
        rw [samePl_trans hy, samePl_symm] at this
        exact this
      unfold replW
      rw [List.map_cons, hy, if_pos rfl, if_pos rfl, List.set_cons_zero]
      congr 1
      rw [List.map_congr_left (g := id), List.map_id]
      intro z hz
      simp [hn z hz]
theorem drop_take {W : List GKept} (hA : Apart W) {c : GCookie} {k : GKept} (h : findW W c = some k) : dropW W c = W.take (idxW W c) ++ W.drop (idxW W c + 1) := by
  induction W with
  | nil => cases h
  | cons y W ih =>
    have hA2 := List.pairwise_cons.1 hA
    rw [idx_cons]
    unfold findW at h
    rw [List.find?_cons] at h
    cases hy : samePl y.1 c
    · rw [hy] at h
      have := ih hA2.2 h
      unfold dropW at this ⊢
      rw [List.filter_cons, hy, this]
      simp
    · have hn : ∀ z ∈ W, samePl z.1 c = false := fun z hz => by
        have := hA2.1 z hz
        rw [samePl_trans hy, samePl_symm] at this
        exact this
      unfold dropW
      rw [List.filter_cons, hy]
      simp only [Bool.not_true, Bool.false_eq_true, if_false, if_true, List.take_zero, List.nil_append, Nat.zero_add, List.drop_succ_cons, List.drop_zero]
      rw [List.filter_eq_self]
      intro z hz
      simp [hn z hz]
/-! ### what a doing hands back -/
def DocGives (W : List GKept) (last : Nat) (v : Value) (w : World) (e : Ending) (w' : World) : Prop :=
  ∃ a cap, e = .returned (.tuple #[.agg (shC a W.length cap last), v]) ∧ W.length ≤ cap ∧ ListIn dkCod w' a W 0 ∧ Below w.heap.size w w'
@[go_sem ↓ high] theorem run_op_build_sh (ev : Operand → Value) (dst : Option Tmp) (x0 x1 : Operand) (ty : TypeId) (pos : String) (af : Array Edge) (g : Option (Nat × Bool)) (w : World) :
    Sem.run Try.prog (execOp ev { dst := dst, op := .build 50 #[(0, x0), (1, x1)], type := ty, pos := pos, after := af, guard := g }) w = buildRow Try.prog w 50 #[(0, ev x0), (1, ev x1)] := by
  rw [run_op_build]
  simp
@[go_sem] theorem buildSh_at (a : Option Addr) (n cap last : Nat) (w : World) : buildRow Try.prog w 50 #[(0, .slice a n cap), (1, .int .i64 (last : Int))] = .ok (.value (.agg (shC a n cap last))) w := by kernel_rfl
@[go_sem] theorem buildSh_at1 (a : Option Addr) (n cap last : Nat) (w : World) : buildRow Try.prog w 50 #[(0, .slice a n cap), (1, .int .i64 ((last : Int) + 1))] = .ok (.value (.agg (shC a n cap (last + 1)))) w := by kernel_rfl
@[go_sem ↓ high] theorem run_op_build_dk (ev : Operand → Value) (dst : Option Tmp) (x0 x1 : Operand) (ty : TypeId) (pos : String) (af : Array Edge) (g : Option (Nat × Bool)) (w : World) :
    Sem.run Try.prog (execOp ev { dst := dst, op := .build 73 #[(0, x0), (1, x1)], type := ty, pos := pos, after := af, guard := g }) w = buildRow Try.prog w 73 #[(0, ev x0), (1, ev x1)] := by
  rw [run_op_build]
  simp
@[go_sem] theorem buildDk_at (c : GCookie) (s : List UInt8) (w : World) : buildRow Try.prog w 73 #[(0, .agg (cookieC c)), (1, .string ⟨s.toArray⟩)] = .ok (.value (.agg (keptV (c, s)))) w := by
  have : ∀ l : List Value, l.length = 29 → (Instr.build 73 #[(0, .agg l.toArray), (1, .string ⟨s.toArray⟩)]).run Try.prog w = .ok (.agg ((l ++ [.string ⟨s.toArray⟩] : List Value)).toArray) w := by
    intro l hl
    obtain ⟨a, b, c, d, e, f, g, i, j, k, m, n, o, p, q, r, s, t, u, v, x, y, z, a1, a2, a3, a4, a5, a6, rfl⟩ := list29s l hl
    kernel_rfl
  rw [buildRow, Sem.run_bind]
  have h := this (cookieL c) (cookieL_length c)
  rw [show (Value.agg (cookieC c)) = .agg (cookieL c).toArray from rfl, h]
  rfl
/-! ### a store into the middle of a list of one's own -/
theorem encs_set {α : Type} (c : Cod α) (xs : List α) (i : Nat) (hi : i < xs.length) (x : α) : c.encs (xs.set i x) = (c.encs xs).take (i * c.sz) ++ c.enc x ++ (c.encs xs).drop (i * c.sz + c.sz) := by
  induction xs generalizing i with
  | nil => simp at hi
  | cons y ys ih =>
    have e : ∀ (z : α) (zs : List α), c.encs (z :: zs) = c.enc z ++ c.encs zs := fun z zs => by simp [Cod.encs]
    cases i with
    | zero =>
      rw [List.set_cons_zero, e, e, Nat.zero_mul, List.take_zero, List.nil_append, Nat.zero_add, List.drop_append, List.drop_of_length_le (by rw [c.len]; exact Nat.le_refl _), c.len]
      simp
    | succ i =>
      have h1 : i < ys.length := by simpa using hi
      have t1 : (c.enc y).take (i * c.sz + c.sz) = c.enc y := List.take_of_length_le (by rw [c.len]; omega)
      have t2 : (c.enc y).drop (i * c.sz + c.sz + c.sz) = [] := List.drop_of_length_le (by rw [c.len]; omega)
      rw [List.set_cons_succ, e, e, ih i h1, Nat.succ_mul, List.take_append, List.drop_append, c.len, t1, t2, show i * c.sz + c.sz - c.sz = i * c.sz by omega, show i * c.sz + c.sz + c.sz - c.sz = i * c.sz + c.sz by omega]
      simp
theorem store_mid {Q : Nat → Prop} {w : World} {g cap n : Nat} {xs : List GKept} (h : Own dkCod Q w (.slice (some ⟨g, 0, none⟩) n cap) xs) (i : Nat) (hi : i < xs.length) (x : GKept) :
    ∃ w', storeRow Try.prog w 73 (.pointer (some ⟨g, i * 30, none⟩)) (.agg (keptV x)) = .ok .skip w' ∧ ListAt dkCod w' g 0 (xs.set i x) ∧ Keeps (fun j => j = g) w w' ∧ Q g ∧ g < w'.heap.size := by
  obtain ⟨⟨h1, ⟨hv, _⟩ | ⟨g', cap', cur, hv, hg, hh, hnc, _, hcur, hx⟩⟩, hq⟩ := h
  · cases hv
  · cases hv
    have hlt := (Array.getElem?_eq_some_iff.1 hh).1
    have hlen : (dkCod.encs xs).length = xs.length * 30 := dkCod.encs_length xs
    have hx' : cur.toList.take (xs.length * 30) = dkCod.encs xs := hx
    have hcs : xs.length * 30 ≤ cur.size := by
      have q := congrArg List.length hx'
      rw [List.length_take, hlen] at q
      have q2 := Nat.min_le_right (xs.length * 30) cur.toList.length
      rw [q] at q2
      simpa using q2
    have hi30 : i * 30 + 30 ≤ xs.length * 30 := by omega
    have hr := run_storeCells_at (P := Try.prog) g (i * 30) dkCod.E (keptR x) 0 cur w hh (by rw [keptR_length]; omega) (kept_one x)
    rw [Nat.add_zero, keptR_length] at hr
    obtain ⟨_, ha2⟩ := isAggT_run agg_dkept w
    refine ⟨w.setRow g (cur.toList.take (i * 30) ++ keptR x ++ cur.toList.drop (i * 30 + 30)).toArray, ?_, ?_, ?_, hq g rfl, ?_⟩
    · have e3 : (Value.agg (keptV x)).cells = keptV x := rfl
      have e4 : (keptV x).toList = keptR x := rfl
      simp only [storeRow, Instr.storeAt, Instr.sureAddr, storeVar, Sem.run_bind, Sem.run_pure, Result.andThen_ok, ha2, e3, keptV_size, cellsOf_dkept]
      simp [e4, hr]
    · intro j u hj
      rw [encs_set dkCod xs i hi x] at hj
      have hset : (w.setRow g (cur.toList.take (i * 30) ++ keptR x ++ cur.toList.drop (i * 30 + 30)).toArray).heap[g]? = some (.cells (cur.toList.take (i * 30) ++ keptR x ++ cur.toList.drop (i * 30 + 30)).toArray dkCod.E (0, 0)) := setRow_heap w g _ _ _ _ hh
      simp only [World.cell?, hset, Nat.zero_add]
      rw [List.getElem?_toArray]
      have e5 : (dkCod.encs xs).take (i * dkCod.sz) = cur.toList.take (i * 30) := by
        show (dkCod.encs xs).take (i * 30) = _
        rw [← hx', List.take_take, Nat.min_eq_left (by omega)]
      have e6 : (dkCod.encs xs).drop (i * dkCod.sz + dkCod.sz) = (cur.toList.drop (i * 30 + 30)).take (xs.length * 30 - (i * 30 + 30)) := by
        show (dkCod.encs xs).drop (i * 30 + 30) = _
        rw [← hx', List.drop_take]
      rw [e5, e6] at hj
      have e7 : dkCod.enc x = keptR x := rfl
      rw [e7] at hj
      have hl1 : (cur.toList.take (i * 30) ++ keptR x).length = i * 30 + 30 := by
        have q3 : cur.toList.length = cur.size := by simp
        rw [List.length_append, keptR_length, List.length_take, q3]; omega
      by_cases hjl : j < i * 30 + 30
      · rw [List.getElem?_append_left (by rw [hl1]; exact hjl)] at hj ⊢
        exact hj
      · rw [List.getElem?_append_right (by rw [hl1]; omega), hl1] at hj ⊢
        rw [List.getElem?_take] at hj
        split at hj
        · exact hj
        · cases hj
    · exact keeps_setRow (Q := fun j => j = g) (Keeps.refl _ _) (.inr rfl) _
    · rw [setRow_size']; exact hlt
end Go.Proofs.Ytaondmaebgicgaa
