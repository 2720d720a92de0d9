/- URLs as data: how they lie in cells, how values of the type are opened, when two are one, how one is built. -/
import Derived.Test.YtfnhkpfkaiamjaaDoorOpen
import Derived.Test.YtfnhkpfkaiamjaaDoorHostBn
namespace Go.Proofs.YtfnhkpfkaiamjaaDoor
open Go Go.RowKit
set_option maxRecDepth 20000
set_option linter.unusedSimpArgs false
set_option linter.unusedVariables false

structure GURL where
  secure : Bool
  host : GHost
  port : Int
  path : List UInt8
  hport : (Lit.int .i64 port).wf = true
  hpath : path.length ≤ maxLen
def urlR (se : Bool) (h : GHost) (po : Int) (pa : List UInt8) : List Value := [.bool se] ++ (hostL h ++ [.int .i64 po, .string ⟨pa.toArray⟩])
def urlV (se : Bool) (h : GHost) (po : Int) (pa : List UInt8) : Array Value := (urlR se h po pa).toArray
theorem urlR_length (se : Bool) (h : GHost) (po : Int) (pa : List UInt8) : (urlR se h po pa).length = 21 := by simp [urlR, hostL_length]
@[go_sem] theorem urlV_size (se : Bool) (h : GHost) (po : Int) (pa : List UInt8) : (urlV se h po pa).size = 21 := by simp [urlV, urlR_length]
theorem url_idx (se : Bool) (h : GHost) (po : Int) (pa : List UInt8) (i : Nat) (v : Value) (hi : 19 ≤ i) (hv : [Value.int .i64 po, .string ⟨pa.toArray⟩][i - 19]? = some v) : (urlV se h po pa)[i]? = some v := by
  rw [urlV, List.getElem?_toArray, urlR, List.getElem?_append_right (by simp; omega), List.getElem?_append_right (by rw [hostL_length]; simp; omega), hostL_length, ← hv]
  congr 1
@[go_sem ↓ high] theorem urlV_0 (se : Bool) (h : GHost) (po : Int) (pa : List UInt8) : (urlV se h po pa)[0]? = some (.bool se) := by simp [urlV, urlR]
@[go_sem ↓ high] theorem urlV_2 (se : Bool) (h : GHost) (po : Int) (pa : List UInt8) : (urlV se h po pa)[2]? = some (.string ⟨h.name.toArray⟩) := by simp [urlV, urlR, hostL]
@[go_sem ↓ high] theorem urlV_19 (se : Bool) (h : GHost) (po : Int) (pa : List UInt8) : (urlV se h po pa)[19]? = some (.int .i64 po) := url_idx se h po pa 19 _ (by decide) rfl
@[go_sem ↓ high] theorem urlV_20 (se : Bool) (h : GHost) (po : Int) (pa : List UInt8) : (urlV se h po pa)[20]? = some (.string ⟨pa.toArray⟩) := url_idx se h po pa 20 _ (by decide) rfl
@[go_sem] theorem urlV_all (se : Bool) (h : GHost) (po : Int) (pa : List UInt8) : (urlV se h po pa).extract 0 21 = urlV se h po pa := by
  have := urlV_size se h po pa
  rw [← this]; simp
@[go_sem] theorem urlV_host (se : Bool) (h : GHost) (po : Int) (pa : List UInt8) : (urlV se h po pa).extract 1 19 = hostC h := extract_mid _ _ _ 1 19 rfl (by rw [hostL_length])
theorem url_one (se : Bool) (h : GHost) (po : Int) (pa : List UInt8) : ∀ v ∈ urlR se h po pa, v.oneCell' = true := by
  intro v hv
  simp only [urlR, List.mem_append, List.mem_cons, List.not_mem_nil, or_false] at hv
  rcases hv with rfl | hv | rfl | rfl
  · rfl
  · exact host_one _ v hv
  all_goals rfl
@[go_sem] theorem urlV_one (se : Bool) (h : GHost) (po : Int) (pa : List UInt8) : allOne (urlV se h po pa) = true := allOne_of (url_one se h po pa)
@[go_sem] theorem agg_url : isAggT Tryd.prog 27 = true := by kernel_rfl
@[go_sem] theorem cellsOf_url : Tryd.prog.cellsOf 27 = 21 := by kernel_rfl
def urlC (u : GURL) : Array Value := urlV u.secure u.host u.port u.path
section
variable {w : World} {r : Reach} {base : Nat}
def urlT : List TypeId := [4] ++ (hostT ++ [3, 9])
theorem fits_url {vs : List Value} (h : RowFits Tryd.prog w r base urlT vs) : ∃ u : GURL, vs = urlR u.secure u.host u.port u.path := by
  obtain ⟨v0, vs, rfl, h0, h⟩ := rowFits_cons h
  obtain ⟨vh, vs, rfl, hh, h⟩ := rowFits_split (ts := hostT) h
  obtain ⟨v2, vs, rfl, h2, h⟩ := rowFits_cons h
  obtain ⟨v3, vs, rfl, h3, h⟩ := rowFits_cons h
  obtain rfl := rowFits_nil h
  obtain ⟨se, rfl⟩ := cell_bool Tryd.underlying4 h0
  obtain ⟨ho, rfl⟩ := fits_host hh
  obtain ⟨po, rfl, g2⟩ := cell_int Tryd.underlying3 h2
  obtain ⟨pa, rfl, g3⟩ := cell_str Tryd.underlying9 h3
  exact ⟨⟨se, ho, po, pa, g2, g3⟩, rfl⟩
theorem open_url {v : Value} (h : Value.okWide Tryd.prog w r base 27 v) : ∃ u : GURL, v = .agg (urlC u) := by
  unfold Value.okWide at h
  rw [Tryd.underlying27] at h
  obtain ⟨cs, rfl, hs, hr⟩ := h
  obtain ⟨c, hc⟩ := fits_url (rowFits_row (ts := urlT) (by kernel_rfl) (by rw [hs, cellsOf_url]; rfl) hr)
  exact ⟨c, by rw [urlC, urlV, ← hc]⟩
end
/-! ### when two are one -/
def urlK (se : Bool) (h : GHost) (po : Int) (pa : List UInt8) : List Lit := [.bool se] ++ (hostK h ++ ([.int .i64 po] ++ ([.string pa] ++ [])))
theorem addrK_len (a : GAddr) : (addrK a).length = 16 := by simp [addrK, a.len]
theorem hostK_len (h : GHost) : (hostK h).length = 18 := by simp [hostK, addrK_len]
theorem urlK_inj {se se' : Bool} {h h' : GHost} {po po' : Int} {pa pa' : List UInt8} (e : urlK se h po pa = urlK se' h' po' pa') : se = se' ∧ h = h' ∧ po = po' ∧ pa = pa' := by
  simp only [urlK, List.singleton_append, List.cons.injEq, Lit.bool.injEq, List.append_nil] at e
  obtain ⟨e1, e2⟩ := e
  obtain ⟨e2, e3⟩ := List.append_inj e2 (by rw [hostK_len, hostK_len])
  simp only [List.cons.injEq, Lit.int.injEq, Lit.string.injEq, true_and, and_true] at e3
  exact ⟨e1, hostK_inj e2, e3.1, e3.2⟩
theorem keyLits_url (D : Nat) (se : Bool) (h : GHost) (po : Int) (pa : List UInt8) (h1 : (Lit.int .i64 po).wf = true) (h2 : pa.length ≤ maxLen) : Tryd.prog.keyLits (D + 4) 27 (urlR se h po pa) = some (urlK se h po pa) := by
  have e0 : (urlR se h po pa).take 1 = [.bool se] := by simp [urlR]
  have e1 : ((urlR se h po pa).tail).take 18 = hostL h := by simp [urlR, hostL_length]
  have e2 : ((urlR se h po pa).drop 19).take 1 = [.int .i64 po] := by simp [urlR, hostL_length]
  have e3 : ((urlR se h po pa).drop 20).take 1 = [.string ⟨pa.toArray⟩] := by
    have : (hostL h).drop 19 = [] := List.drop_of_length_le (by rw [hostL_length]; decide)
    simp [urlR, hostL_length, List.drop_append, this]
  unfold Program.keyLits
  rw [Tryd.underlying27]
  simp [cellsOf_url, urlR_length, cellsOf_str, cellsOf_int, cellsOf_bool, cellsOf_host, e0, e1, e2, e3, keyLits_host, keyLits_str, keyLits_bool, keyLits_i64, h1, h2, urlK]
theorem url_rows (se se' : Bool) (h h' : GHost) (po po' : Int) (pa pa' : List UInt8) (h1 : (Lit.int .i64 po).wf = true) (h2 : pa.length ≤ maxLen) (h1' : (Lit.int .i64 po').wf = true) (h2' : pa'.length ≤ maxLen) (x y : Operand) (w : World) :
    eqRow Tryd.prog w 27 x y (.agg (urlV se h po pa)) (.agg (urlV se' h' po' pa')) = .ok (.value (.bool (se == se' && (hostEq h h' && (po == po' && pa == pa'))))) w ∧
    neRow Tryd.prog w 27 x y (.agg (urlV se h po pa)) (.agg (urlV se' h' po' pa')) = .ok (.value (.bool (!(se == se' && (hostEq h h' && (po == po' && pa == pa')))))) w :=
  eq_rows (m := 10) (by kernel_rfl) (by decide) (by kernel_rfl) (keyLits_url 0 se h po pa h1 h2) (keyLits_url 0 se' h' po' pa' h1' h2') (by simp [Value.formed, Tryd.underlying27, cellsOf_url, urlR_length]) (by simp [Value.formed, Tryd.underlying27, cellsOf_url, urlR_length])
    (by simp only [Bool.and_eq_true, beq_iff_eq, hostEq_iff]; exact ⟨fun ⟨a, b, c, d⟩ => by rw [a, b, c, d], urlK_inj⟩) x y w
@[go_sem] theorem eqRow_url (se se' : Bool) (h h' : GHost) (po po' : Int) (pa pa' : List UInt8) (h1 : (Lit.int .i64 po).wf = true) (h2 : pa.length ≤ maxLen) (h1' : (Lit.int .i64 po').wf = true) (h2' : pa'.length ≤ maxLen) (x y : Operand) (w : World) :
    eqRow Tryd.prog w 27 x y (.agg (urlV se h po pa)) (.agg (urlV se' h' po' pa')) = .ok (.value (.bool (se == se' && (hostEq h h' && (po == po' && pa == pa'))))) w := (url_rows se se' h h' po po' pa pa' h1 h2 h1' h2' x y w).1
/-! ### built -/
theorem list18h {α : Type} (l : List α) (h : l.length = 18) : ∃ a b c d e f g i j k m n o p q r s t, l = [a, b, c, d, e, f, g, i, j, k, m, n, o, p, q, r, s, t] := by
  match l, h with
  | [a, b, c, d, e, f, g, i, j, k, m, n, o, p, q, r, s, t], _ => exact ⟨a, b, c, d, e, f, g, i, j, k, m, n, o, p, q, r, s, t, rfl⟩
theorem run_build_url0 (w : World) : (Instr.build 27 #[]).run Tryd.prog w = .ok (.agg (urlV false zeroH 0 [])) w := by kernel_rfl
theorem run_build_url (se : Bool) (h : GHost) (po : Int) (pa : List UInt8) (w : World) :
    (Instr.build 27 #[(0, .bool se), (1, .agg (hostC h)), (2, .int .i64 po), (3, .string ⟨pa.toArray⟩)]).run Tryd.prog w = .ok (.agg (urlV se h po pa)) w := by
  have : ∀ l : List Value, l.length = 18 → (Instr.build 27 #[(0, .bool se), (1, .agg l.toArray), (2, .int .i64 po), (3, .string ⟨pa.toArray⟩)]).run Tryd.prog w = .ok (.agg (([.bool se] ++ (l ++ [.int .i64 po, .string ⟨pa.toArray⟩]) : List Value)).toArray) w := by
    intro l hl
    obtain ⟨a, b, c, d, e, f, g, i, j, k, m, n, o, p, q, r, s, t, rfl⟩ := list18h l hl
    kernel_rfl
  exact this (hostL h) (hostL_length h)
@[go_sem ↓ high] theorem run_op_build_url0 (ev : Operand → Value) (dst : Option Tmp) (ty : TypeId) (pos : String) (af : Array Edge) (g : Option (Nat × Bool)) (w : World) :
    Sem.run Tryd.prog (execOp ev { dst := dst, op := .build 27 #[], type := ty, pos := pos, after := af, guard := g }) w = .ok (.value (.agg (urlV false zeroH 0 []))) w := by
  rw [run_op_build, buildRow, Sem.run_bind]
  simp [run_build_url0]
@[go_sem ↓ high] theorem run_op_build_url (ev : Operand → Value) (dst : Option Tmp) (x0 x1 x2 x3 : Operand) (ty : TypeId) (pos : String) (af : Array Edge) (g : Option (Nat × Bool)) (w : World) :
    Sem.run Tryd.prog (execOp ev { dst := dst, op := .build 27 #[(0, x0), (1, x1), (2, x2), (3, x3)], type := ty, pos := pos, after := af, guard := g }) w = buildRow Tryd.prog w 27 #[(0, ev x0), (1, ev x1), (2, ev x2), (3, ev x3)] := by
  rw [run_op_build]
  simp
@[go_sem] theorem buildUrl_at (se : Bool) (h : GHost) (po : Int) (pa : List UInt8) (w : World) : buildRow Tryd.prog w 27 #[(0, .bool se), (1, .agg (hostC h)), (2, .int .i64 po), (3, .string ⟨pa.toArray⟩)] = .ok (.value (.agg (urlV se h po pa))) w := by
  rw [buildRow, Sem.run_bind, run_build_url]
  rfl
end Go.Proofs.YtfnhkpfkaiamjaaDoor
