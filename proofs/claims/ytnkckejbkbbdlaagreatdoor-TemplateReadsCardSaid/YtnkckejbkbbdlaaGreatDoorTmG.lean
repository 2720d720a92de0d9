/- Merged: Urln, TplD, Join, HostParsen. -/
import Derived.Test.YtnkckejbkbbdlaaGreatDoorTmF
import Derived.Test.YtnkckejbkbbdlaaGreatDoorTmA
import Derived.Test.YtnkckejbkbbdlaaGreatDoorShelf
namespace Go.Proofs.YtnkckejbkbbdlaaGreatDoor
section
open Go Go.RowKit
set_option maxRecDepth 20000
set_option linter.unusedSimpArgs false
set_option linter.unusedVariables false

structure GURL where
  secure : Bool
  host : GHost
  port : Int
  path : List UInt8
  hport : (Lit.int .i64 port).wf = true
  hpath : path.length ≤ maxLen
def urlR (se : Bool) (h : GHost) (po : Int) (pa : List UInt8) : List Value := [.bool se] ++ (hostL h ++ [.int .i64 po, .string ⟨pa.toArray⟩])
def urlV (se : Bool) (h : GHost) (po : Int) (pa : List UInt8) : Array Value := (urlR se h po pa).toArray
theorem urlR_length (se : Bool) (h : GHost) (po : Int) (pa : List UInt8) : (urlR se h po pa).length = 21 := by simp [urlR, hostL_length]
@[go_sem] theorem urlV_size (se : Bool) (h : GHost) (po : Int) (pa : List UInt8) : (urlV se h po pa).size = 21 := by simp [urlV, urlR_length]
theorem url_idx (se : Bool) (h : GHost) (po : Int) (pa : List UInt8) (i : Nat) (v : Value) (hi : 19 ≤ i) (hv : [Value.int .i64 po, .string ⟨pa.toArray⟩][i - 19]? = some v) : (urlV se h po pa)[i]? = some v := by
  rw [urlV, List.getElem?_toArray, urlR, List.getElem?_append_right (by simp; omega), List.getElem?_append_right (by rw [hostL_length]; simp; omega), hostL_length, ← hv]
  congr 1
@[go_sem ↓ high] theorem urlV_0 (se : Bool) (h : GHost) (po : Int) (pa : List UInt8) : (urlV se h po pa)[0]? = some (.bool se) := by simp [urlV, urlR]
@[go_sem ↓ high] theorem urlV_2 (se : Bool) (h : GHost) (po : Int) (pa : List UInt8) : (urlV se h po pa)[2]? = some (.string ⟨h.name.toArray⟩) := by simp [urlV, urlR, hostL]
@[go_sem ↓ high] theorem urlV_19 (se : Bool) (h : GHost) (po : Int) (pa : List UInt8) : (urlV se h po pa)[19]? = some (.int .i64 po) := url_idx se h po pa 19 _ (by decide) rfl
@[go_sem ↓ high] theorem urlV_20 (se : Bool) (h : GHost) (po : Int) (pa : List UInt8) : (urlV se h po pa)[20]? = some (.string ⟨pa.toArray⟩) := url_idx se h po pa 20 _ (by decide) rfl
@[go_sem] theorem urlV_all (se : Bool) (h : GHost) (po : Int) (pa : List UInt8) : (urlV se h po pa).extract 0 21 = urlV se h po pa := by
  have := urlV_size se h po pa
  rw [← this]; simp
@[go_sem] theorem urlV_host (se : Bool) (h : GHost) (po : Int) (pa : List UInt8) : (urlV se h po pa).extract 1 19 = hostC h := extract_mid _ _ _ 1 19 rfl (by rw [hostL_length])
theorem url_one (se : Bool) (h : GHost) (po : Int) (pa : List UInt8) : ∀ v ∈ urlR se h po pa, v.oneCell' = true := by
  intro v hv
  simp only [urlR, List.mem_append, List.mem_cons, List.not_mem_nil, or_false] at hv
  rcases hv with rfl | hv | rfl | rfl
  · rfl
  · exact host_one _ v hv
  all_goals rfl
@[go_sem] theorem urlV_one (se : Bool) (h : GHost) (po : Int) (pa : List UInt8) : allOne (urlV se h po pa) = true := allOne_of (url_one se h po pa)
@[go_sem] theorem agg_url : isAggT Tryz.prog 39 = true := by kernel_rfl
@[go_sem] theorem cellsOf_url : Tryz.prog.cellsOf 39 = 21 := by kernel_rfl
def urlC (u : GURL) : Array Value := urlV u.secure u.host u.port u.path
section
variable {w : World} {r : Reach} {base : Nat}
def urlT : List TypeId := [4] ++ (hostT ++ [3, 9])
theorem fits_url {vs : List Value} (h : RowFits Tryz.prog w r base urlT vs) : ∃ u : GURL, vs = urlR u.secure u.host u.port u.path := by
  obtain ⟨v0, vs, rfl, h0, h⟩ := rowFits_cons h
  obtain ⟨vh, vs, rfl, hh, h⟩ := rowFits_split (ts := hostT) h
  obtain ⟨v2, vs, rfl, h2, h⟩ := rowFits_cons h
  obtain ⟨v3, vs, rfl, h3, h⟩ := rowFits_cons h
  obtain rfl := rowFits_nil h
  obtain ⟨se, rfl⟩ := cell_bool Tryz.underlying4 h0
  obtain ⟨ho, rfl⟩ := fits_host hh
  obtain ⟨po, rfl, g2⟩ := cell_int Tryz.underlying3 h2
  obtain ⟨pa, rfl, g3⟩ := cell_str Tryz.underlying9 h3
  exact ⟨⟨se, ho, po, pa, g2, g3⟩, rfl⟩
theorem open_url {v : Value} (h : Value.okWide Tryz.prog w r base 39 v) : ∃ u : GURL, v = .agg (urlC u) := by
  unfold Value.okWide at h
  rw [Tryz.underlying39] at h
  obtain ⟨cs, rfl, hs, hr⟩ := h
  obtain ⟨c, hc⟩ := fits_url (rowFits_row (ts := urlT) (by kernel_rfl) (by rw [hs, cellsOf_url]; rfl) hr)
  exact ⟨c, by rw [urlC, urlV, ← hc]⟩
end
/-! ### when two are one -/
def urlK (se : Bool) (h : GHost) (po : Int) (pa : List UInt8) : List Lit := [.bool se] ++ (hostK h ++ ([.int .i64 po] ++ ([.string pa] ++ [])))
theorem addrK_len (a : GAddr) : (addrK a).length = 16 := by simp [addrK, a.len]
theorem hostK_len (h : GHost) : (hostK h).length = 18 := by simp [hostK, addrK_len]
theorem urlK_inj {se se' : Bool} {h h' : GHost} {po po' : Int} {pa pa' : List UInt8} (e : urlK se h po pa = urlK se' h' po' pa') : se = se' ∧ h = h' ∧ po = po' ∧ pa = pa' := by
  simp only [urlK, List.singleton_append, List.cons.injEq, Lit.bool.injEq, List.append_nil] at e
  obtain ⟨e1, e2⟩ := e
  obtain ⟨e2, e3⟩ := List.append_inj e2 (by rw [hostK_len, hostK_len])
  simp only [List.cons.injEq, Lit.int.injEq, Lit.string.injEq, true_and, and_true] at e3
  exact ⟨e1, hostK_inj e2, e3.1, e3.2⟩
theorem keyLits_url (D : Nat) (se : Bool) (h : GHost) (po : Int) (pa : List UInt8) (h1 : (Lit.int .i64 po).wf = true) (h2 : pa.length ≤ maxLen) : Tryz.prog.keyLits (D + 4) 39 (urlR se h po pa) = some (urlK se h po pa) := by
  have e0 : (urlR se h po pa).take 1 = [.bool se] := by simp [urlR]
  have e1 : ((urlR se h po pa).tail).take 18 = hostL h := by simp [urlR, hostL_length]
  have e2 : ((urlR se h po pa).drop 19).take 1 = [.int .i64 po] := by simp [urlR, hostL_length]
  have e3 : ((urlR se h po pa).drop 20).take 1 = [.string ⟨pa.toArray⟩] := by
    have : (hostL h).drop 19 = [] := List.drop_of_length_le (by rw [hostL_length]; decide)
    simp [urlR, hostL_length, List.drop_append, this]
  unfold Program.keyLits
  rw [Tryz.underlying39]
  simp [cellsOf_url, urlR_length, cellsOf_str, cellsOf_int, cellsOf_bool, cellsOf_host, e0, e1, e2, e3, keyLits_host, keyLits_str, keyLits_bool, keyLits_i64, h1, h2, urlK]
theorem url_rows (se se' : Bool) (h h' : GHost) (po po' : Int) (pa pa' : List UInt8) (h1 : (Lit.int .i64 po).wf = true) (h2 : pa.length ≤ maxLen) (h1' : (Lit.int .i64 po').wf = true) (h2' : pa'.length ≤ maxLen) (x y : Operand) (w : World) :
    eqRow Tryz.prog w 39 x y (.agg (urlV se h po pa)) (.agg (urlV se' h' po' pa')) = .ok (.value (.bool (se == se' && (hostEq h h' && (po == po' && pa == pa'))))) w ∧
    neRow Tryz.prog w 39 x y (.agg (urlV se h po pa)) (.agg (urlV se' h' po' pa')) = .ok (.value (.bool (!(se == se' && (hostEq h h' && (po == po' && pa == pa')))))) w :=
  eq_rows (m := 10) (by kernel_rfl) (by decide) (by kernel_rfl) (keyLits_url 0 se h po pa h1 h2) (keyLits_url 0 se' h' po' pa' h1' h2') (by simp [Value.formed, Tryz.underlying39, cellsOf_url, urlR_length]) (by simp [Value.formed, Tryz.underlying39, cellsOf_url, urlR_length])
    (by simp only [Bool.and_eq_true, beq_iff_eq, hostEq_iff]; exact ⟨fun ⟨a, b, c, d⟩ => by rw [a, b, c, d], urlK_inj⟩) x y w
@[go_sem] theorem eqRow_url (se se' : Bool) (h h' : GHost) (po po' : Int) (pa pa' : List UInt8) (h1 : (Lit.int .i64 po).wf = true) (h2 : pa.length ≤ maxLen) (h1' : (Lit.int .i64 po').wf = true) (h2' : pa'.length ≤ maxLen) (x y : Operand) (w : World) :
    eqRow Tryz.prog w 39 x y (.agg (urlV se h po pa)) (.agg (urlV se' h' po' pa')) = .ok (.value (.bool (se == se' && (hostEq h h' && (po == po' && pa == pa'))))) w := (url_rows se se' h h' po po' pa pa' h1 h2 h1' h2' x y w).1
/-! ### built -/
theorem list18h {α : Type} (l : List α) (h : l.length = 18) : ∃ a b c d e f g i j k m n o p q r s t, l = [a, b, c, d, e, f, g, i, j, k, m, n, o, p, q, r, s, t] := by
  match l, h with
  | [a, b, c, d, e, f, g, i, j, k, m, n, o, p, q, r, s, t], _ => exact ⟨a, b, c, d, e, f, g, i, j, k, m, n, o, p, q, r, s, t, rfl⟩
theorem run_build_url0 (w : World) : (Instr.build 39 #[]).run Tryz.prog w = .ok (.agg (urlV false zeroH 0 [])) w := by kernel_rfl
theorem run_build_url (se : Bool) (h : GHost) (po : Int) (pa : List UInt8) (w : World) :
    (Instr.build 39 #[(0, .bool se), (1, .agg (hostC h)), (2, .int .i64 po), (3, .string ⟨pa.toArray⟩)]).run Tryz.prog w = .ok (.agg (urlV se h po pa)) w := by
  have : ∀ l : List Value, l.length = 18 → (Instr.build 39 #[(0, .bool se), (1, .agg l.toArray), (2, .int .i64 po), (3, .string ⟨pa.toArray⟩)]).run Tryz.prog w = .ok (.agg (([.bool se] ++ (l ++ [.int .i64 po, .string ⟨pa.toArray⟩]) : List Value)).toArray) w := by
    intro l hl
    obtain ⟨a, b, c, d, e, f, g, i, j, k, m, n, o, p, q, r, s, t, rfl⟩ := list18h l hl
    kernel_rfl
  exact this (hostL h) (hostL_length h)
@[go_sem ↓ high] theorem run_op_build_url0 (ev : Operand → Value) (dst : Option Tmp) (ty : TypeId) (pos : String) (af : Array Edge) (g : Option (Nat × Bool)) (w : World) :
    Sem.run Tryz.prog (execOp ev { dst := dst, op := .build 39 #[], type := ty, pos := pos, after := af, guard := g }) w = .ok (.value (.agg (urlV false zeroH 0 []))) w := by
  rw [run_op_build, buildRow, Sem.run_bind]
  simp [run_build_url0]
@[go_sem ↓ high] theorem run_op_build_url (ev : Operand → Value) (dst : Option Tmp) (x0 x1 x2 x3 : Operand) (ty : TypeId) (pos : String) (af : Array Edge) (g : Option (Nat × Bool)) (w : World) :
    Sem.run Tryz.prog (execOp ev { dst := dst, op := .build 39 #[(0, x0), (1, x1), (2, x2), (3, x3)], type := ty, pos := pos, after := af, guard := g }) w = buildRow Tryz.prog w 39 #[(0, ev x0), (1, ev x1), (2, ev x2), (3, ev x3)] := by
  rw [run_op_build]
  simp
@[go_sem] theorem buildUrl_at (se : Bool) (h : GHost) (po : Int) (pa : List UInt8) (w : World) : buildRow Tryz.prog w 39 #[(0, .bool se), (1, .agg (hostC h)), (2, .int .i64 po), (3, .string ⟨pa.toArray⟩)] = .ok (.value (.agg (urlV se h po pa))) w := by
  rw [buildRow, Sem.run_bind, run_build_url]
  rfl
end

section
open Go Go.RowKit
set_option maxRecDepth 20000
set_option linter.unusedSimpArgs false
set_option linter.unusedVariables false

/-! ### a choice: its name, and a slice of its values -/
structure RCh where
  name : List UInt8
  a : Option Addr
  n : Nat
  cap : Nat
def chR (r : RCh) : List Value := [.string ⟨r.name.toArray⟩, .slice r.a r.n r.cap]
def chV (r : RCh) : Array Value := (chR r).toArray
@[go_sem] theorem chV_size (r : RCh) : (chV r).size = 2 := by simp [chV, chR]
theorem ch_one (r : RCh) : ∀ v ∈ chR r, v.oneCell' = true := by
  intro v hv
  simp only [chR, List.mem_cons, List.not_mem_nil, or_false] at hv
  rcases hv with rfl | rfl <;> rfl
@[go_sem] theorem chV_one (r : RCh) : allOne (chV r) = true := allOne_of (ch_one r)
@[go_sem ↓ high] theorem chV_0 (r : RCh) : (chV r)[0]? = some (.string ⟨r.name.toArray⟩) := by simp [chV, chR]
@[go_sem ↓ high] theorem chV_1 (r : RCh) : (chV r)[1]? = some (.slice r.a r.n r.cap) := by simp [chV, chR]
@[go_sem] theorem chV_all (r : RCh) : (chV r).extract 0 2 = chV r := by
  rw [← chV_size r]; simp
@[go_sem] theorem agg_ch : isAggT Tryz.prog 45 = true := by kernel_rfl
@[go_sem] theorem cellsOf_ch : Tryz.prog.cellsOf 45 = 2 := by kernel_rfl
def chCod : Cod RCh where
  E := 45
  S := 28
  sz := 2
  bys := 40
  z := .agg (chV ⟨[], none, 0, 0⟩)
  enc := chR
  und := by kernel_rfl
  info := by kernel_rfl
  zsz := chV_size _
  pos := by decide
  len := fun _ => rfl
  one := ch_one
/-! ### a piece -/
def ptR (p : GPart) : List Value := [.string ⟨p.1.toArray⟩, .int .i64 p.2]
def ptVV (p : GPart) : Array Value := (ptR p).toArray
@[go_sem] theorem ptVV_size (p : GPart) : (ptVV p).size = 2 := by simp [ptVV, ptR]
theorem part_one (p : GPart) : ∀ v ∈ ptR p, v.oneCell' = true := by
  intro v hv
  simp only [ptR, List.mem_cons, List.not_mem_nil, or_false] at hv
  rcases hv with rfl | rfl <;> rfl
@[go_sem] theorem ptVV_one (p : GPart) : allOne (ptVV p) = true := allOne_of (part_one p)
@[go_sem ↓ high] theorem ptVV_0 (p : GPart) : (ptVV p)[0]? = some (.string ⟨p.1.toArray⟩) := by simp [ptVV, ptR]
@[go_sem ↓ high] theorem ptVV_1 (p : GPart) : (ptVV p)[1]? = some (.int .i64 p.2) := by simp [ptVV, ptR]
@[go_sem] theorem ptVV_all (p : GPart) : (ptVV p).extract 0 2 = ptVV p := by
  rw [← ptVV_size p]; simp
@[go_sem] theorem agg_part : isAggT Tryz.prog 76 = true := by kernel_rfl
@[go_sem] theorem cellsOf_part : Tryz.prog.cellsOf 76 = 2 := by kernel_rfl
def partCod : Cod GPart where
  E := 76
  S := 60
  sz := 2
  bys := 24
  z := .agg (ptVV ([], 0))
  enc := ptR
  und := by kernel_rfl
  info := by kernel_rfl
  zsz := ptVV_size _
  pos := by decide
  len := fun _ => rfl
  one := part_one
theorem run_build_part (s : List UInt8) (k : Int) (w : World) : (Instr.build 76 #[(0, .string ⟨s.toArray⟩), (1, .int .i64 k)]).run Tryz.prog w = .ok (.agg (ptVV (s, k))) w := by kernel_rfl
@[go_sem ↓ high] theorem run_op_build_part (ev : Operand → Value) (dst : Option Tmp) (x0 x1 : Operand) (ty : TypeId) (pos : String) (af : Array Edge) (g : Option (Nat × Bool)) (w : World) :
    Sem.run Tryz.prog (execOp ev { dst := dst, op := .build 76 #[(0, x0), (1, x1)], type := ty, pos := pos, after := af, guard := g }) w = buildRow Tryz.prog w 76 #[(0, ev x0), (1, ev x1)] := by
  rw [run_op_build]
  simp
@[go_sem] theorem buildPart_at (s : List UInt8) (k : Int) (w : World) : buildRow Tryz.prog w 76 #[(0, .string ⟨s.toArray⟩), (1, .int .i64 k)] = .ok (.value (.agg (ptVV (s, k)))) w := by
  rw [buildRow, Sem.run_bind, run_build_part]
  rfl
/-! ### a template -/
def tpR (t : GTpl) : List Value := [.string ⟨t.name.toArray⟩] ++ (urlR t.url.1 t.url.2.1 t.url.2.2.1 t.url.2.2.2 ++ [.string ⟨t.text.toArray⟩, .int .i64 t.line])
def tpV (t : GTpl) : Array Value := (tpR t).toArray
theorem tpR_length (t : GTpl) : (tpR t).length = 24 := by simp [tpR, urlR_length]
@[go_sem] theorem tpV_size (t : GTpl) : (tpV t).size = 24 := by simp [tpV, tpR_length]
theorem tp_one (t : GTpl) : ∀ v ∈ tpR t, v.oneCell' = true := by
  intro v hv
  simp only [tpR, List.mem_append, List.mem_cons, List.not_mem_nil, or_false] at hv
  rcases hv with rfl | hv | rfl | rfl
  · rfl
  · exact url_one _ _ _ _ v hv
  all_goals rfl
@[go_sem] theorem tpV_one (t : GTpl) : allOne (tpV t) = true := allOne_of (tp_one t)
theorem tp_idx (t : GTpl) (i : Nat) (v : Value) (hi : 22 ≤ i) (hv : [Value.string ⟨t.text.toArray⟩, .int .i64 t.line][i - 22]? = some v) : (tpV t)[i]? = some v := by
  rw [tpV, List.getElem?_toArray, tpR, List.getElem?_append_right (by simp; omega), List.getElem?_append_right (by rw [urlR_length]; simp; omega), urlR_length, ← hv]
  congr 1
@[go_sem ↓ high] theorem tpV_0 (t : GTpl) : (tpV t)[0]? = some (.string ⟨t.name.toArray⟩) := by simp [tpV, tpR]
@[go_sem ↓ high] theorem tpV_22 (t : GTpl) : (tpV t)[22]? = some (.string ⟨t.text.toArray⟩) := tp_idx t 22 _ (by decide) rfl
@[go_sem ↓ high] theorem tpV_23 (t : GTpl) : (tpV t)[23]? = some (.int .i64 t.line) := tp_idx t 23 _ (by decide) rfl
@[go_sem] theorem tpV_all (t : GTpl) : (tpV t).extract 0 24 = tpV t := by
  have := tpV_size t
  rw [← this]; simp
@[go_sem] theorem tpV_url (t : GTpl) : (tpV t).extract 1 22 = urlV t.url.1 t.url.2.1 t.url.2.2.1 t.url.2.2.2 := extract_mid _ _ _ 1 22 rfl (by rw [urlR_length])
@[go_sem] theorem agg_tp : isAggT Tryz.prog 41 = true := by kernel_rfl
@[go_sem] theorem cellsOf_tp : Tryz.prog.cellsOf 41 = 24 := by kernel_rfl
def tpCod : Cod GTpl where
  E := 41
  S := 27
  sz := 24
  bys := 112
  z := .agg (tpV zeroTp)
  enc := tpR
  und := by kernel_rfl
  info := by kernel_rfl
  zsz := tpV_size _
  pos := by decide
  len := tpR_length
  one := tp_one
/-! ### choices and what they hold -/
/-- A choice in memory is this one. -/
def ChOk (w : World) (lo : Nat) (r : RCh) (c : GCh) : Prop := r.name = c.name ∧ r.n = c.vals.length ∧ r.n ≤ r.cap ∧ ListIn strCod w r.a c.vals lo
def ChsOk (w : World) (lo : Nat) (R : List RCh) (C : List GCh) : Prop := R.length = C.length ∧ ∀ i (h : i < R.length) (h' : i < C.length), ChOk w lo (R[i]'h) (C[i]'h')
theorem ChsOk.below {w w' : World} {lo : Nat} {R : List RCh} {C : List GCh} (h : ChsOk w lo R C) (hb : Below w.heap.size w w') : ChsOk w' lo R C :=
  ⟨h.1, fun i h1 h2 => let ⟨a, b, c, d⟩ := h.2 i h1 h2; ⟨a, b, c, d.below hb⟩⟩
theorem ChsOk.keeps {w w' : World} {lo : Nat} {R : List RCh} {C : List GCh} {Q : Nat → Prop} (h : ChsOk w lo R C) (hk : Keeps Q w w') (hq : ∀ k, lo ≤ k → k < w.heap.size → ¬ Q k) : ChsOk w' lo R C :=
  ⟨h.1, fun i h1 h2 => let ⟨a, b, c, d⟩ := h.2 i h1 h2; ⟨a, b, c, d.keeps hk hq⟩⟩
theorem ChsOk.mono {w : World} {lo lo' : Nat} {R : List RCh} {C : List GCh} (h : ChsOk w lo R C) (hl : lo' ≤ lo) : ChsOk w lo' R C :=
  ⟨h.1, fun i h1 h2 => let ⟨a, b, c, d⟩ := h.2 i h1 h2; ⟨a, b, c, d.mono hl⟩⟩
theorem ChsOk.nil (w : World) (lo : Nat) : ChsOk w lo [] [] := ⟨rfl, fun i h => absurd h (Nat.not_lt_zero _)⟩
theorem ChsOk.snoc {w : World} {lo : Nat} {R : List RCh} {C : List GCh} {r : RCh} {c : GCh} (h : ChsOk w lo R C) (h' : ChOk w lo r c) : ChsOk w lo (R ++ [r]) (C ++ [c]) := by
  refine ⟨by simp [h.1], fun i h1 h2 => ?_⟩
  by_cases hi : i < R.length
  · rw [List.getElem_append_left hi, List.getElem_append_left (by rw [← h.1]; exact hi)]
    exact h.2 i hi _
  · have e : i = R.length := by simp at h1; omega
    subst e
    rw [List.getElem_append_right (Nat.le_refl _), List.getElem_append_right (by rw [h.1]; exact Nat.le_refl _)]
    simpa using h'
theorem ChsOk.names {w : World} {lo : Nat} {R : List RCh} {C : List GCh} (h : ChsOk w lo R C) : R.map (·.name) = C.map (·.name) := by
  apply List.ext_getElem (by simp [h.1])
  intro i h1 h2
  simp only [List.getElem_map]
  exact (h.2 i (by simpa using h1) (by simpa using h2)).1
/-- A list in memory, its rows. -/
theorem codRowT {α : Type} {c : Cod α} {w : World} {b o : Nat} {xs : List α} (h : ListAt c w b o xs) (j : Nat) (hj : j < xs.length) :
    hasRow w ⟨b, o + j * c.sz, none⟩ c.sz = true ∧ rowAt w ⟨b, o + j * c.sz, none⟩ c.sz = (c.enc (xs[j]'hj)).toArray := by
  have hc : ∀ i, (hi : i < c.sz) → w.cell? ⟨b, o + j * c.sz + i, none⟩ = some ((c.enc (xs[j]'hj))[i]'(by rw [c.len]; exact hi)) := fun i hi => by
    have e := c.encs_get xs j hj i hi
    have e2 : (c.enc (xs[j]'hj))[i]? = some ((c.enc (xs[j]'hj))[i]'(by rw [c.len]; exact hi)) := List.getElem?_eq_getElem _
    rw [e2] at e
    rw [Nat.add_assoc]
    exact h _ _ e
  refine ⟨?_, ?_⟩
  · rw [hasRow_iff]
    intro i hi
    rw [add_mk, hc i hi]; rfl
  · apply Array.ext_getElem?
    intro i
    simp only [rowAt, List.getElem?_toArray, List.getElem?_map, add_mk]
    by_cases hi : i < c.sz
    · have e : (List.range c.sz)[i]? = some i := by simp [hi]
      rw [e, Option.map_some, hc i hi, List.getElem?_eq_getElem (by rw [c.len]; exact hi)]; rfl
    · have e : (List.range c.sz)[i]? = none := by simp; omega
      rw [e, List.getElem?_eq_none (by rw [c.len]; omega)]; rfl
theorem chRow {w : World} {b o : Nat} {xs : List RCh} (h : ListAt chCod w b o xs) (j : Nat) (hj : j < xs.length) :
    hasRow w ⟨b, o + j * 2, none⟩ 2 = true ∧ rowAt w ⟨b, o + j * 2, none⟩ 2 = chV (xs[j]'hj) := codRowT h j hj
theorem partRow {w : World} {b o : Nat} {xs : List GPart} (h : ListAt partCod w b o xs) (j : Nat) (hj : j < xs.length) :
    hasRow w ⟨b, o + j * 2, none⟩ 2 = true ∧ rowAt w ⟨b, o + j * 2, none⟩ 2 = ptVV (xs[j]'hj) := codRowT h j hj
theorem tpRow {w : World} {b o : Nat} {xs : List GTpl} (h : ListAt tpCod w b o xs) (j : Nat) (hj : j < xs.length) :
    hasRow w ⟨b, o + j * 24, none⟩ 24 = true ∧ rowAt w ⟨b, o + j * 24, none⟩ 24 = tpV (xs[j]'hj) := codRowT h j hj
end

section
open Go Go.RowKit
set_option maxRecDepth 20000
set_option linter.unusedSimpArgs false
set_option linter.unusedVariables false

theorem join_eq (c : UInt8) : ∀ L : List (List UInt8), Lib.join L [c] = joinL c L
  | [] => rfl
  | [l] => by simp [Lib.join, joinL]
  | l :: m :: L => by
    have ih := join_eq c (m :: L)
    simp [Lib.join, joinL] at ih ⊢
    try rw [← ih]
theorem join_any (L : List (List UInt8)) (ch : UInt8) (a : Option Addr) (c lo : Nat) (hc : L.length ≤ c) (hN : L.length ≤ 140737488355328) (hlen : (joinL ch L).length ≤ 140737488355328) (w : World) (h : ListIn strCod w a L lo) :
    Calls Tryz.prog 126 #[.slice a L.length c, .string ⟨[ch].toArray⟩] w fun e w' => e = .returned (.string ⟨(joinL ch L).toArray⟩) ∧ Below w.heap.size w w' := by
  rcases h with rfl | ⟨b, o, rfl, _, hb, h⟩
  · refine (Tryz.strings_Join_none a c ⟨[ch].toArray⟩ w).mono fun e w' ⟨he, hw⟩ => ⟨he, by rw [hw]; exact Below.refl _ _⟩
  · have e1 : (L.map fun l => ByteArray.mk l.toArray).map (·.data.toList) = L := by
      rw [List.map_map]
      conv => rhs; rw [← List.map_id L]
      exact List.map_congr_left fun x _ => by simp
    have := Tryz.strings_Join b o c (L.map fun l => ByteArray.mk l.toArray) ⟨[ch].toArray⟩ w (fun j x hx => by
      simp only [List.getElem?_map, Option.map_eq_some_iff] at hx
      obtain ⟨y, hy, rfl⟩ := hx
      obtain ⟨hl, rfl⟩ := List.getElem?_eq_some_iff.1 hy
      exact strAt h j hl) hb (by simpa using hN) (by simpa using hc) (by rw [e1]; simpa [join_eq] using hlen)
    rw [e1, List.length_map] at this
    refine this.mono fun e w' ⟨he, hw⟩ => ⟨?_, hw⟩
    rw [he]
    simp [join_eq]
end

section
open Go Go.RowKit
set_option maxRecDepth 20000
set_option linter.unusedSimpArgs false
set_option linter.unusedVariables false

theorem lowerL_len (l : List UInt8) : (lowerL l).length = l.length := by simp [lowerL]
theorem labs_len (l : List UInt8) : (labsL l).length ≤ l.length + 1 := by
  have := splitL_length_le 46 (lowerL l)
  rwa [lowerL_len] at this
theorem labs_piece (l : List UInt8) : ∀ p ∈ labsL l, p.length ≤ l.length := fun p hp => by
  have := splitL_piece_le 46 (lowerL l) p hp
  rwa [lowerL_len] at this
set_option maxHeartbeats 2000000 in
theorem parse_any (l : List UInt8) (hl : l.length ≤ 4294967279) (m : Int) (w : World) (hm : HasMax m w) :
    Calls Tryz.prog 104 #[.string ⟨l.toArray⟩] w fun e w' => e = .returned (.tuple #[.agg (hostC (parseH l)), .int .i64 (parseE l)]) ∧ Below w.heap.size w w' := by
  have HP : Hid (∀ w, Calls Tryz.prog 117 #[.string ⟨l.toArray⟩, .string ⟨[91].toArray⟩] w fun e w' => e = .returned (.tuple #[.string ⟨(in1 l).toArray⟩, .bool (six l)]) ∧ w = w') := fun w => cutPre_any l [91] w
  cases h6 : six l
  · rw [h6] at HP
    have HLW : Hid (∀ w, Calls Tryz.prog 115 #[.string ⟨l.toArray⟩] w fun e w' => e = .returned (.string ⟨(lowerL l).toArray⟩) ∧ Below w.heap.size w w') := fun w => lower_any l (by unfold maxLen; omega) w
    have HSP : Hid (∀ w, HasMax m w → Calls Tryz.prog 29 #[.string ⟨(lowerL l).toArray⟩, .int .u8 46] w (Gives strCod (labsL l) w)) := fun w hm => split_gives (lowerL l) 46 (by rw [lowerL_len]; omega) m w hm
    have HDG : Hid (∀ w, Calls Tryz.prog 121 #[.string ⟨(lastL l).toArray⟩] w fun e w' => e = .returned (.bool (lastD l)) ∧ Below w.heap.size w w') := fun w => digits_any (lastL l) (by
      have hlt : (labsL l).length - 1 < (labsL l).length := by have := List.length_pos_iff.2 (labs_ne l); omega
      have := labs_piece l _ (List.getElem_mem hlt)
      rw [lastL_eq l hlt] at this
      unfold maxLen; omega) w
    have HLE := Lib.hid (lastL_eq l)
    have HN := Lib.hid (labs_ne l)
    have hpos := List.length_pos_iff.2 (labs_ne l)
    have hLl := labs_len l
    have HPC := Lib.hid (labs_piece l)
    have HJN := Lib.hid (labs_join l)
    cases h4 : lastD l
    · rw [h4] at HDG
      rcases nameB_cases l with ⟨h1, h3⟩ | ⟨h1, h2, h3⟩ | ⟨h1, h2, h3⟩
      · obtain ⟨e1, e2⟩ := parse_none h6 h4 h3
        rw [e1, e2]
        have h1' : (253 : Int) < l.length := by omega
        clear e1 e2 h3 h6 h4
        generalize lowerL l = lw at *
        generalize lastL l = la at *
        generalize hLL : labsL l = L at *
        go_enter Tryz.func104, Tryz.ntmps104
        go_wp2_with (first
          | (go_at_call 117; refine (HP.out _).mono ?_; intro e w' h; obtain ⟨rfl, h2⟩ := h; subst w')
          | (go_at_call 115; refine (HLW.out _).mono ?_; rintro e w1 ⟨rfl, hb1⟩; obtain ⟨p1, rfl⟩ := grown_of hb1; clear hb1)
          | (go_at_call 29; refine (HSP.out _ (by repeat (first | exact hm | apply HasMax.grown | apply HasMax.alloc | apply HasMax.drew))).mono ?_; intro e w1 hg; obtain ⟨b, o, cap, rfl, hcap, hb1, hlo, hhi, hat⟩ := hg.some HN.out; have HBC := Lib.hid (bel_up (w := w) (by repeat (first | exact Below.refl _ _ | assumption | refine below_grown ?_ (by first | omega | (simp [go_sem]; done) | (simp [go_sem] <;> omega)) _ | refine Below.alloc ?_ (by first | omega | (simp [go_sem]; done) | (simp [go_sem] <;> omega)) _ | refine below_bytesW ?_ (by first | omega | (simp [go_sem]; done) | (simp [go_sem] <;> omega)) _ | refine Below.drew ?_ | refine below_drewN ?_ _)) hb1); have hcell := strAt hat _ (by omega : L.length - 1 < L.length); rw [HLE.out] at hcell; have HVR := Lib.hid (Var.below (Var.grown (Var.new w _ _ rfl rfl : Var (w.alloc _) w.heap.size (hostL zeroH)) _) hb1); have HMX := Lib.hid (HasMax.below (HasMax.grown (HasMax.alloc hm _) _) hb1); have hv := (fun p => (HVR.out.grown p).has (n := 18) rfl); have hv2 := (fun p q => ((HVR.out.grown p).grown q).has (n := 18) rfl); have hv4 := (fun p q o u => ((((HVR.out.grown p).grown q).alloc o).grown u).has (n := 18) rfl); have hv3 := (fun p q u => (((HVR.out.grown p).grown q).grown u).has (n := 18) rfl); have HAT := Lib.hid hat; clear hg hb1 hat)
          | (go_at_call 121; refine (HDG.out _).mono ?_; rintro e w1 ⟨rfl, hb1⟩; obtain ⟨p1, rfl⟩ := grown_of hb1; clear hb1))
        exact ret_cell_tmp w.heap.size (hostC zeroH) (.int .i64 31) rfl rfl rfl agg_host (by simp [go_sem, hv]) (by simp [go_sem, hv]) rfl ⟨rfl, below_setRow (below_grown HBC.out HBC.out.size _) (Nat.le_refl _) _⟩
      · obtain ⟨e1, e2⟩ := parse_none h6 h4 h3
        rw [e1, e2]
        have h1' : ¬ (253 : Int) < l.length := by omega
        clear e1 e2 h3 h6 h4
        generalize lowerL l = lw at *
        generalize lastL l = la at *
        generalize hLL : labsL l = L at *
        have HCF : Hid (∀ w b o cap, b < w.heap.size → ListAt strCod w b o L → Calls Tryz.prog 123 #[.slice (some ⟨b, o, none⟩) L.length cap, .func (.func 124) #[] #[]] w fun e w' => e = .returned (.bool true) ∧ Below w.heap.size w w') := fun w b o cap hb hat => by
          have := containsS_any L L.length cap b o rfl (by omega) w (fun p hp => by have := HPC.out p hp; unfold maxLen; omega) hb hat
          rwa [h2] at this
        clear h2
        go_enter Tryz.func104, Tryz.ntmps104
        go_wp2_with (first
          | (go_at_call 117; refine (HP.out _).mono ?_; intro e w' h; obtain ⟨rfl, h2⟩ := h; subst w')
          | (go_at_call 115; refine (HLW.out _).mono ?_; rintro e w1 ⟨rfl, hb1⟩; obtain ⟨p1, rfl⟩ := grown_of hb1; clear hb1)
          | (go_at_call 29; refine (HSP.out _ (by repeat (first | exact hm | apply HasMax.grown | apply HasMax.alloc | apply HasMax.drew))).mono ?_; intro e w1 hg; obtain ⟨b, o, cap, rfl, hcap, hb1, hlo, hhi, hat⟩ := hg.some HN.out; have HBC := Lib.hid (bel_up (w := w) (by repeat (first | exact Below.refl _ _ | assumption | refine below_grown ?_ (by first | omega | (simp [go_sem]; done) | (simp [go_sem] <;> omega)) _ | refine Below.alloc ?_ (by first | omega | (simp [go_sem]; done) | (simp [go_sem] <;> omega)) _ | refine below_bytesW ?_ (by first | omega | (simp [go_sem]; done) | (simp [go_sem] <;> omega)) _ | refine Below.drew ?_ | refine below_drewN ?_ _)) hb1); have hcell := strAt hat _ (by omega : L.length - 1 < L.length); rw [HLE.out] at hcell; have HVR := Lib.hid (Var.below (Var.grown (Var.new w _ _ rfl rfl : Var (w.alloc _) w.heap.size (hostL zeroH)) _) hb1); have HMX := Lib.hid (HasMax.below (HasMax.grown (HasMax.alloc hm _) _) hb1); have hv := (fun p => (HVR.out.grown p).has (n := 18) rfl); have hv2 := (fun p q => ((HVR.out.grown p).grown q).has (n := 18) rfl); have hv4 := (fun p q o u => ((((HVR.out.grown p).grown q).alloc o).grown u).has (n := 18) rfl); have hv3 := (fun p q u => (((HVR.out.grown p).grown q).grown u).has (n := 18) rfl); have HAT := Lib.hid hat; clear hg hb1 hat)
          | (go_at_call 121; refine (HDG.out _).mono ?_; rintro e w1 ⟨rfl, hb1⟩; obtain ⟨p1, rfl⟩ := grown_of hb1; clear hb1)
          | (go_at_call 123; refine (HCF.out _ b o cap (by simp [go_sem]; omega) (HAT.out.below (below_grown' _ _))).mono ?_; rintro e w1 ⟨rfl, hb1⟩; obtain ⟨p1, rfl⟩ := grown_of hb1; clear hb1))
        exact ret_cell_tmp w.heap.size (hostC zeroH) (.int .i64 31) rfl rfl rfl agg_host (by simp [go_sem, hv2]) (by simp [go_sem, hv2]) rfl ⟨rfl, below_setRow (below_grown (below_grown HBC.out HBC.out.size _) (by have := HBC.out.size; simp [go_sem]; omega) _) (Nat.le_refl _) _⟩
      · obtain ⟨e1, e2⟩ := parse_name h6 h4 h3
        rw [e1, e2, ← nameV_eq (by rw [lowerL_len]; exact h1)]
        have h1' : ¬ (253 : Int) < l.length := by omega
        have hll := lowerL_len l
        clear e1 e2 h3 h6 h4
        generalize lowerL l = lw at *
        generalize lastL l = la at *
        generalize hLL : labsL l = L at *
        have HCF : Hid (∀ w b o cap, b < w.heap.size → ListAt strCod w b o L → Calls Tryz.prog 123 #[.slice (some ⟨b, o, none⟩) L.length cap, .func (.func 124) #[] #[]] w fun e w' => e = .returned (.bool false) ∧ Below w.heap.size w w') := fun w b o cap hb hat => by
          have := containsS_any L L.length cap b o rfl (by omega) w (fun p hp => by have := HPC.out p hp; unfold maxLen; omega) hb hat
          rwa [h2] at this
        have HJ : Hid (∀ w b o cap, L.length ≤ cap → b < w.heap.size → ListAt strCod w b o L → Calls Tryz.prog 126 #[.slice (some ⟨b, o, none⟩) L.length cap, .string ⟨[46].toArray⟩] w fun e w' => e = .returned (.string ⟨lw.toArray⟩) ∧ Below w.heap.size w w') := fun w b o cap hc hb hat => by
          have := join_any L 46 (some ⟨b, o, none⟩) cap 0 hc (by omega) (by rw [HJN.out]; omega) w (.inr ⟨b, o, rfl, Nat.zero_le _, hb, hat⟩)
          rwa [HJN.out] at this
        clear h2
        go_enter Tryz.func104, Tryz.ntmps104
        go_wp2_with (first
          | (go_at_call 117; refine (HP.out _).mono ?_; intro e w' h; obtain ⟨rfl, h2⟩ := h; subst w')
          | (go_at_call 115; refine (HLW.out _).mono ?_; rintro e w1 ⟨rfl, hb1⟩; obtain ⟨p1, rfl⟩ := grown_of hb1; clear hb1)
          | (go_at_call 29; refine (HSP.out _ (by repeat (first | exact hm | apply HasMax.grown | apply HasMax.alloc | apply HasMax.drew))).mono ?_; intro e w1 hg; obtain ⟨b, o, cap, rfl, hcap, hb1, hlo, hhi, hat⟩ := hg.some HN.out; have HBC := Lib.hid (bel_up (w := w) (by repeat (first | exact Below.refl _ _ | assumption | refine below_grown ?_ (by first | omega | (simp [go_sem]; done) | (simp [go_sem] <;> omega)) _ | refine Below.alloc ?_ (by first | omega | (simp [go_sem]; done) | (simp [go_sem] <;> omega)) _ | refine below_bytesW ?_ (by first | omega | (simp [go_sem]; done) | (simp [go_sem] <;> omega)) _ | refine Below.drew ?_ | refine below_drewN ?_ _)) hb1); have hcell := strAt hat _ (by omega : L.length - 1 < L.length); rw [HLE.out] at hcell; have HVR := Lib.hid (Var.below (Var.grown (Var.new w _ _ rfl rfl : Var (w.alloc _) w.heap.size (hostL zeroH)) _) hb1); have HMX := Lib.hid (HasMax.below (HasMax.grown (HasMax.alloc hm _) _) hb1); have hv := (fun p => (HVR.out.grown p).has (n := 18) rfl); have hv2 := (fun p q => ((HVR.out.grown p).grown q).has (n := 18) rfl); have hv4 := (fun p q o u => ((((HVR.out.grown p).grown q).alloc o).grown u).has (n := 18) rfl); have hv3 := (fun p q u => (((HVR.out.grown p).grown q).grown u).has (n := 18) rfl); have HAT := Lib.hid hat; clear hg hb1 hat)
          | (go_at_call 121; refine (HDG.out _).mono ?_; rintro e w1 ⟨rfl, hb1⟩; obtain ⟨p1, rfl⟩ := grown_of hb1; clear hb1)
          | (go_at_call 123; refine (HCF.out _ b o cap (by simp [go_sem]; omega) (HAT.out.below (below_grown' _ _))).mono ?_; rintro e w1 ⟨rfl, hb1⟩; obtain ⟨p1, rfl⟩ := grown_of hb1; clear hb1)
          | (go_at_call 126; refine (HJ.out _ b o cap hcap (by simp [go_sem]; omega) ((HAT.out.below (below_grown' _ _)).below (below_grown' _ _))).mono ?_; rintro e w1 ⟨rfl, hb1⟩; obtain ⟨p1, rfl⟩ := grown_of hb1; clear hb1))
        exact ret_cell_tmp w.heap.size (nameV lw) (.int .i64 0) rfl rfl rfl agg_host (by simp [go_sem, hv3]) (by simp [go_sem, hv3]) rfl ⟨rfl, below_setRow (below_grown (below_grown (below_grown HBC.out HBC.out.size _) (by have := HBC.out.size; simp [go_sem]; omega) _) (by have := HBC.out.size; simp [go_sem]; omega) _) (Nat.le_refl _) _⟩
    · rw [h4] at HDG
      obtain ⟨e1, e2⟩ := parse_four h6 h4
      rw [e1, e2]
      have HV : Hid (∀ w, HasMax m w → Calls Tryz.prog 122 #[.string ⟨l.toArray⟩] w fun e w' => e = .returned (.tuple #[.agg (addrC (v4A l)), .bool (v4Ok l)]) ∧ Below w.heap.size w w') := fun w hm => v4_any l (by omega) m w hm
      have HA : Hid (∀ w, Calls Tryz.prog 120 #[.int .i64 2, .agg (addrC (v4A l)), .bool (v4Ok l)] w fun e w' => e = .returned (.tuple #[.agg (hostC (addrOk 2 (v4A l) (v4Ok l))), .int .i64 (errOf (v4Ok l))]) ∧ Below w.heap.size w w') := fun w => address2_any _ _ w
      clear e1 e2 h6 h4
      generalize lowerL l = lw at *
      generalize lastL l = la at *
      generalize hLL : labsL l = L at *
      generalize addrOk 2 (v4A l) (v4Ok l) = H at *
      generalize errOf (v4Ok l) = E at *
      generalize v4A l = A at *
      generalize v4Ok l = ok at *
      go_enter Tryz.func104, Tryz.ntmps104
      go_wp2_with (first
          | (go_at_call 117; refine (HP.out _).mono ?_; intro e w' h; obtain ⟨rfl, h2⟩ := h; subst w')
          | (go_at_call 115; refine (HLW.out _).mono ?_; rintro e w1 ⟨rfl, hb1⟩; obtain ⟨p1, rfl⟩ := grown_of hb1; clear hb1)
          | (go_at_call 29; refine (HSP.out _ (by repeat (first | exact hm | apply HasMax.grown | apply HasMax.alloc | apply HasMax.drew))).mono ?_; intro e w1 hg; obtain ⟨b, o, cap, rfl, hcap, hb1, hlo, hhi, hat⟩ := hg.some HN.out; have HBC := Lib.hid (bel_up (w := w) (by repeat (first | exact Below.refl _ _ | assumption | refine below_grown ?_ (by first | omega | (simp [go_sem]; done) | (simp [go_sem] <;> omega)) _ | refine Below.alloc ?_ (by first | omega | (simp [go_sem]; done) | (simp [go_sem] <;> omega)) _ | refine below_bytesW ?_ (by first | omega | (simp [go_sem]; done) | (simp [go_sem] <;> omega)) _ | refine Below.drew ?_ | refine below_drewN ?_ _)) hb1); have hcell := strAt hat _ (by omega : L.length - 1 < L.length); rw [HLE.out] at hcell; have HVR := Lib.hid (Var.below (Var.grown (Var.new w _ _ rfl rfl : Var (w.alloc _) w.heap.size (hostL zeroH)) _) hb1); have HMX := Lib.hid (HasMax.below (HasMax.grown (HasMax.alloc hm _) _) hb1); have hv := (fun p => (HVR.out.grown p).has (n := 18) rfl); have hv2 := (fun p q => ((HVR.out.grown p).grown q).has (n := 18) rfl); have hv4 := (fun p q o u => ((((HVR.out.grown p).grown q).alloc o).grown u).has (n := 18) rfl); have hv3 := (fun p q u => (((HVR.out.grown p).grown q).grown u).has (n := 18) rfl); have HAT := Lib.hid hat; clear hg hb1 hat)
          | (go_at_call 121; refine (HDG.out _).mono ?_; rintro e w1 ⟨rfl, hb1⟩; obtain ⟨p1, rfl⟩ := grown_of hb1; clear hb1)
          | (go_at_call 122; refine (HV.out _ (HasMax.grown HMX.out _)).mono ?_; rintro e w1 ⟨rfl, hb1⟩; obtain ⟨p1, rfl⟩ := grown_of hb1; clear hb1)
          | (go_at_call 120; refine (HA.out _).mono ?_; rintro e w1 ⟨rfl, hb1⟩; obtain ⟨p1, rfl⟩ := grown_of hb1; clear hb1))
      exact ret_cell_tmp w.heap.size (hostC H) (.int .i64 E) rfl rfl rfl agg_host (by simp [go_sem, hv4]) (by simp [go_sem, hv4]) rfl ⟨rfl, below_setRow (by repeat (first | exact HBC.out | refine below_grown ?_ (by have hbcs := HBC.out.size; first | omega | (simp [go_sem]; omega)) _ | refine Below.alloc ?_ (by have hbcs := HBC.out.size; first | omega | (simp [go_sem]; omega)) _)) (Nat.le_refl _) _⟩
  · rw [h6] at HP
    have HS : Hid (∀ w, Calls Tryz.prog 118 #[.string ⟨(in1 l).toArray⟩, .string ⟨[93].toArray⟩] w fun e w' => e = .returned (.tuple #[.string ⟨(in6 l).toArray⟩, .bool (closedB l)]) ∧ w = w') := fun w => cutSuf_any (in1 l) [93] (by have := in1_length l; omega) w
    have HV : Hid (∀ w, HasMax m w → Calls Tryz.prog 119 #[.string ⟨(in6 l).toArray⟩] w fun e w' => e = .returned (.tuple #[.agg (addrC (v6A (in6 l))), .bool (v6Ok (in6 l))]) ∧ Below w.heap.size w w') := fun w hm => v6_any (in6 l) (by have := in6_length l; omega) m w hm
    have HA : Hid (∀ w, Calls Tryz.prog 120 #[.int .i64 3, .agg (addrC (v6A (in6 l))), .bool (v6Ok (in6 l) && closedB l)] w fun e w' => e = .returned (.tuple #[.agg (hostC (addrOk 3 (v6A (in6 l)) (v6Ok (in6 l) && closedB l))), .int .i64 (errOf (v6Ok (in6 l) && closedB l))]) ∧ Below w.heap.size w w') := fun w => address3_any _ _ w
    obtain ⟨e1, e2⟩ := parse_six h6
    rw [e1, e2]
    clear e1 e2 h6
    generalize addrOk 3 (v6A (in6 l)) (v6Ok (in6 l) && closedB l) = H at *
    generalize errOf (v6Ok (in6 l) && closedB l) = E at *
    generalize v6A (in6 l) = A at *
    generalize in6 l = i6 at *
    generalize in1 l = i1 at *
    generalize closedB l = cl at *
    cases hv6 : v6Ok i6
    all_goals
      rw [hv6] at HA HV
      go_enter Tryz.func104, Tryz.ntmps104
      go_wp2_with (first
        | (go_at_call 117; refine (HP.out _).mono ?_; intro e w' h; obtain ⟨rfl, h2⟩ := h; subst w')
        | (go_at_call 118; refine (HS.out _).mono ?_; intro e w' h; obtain ⟨rfl, h2⟩ := h; subst w')
        | (go_at_call 119; refine (HV.out _ (by repeat (first | exact hm | apply HasMax.grown | apply HasMax.alloc | apply HasMax.drew))).mono ?_; rintro e w1 ⟨rfl, hb1⟩; obtain ⟨p1, rfl⟩ := grown_of hb1; clear hb1)
        | (go_at_call 120; refine (HA.out _).mono ?_; rintro e w1 ⟨rfl, hb1⟩; obtain ⟨p1, rfl⟩ := grown_of hb1; clear hb1))
      exact ret_cell_tmp w.heap.size (hostC H) (.int .i64 E) rfl rfl rfl agg_host (by simp [go_sem]) (by simp [go_sem]) rfl ⟨rfl, below_setRow (by repeat (first | exact Below.refl _ _ | assumption | refine below_grown ?_ (by first | omega | (simp [go_sem]; done) | (simp [go_sem] <;> omega)) _ | refine Below.alloc ?_ (by first | omega | (simp [go_sem]; done) | (simp [go_sem] <;> omega)) _ | refine below_bytesW ?_ (by first | omega | (simp [go_sem]; done) | (simp [go_sem] <;> omega)) _ | refine Below.drew ?_ | refine below_drewN ?_ _)) (Nat.le_refl _) _⟩
end
end Go.Proofs.YtnkckejbkbbdlaaGreatDoor
