/- Cookies and their places as data: how they lie in cells, and when two places are one. -/
import Derived.Test.YtmophphkhajjaaaOpen
namespace Go.Proofs.Ytmophphkhajjaaa
open Go Go.RowKit

structure GCookie where
  name : List UInt8
  value : List UInt8
  host : GHost
  only : Bool
  path : List UInt8
  secure : Bool
  httpOnly : Bool
  same : Int
  expires : Int
  born : Int
  used : Int
  seq : Int
  hname : name.length ≤ maxLen
  hvalue : value.length ≤ maxLen
  hpath : path.length ≤ maxLen
  hsame : (Lit.int .i64 same).wf = true
  hexp : (Lit.int .i64 expires).wf = true
  hborn : (Lit.int .i64 born).wf = true
  hused : (Lit.int .i64 used).wf = true
  hseq : (Lit.int .i64 seq).wf = true
def cookieL (c : GCookie) : List Value := [.string ⟨c.name.toArray⟩, .string ⟨c.value.toArray⟩] ++ (hostL c.host ++ [.bool c.only, .string ⟨c.path.toArray⟩, .bool c.secure, .bool c.httpOnly, .int .i64 c.same, .int .i64 c.expires, .int .i64 c.born, .int .i64 c.used, .int .i64 c.seq])
def cookieC (c : GCookie) : Array Value := (cookieL c).toArray
theorem cookieL_length (c : GCookie) : (cookieL c).length = 29 := by simp [cookieL, hostL_length]
theorem cookie_idx (c : GCookie) (i : Nat) (v : Value) (hi : 20 ≤ i) (h : [Value.bool c.only, .string ⟨c.path.toArray⟩, .bool c.secure, .bool c.httpOnly, .int .i64 c.same, .int .i64 c.expires, .int .i64 c.born, .int .i64 c.used, .int .i64 c.seq][i - 20]? = some v) : (cookieC c)[i]? = some v := by
  rw [cookieC, List.getElem?_toArray, cookieL, List.getElem?_append_right (by simp; omega), List.getElem?_append_right (by rw [hostL_length]; simp; omega), hostL_length, ← h]
  congr 1
@[go_sem] theorem cookieC_size (c : GCookie) : (cookieC c).size = 29 := by simp [cookieC, cookieL_length]
@[go_sem ↓ high] theorem cookieC_0 (c : GCookie) : (cookieC c)[0]? = some (.string ⟨c.name.toArray⟩) := by simp [cookieC, cookieL]
@[go_sem ↓ high] theorem cookieC_1 (c : GCookie) : (cookieC c)[1]? = some (.string ⟨c.value.toArray⟩) := by simp [cookieC, cookieL]
@[go_sem ↓ high] theorem cookieC_20 (c : GCookie) : (cookieC c)[20]? = some (.bool c.only) := cookie_idx c 20 _ (by decide) rfl
@[go_sem ↓ high] theorem cookieC_21 (c : GCookie) : (cookieC c)[21]? = some (.string ⟨c.path.toArray⟩) := cookie_idx c 21 _ (by decide) rfl
@[go_sem ↓ high] theorem cookieC_22 (c : GCookie) : (cookieC c)[22]? = some (.bool c.secure) := cookie_idx c 22 _ (by decide) rfl
@[go_sem ↓ high] theorem cookieC_23 (c : GCookie) : (cookieC c)[23]? = some (.bool c.httpOnly) := cookie_idx c 23 _ (by decide) rfl
@[go_sem ↓ high] theorem cookieC_24 (c : GCookie) : (cookieC c)[24]? = some (.int .i64 c.same) := cookie_idx c 24 _ (by decide) rfl
@[go_sem ↓ high] theorem cookieC_25 (c : GCookie) : (cookieC c)[25]? = some (.int .i64 c.expires) := cookie_idx c 25 _ (by decide) rfl
@[go_sem ↓ high] theorem cookieC_26 (c : GCookie) : (cookieC c)[26]? = some (.int .i64 c.born) := cookie_idx c 26 _ (by decide) rfl
@[go_sem ↓ high] theorem cookieC_27 (c : GCookie) : (cookieC c)[27]? = some (.int .i64 c.used) := cookie_idx c 27 _ (by decide) rfl
@[go_sem ↓ high] theorem cookieC_28 (c : GCookie) : (cookieC c)[28]? = some (.int .i64 c.seq) := cookie_idx c 28 _ (by decide) rfl
@[go_sem] theorem cookieC_all (c : GCookie) : (cookieC c).extract 0 29 = cookieC c := by
  have := cookieC_size c
  rw [← this]; simp
@[go_sem] theorem cookieC_host (c : GCookie) : (cookieC c).extract 2 20 = hostC c.host := extract_mid _ _ _ 2 20 rfl (by rw [hostL_length])

def placeR (nm : List UInt8) (h : GHost) (on : Bool) (pa : List UInt8) : List Value := [.string ⟨nm.toArray⟩] ++ (hostL h ++ [.bool on, .string ⟨pa.toArray⟩])
def placeV (nm : List UInt8) (h : GHost) (on : Bool) (pa : List UInt8) : Array Value := (placeR nm h on pa).toArray
theorem placeR_length (nm : List UInt8) (h : GHost) (on : Bool) (pa : List UInt8) : (placeR nm h on pa).length = 21 := by simp [placeR, hostL_length]
@[go_sem] theorem placeV_size (nm : List UInt8) (h : GHost) (on : Bool) (pa : List UInt8) : (placeV nm h on pa).size = 21 := by simp [placeV, placeR_length]
@[go_sem] theorem placeV_all (nm : List UInt8) (h : GHost) (on : Bool) (pa : List UInt8) : (placeV nm h on pa).extract 0 21 = placeV nm h on pa := by
  have := placeV_size nm h on pa
  rw [← this]; simp
@[go_sem] theorem placeV_one (nm : List UInt8) (h : GHost) (on : Bool) (pa : List UInt8) : allOne (placeV nm h on pa) = true := by
  refine allOne_of ?_
  intro v hv
  simp only [placeR, List.mem_append, List.mem_cons, List.not_mem_nil, or_false] at hv
  rcases hv with rfl | hv | rfl | rfl
  · rfl
  · exact host_one _ v hv
  · rfl
  · rfl
section
variable {w : World} {r : Reach} {base : Nat}
@[go_sem] theorem cellsOf_cookie : Try.prog.cellsOf 31 = 29 := by kernel_rfl
def cookieT : List TypeId := [9, 9] ++ (hostT ++ [4, 9, 4, 4, 3, 2, 2, 2, 3])
theorem fits_cookie {vs : List Value} (h : RowFits Try.prog w r base cookieT vs) : ∃ c : GCookie, vs = cookieL c := by
  obtain ⟨v0, vs, rfl, h0, h⟩ := rowFits_cons h
  obtain ⟨v1, vs, rfl, h1, h⟩ := rowFits_cons h
  obtain ⟨vh, vs, rfl, hh, h⟩ := rowFits_split (ts := hostT) h
  obtain ⟨v2, vs, rfl, h2, h⟩ := rowFits_cons h
  obtain ⟨v3, vs, rfl, h3, h⟩ := rowFits_cons h
  obtain ⟨v4, vs, rfl, h4, h⟩ := rowFits_cons h
  obtain ⟨v5, vs, rfl, h5, h⟩ := rowFits_cons h
  obtain ⟨v6, vs, rfl, h6, h⟩ := rowFits_cons h
  obtain ⟨v7, vs, rfl, h7, h⟩ := rowFits_cons h
  obtain ⟨v8, vs, rfl, h8, h⟩ := rowFits_cons h
  obtain ⟨v9, vs, rfl, h9, h⟩ := rowFits_cons h
  obtain ⟨v10, vs, rfl, h10, h⟩ := rowFits_cons h
  obtain rfl := rowFits_nil h
  obtain ⟨nm, rfl, g0⟩ := cell_str Try.underlying9 h0
  obtain ⟨va, rfl, g1⟩ := cell_str Try.underlying9 h1
  obtain ⟨ho, rfl⟩ := fits_host hh
  obtain ⟨on, rfl⟩ := cell_bool Try.underlying4 h2
  obtain ⟨pa, rfl, g3⟩ := cell_str Try.underlying9 h3
  obtain ⟨se, rfl⟩ := cell_bool Try.underlying4 h4
  obtain ⟨ht, rfl⟩ := cell_bool Try.underlying4 h5
  obtain ⟨sa, rfl, g6⟩ := cell_int Try.underlying3 h6
  obtain ⟨ex, rfl, g7⟩ := cell_int Try.underlying2 h7
  obtain ⟨bo, rfl, g8⟩ := cell_int Try.underlying2 h8
  obtain ⟨us, rfl, g9⟩ := cell_int Try.underlying2 h9
  obtain ⟨sq, rfl, g10⟩ := cell_int Try.underlying3 h10
  exact ⟨⟨nm, va, ho, on, pa, se, ht, sa, ex, bo, us, sq, g0, g1, g3, g6, g7, g8, g9, g10⟩, rfl⟩
theorem open_cookie {v : Value} (h : Value.okWide Try.prog w r base 31 v) : ∃ c : GCookie, v = .agg (cookieC c) := by
  unfold Value.okWide at h
  rw [Try.underlying31] at h
  obtain ⟨cs, rfl, hs, hr⟩ := h
  obtain ⟨c, hc⟩ := fits_cookie (rowFits_row (ts := cookieT) (by kernel_rfl) (by rw [hs, cellsOf_cookie]; rfl) hr)
  exact ⟨c, by rw [cookieC, ← hc]⟩
end
theorem list18 {α : Type} (l : List α) (h : l.length = 18) : ∃ a b c d e f g i j k m n o p q r s t, l = [a, b, c, d, e, f, g, i, j, k, m, n, o, p, q, r, s, t] := by
  match l, h with
  | [a, b, c, d, e, f, g, i, j, k, m, n, o, p, q, r, s, t], _ => exact ⟨a, b, c, d, e, f, g, i, j, k, m, n, o, p, q, r, s, t, rfl⟩
theorem run_build_place (nm : List UInt8) (h : GHost) (on : Bool) (pa : List UInt8) (w : World) :
    (Instr.build 37 #[(0, .string ⟨nm.toArray⟩), (1, .agg (hostC h)), (2, .bool on), (3, .string ⟨pa.toArray⟩)]).run Try.prog w = .ok (.agg (placeV nm h on pa)) w := by
  have : ∀ l : List Value, l.length = 18 → (Instr.build 37 #[(0, .string ⟨nm.toArray⟩), (1, .agg l.toArray), (2, .bool on), (3, .string ⟨pa.toArray⟩)]).run Try.prog w = .ok (.agg (([.string ⟨nm.toArray⟩] ++ (l ++ [.bool on, .string ⟨pa.toArray⟩]) : List Value)).toArray) w := by
    intro l hl
    obtain ⟨a, b, c, d, e, f, g, i, j, k, m, n, o, p, q, r, s, t, rfl⟩ := list18 l hl
    kernel_rfl
  exact this (hostL h) (hostL_length h)
@[go_sem ↓ high] theorem run_op_build_place (ev : Operand → Value) (dst : Option Tmp) (x0 x1 x2 x3 : Operand) (ty : TypeId) (pos : String) (af : Array Edge) (g : Option (Nat × Bool)) (w : World) :
    Sem.run Try.prog (execOp ev { dst := dst, op := .build 37 #[(0, x0), (1, x1), (2, x2), (3, x3)], type := ty, pos := pos, after := af, guard := g }) w = buildRow Try.prog w 37 #[(0, ev x0), (1, ev x1), (2, ev x2), (3, ev x3)] := by
  rw [run_op_build]
  simp
@[go_sem] theorem buildPlace_at (nm : List UInt8) (h : GHost) (on : Bool) (pa : List UInt8) (w : World) : buildRow Try.prog w 37 #[(0, .string ⟨nm.toArray⟩), (1, .agg (hostC h)), (2, .bool on), (3, .string ⟨pa.toArray⟩)] = .ok (.value (.agg (placeV nm h on pa))) w := by
  rw [buildRow, Sem.run_bind, run_build_place]
  rfl
@[go_sem] theorem cookie_name_le (c : GCookie) : c.name.length ≤ maxLen := c.hname
@[go_sem] theorem cookie_path_le (c : GCookie) : c.path.length ≤ maxLen := c.hpath
def placeK (nm : List UInt8) (h : GHost) (on : Bool) (pa : List UInt8) : List Lit := [.string nm] ++ (hostK h ++ ([.bool on] ++ ([.string pa] ++ [])))
theorem addrK_length (a : GAddr) : (addrK a).length = 16 := by simp [addrK, a.len]
theorem hostK_length (h : GHost) : (hostK h).length = 18 := by simp [hostK, addrK_length]
theorem placeK_inj {nm nm' : List UInt8} {h h' : GHost} {on on' : Bool} {pa pa' : List UInt8} (e : placeK nm h on pa = placeK nm' h' on' pa') : nm = nm' ∧ h = h' ∧ on = on' ∧ pa = pa' := by
  simp only [placeK, List.singleton_append, List.cons.injEq, Lit.string.injEq, List.append_nil] at e
  obtain ⟨e1, e2⟩ := e
  obtain ⟨e2, e3⟩ := List.append_inj e2 (by rw [hostK_length, hostK_length])
  simp only [List.cons.injEq, Lit.bool.injEq, Lit.string.injEq, and_true] at e3
  exact ⟨e1, hostK_inj e2, e3.1, e3.2⟩
@[go_sem] theorem cellsOf_place : Try.prog.cellsOf 37 = 21 := by kernel_rfl
theorem keyLits_place (D : Nat) (nm : List UInt8) (h : GHost) (on : Bool) (pa : List UInt8) (h1 : nm.length ≤ maxLen) (h2 : pa.length ≤ maxLen) : Try.prog.keyLits (D + 4) 37 (placeR nm h on pa) = some (placeK nm h on pa) := by
  have e0 : (placeR nm h on pa).take 1 = [.string ⟨nm.toArray⟩] := by simp [placeR]
  have e1 : ((placeR nm h on pa).tail).take 18 = hostL h := by simp [placeR, hostL_length]
  have e2 : ((placeR nm h on pa).drop 19).take 1 = [.bool on] := by simp [placeR, hostL_length]
  have e3 : ((placeR nm h on pa).drop 20).take 1 = [.string ⟨pa.toArray⟩] := by
    have : (hostL h).drop 19 = [] := List.drop_of_length_le (by rw [hostL_length]; decide)
    simp [placeR, hostL_length, List.drop_append, this]
  unfold Program.keyLits
  rw [Try.underlying37]
  simp [cellsOf_place, placeR_length, cellsOf_str, cellsOf_bool, cellsOf_host, e0, e1, e2, e3, keyLits_host, keyLits_str, keyLits_bool, h1, h2, placeK]
theorem place_rows (nm nm' : List UInt8) (h h' : GHost) (on on' : Bool) (pa pa' : List UInt8) (h1 : nm.length ≤ maxLen) (h2 : pa.length ≤ maxLen) (h1' : nm'.length ≤ maxLen) (h2' : pa'.length ≤ maxLen) (x y : Operand) (w : World) :
    eqRow Try.prog w 37 x y (.agg (placeV nm h on pa)) (.agg (placeV nm' h' on' pa')) = .ok (.value (.bool (nm == nm' && (hostEq h h' && (on == on' && pa == pa'))))) w ∧
    neRow Try.prog w 37 x y (.agg (placeV nm h on pa)) (.agg (placeV nm' h' on' pa')) = .ok (.value (.bool (!(nm == nm' && (hostEq h h' && (on == on' && pa == pa')))))) w :=
  eq_rows (m := 10) (by kernel_rfl) (by decide) (by kernel_rfl) (keyLits_place 0 nm h on pa h1 h2) (keyLits_place 0 nm' h' on' pa' h1' h2') (by simp [Value.formed, Try.underlying37, cellsOf_place, placeR_length]) (by simp [Value.formed, Try.underlying37, cellsOf_place, placeR_length])
    (by simp only [Bool.and_eq_true, beq_iff_eq, hostEq_iff]; exact ⟨fun ⟨a, b, c, d⟩ => by rw [a, b, c, d], placeK_inj⟩) x y w
@[go_sem] theorem eqRow_place (nm nm' : List UInt8) (h h' : GHost) (on on' : Bool) (pa pa' : List UInt8) (h1 : nm.length ≤ maxLen) (h2 : pa.length ≤ maxLen) (h1' : nm'.length ≤ maxLen) (h2' : pa'.length ≤ maxLen) (x y : Operand) (w : World) :
    eqRow Try.prog w 37 x y (.agg (placeV nm h on pa)) (.agg (placeV nm' h' on' pa')) = .ok (.value (.bool (nm == nm' && (hostEq h h' && (on == on' && pa == pa'))))) w := (place_rows nm nm' h h' on on' pa pa' h1 h2 h1' h2' x y w).1
@[go_sem] theorem agg_cookie : isAggT Try.prog 31 = true := by kernel_rfl
@[go_sem] theorem agg_place : isAggT Try.prog 37 = true := by kernel_rfl
end Go.Proofs.Ytmophphkhajjaaa
