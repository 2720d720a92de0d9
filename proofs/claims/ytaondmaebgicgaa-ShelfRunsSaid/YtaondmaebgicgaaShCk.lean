/- Cookies held against each other; the document's Key; cookies that are written out. -/
import Derived.Test.YtaondmaebgicgaaShPut
namespace Go.Proofs.Ytaondmaebgicgaa
open Go Go.RowKit
set_option maxRecDepth 20000
set_option linter.unusedSimpArgs false
set_option linter.unusedVariables false

def cookieK (c : GCookie) : List Lit := [.string c.name] ++ ([.string c.value] ++ (hostK c.host ++ ([.bool c.only] ++ ([.string c.path] ++ ([.bool c.secure] ++ ([.bool c.httpOnly] ++ ([.int .i64 c.same] ++ ([.int .i64 c.expires] ++ ([.int .i64 c.born] ++ ([.int .i64 c.used] ++ ([.int .i64 c.seq] ++ [])))))))))))
theorem keyLits_i64' (D : Nat) (n : Int) (h : (Lit.int .i64 n).wf = true) : Try.prog.keyLits (D + 1) 2 [.int .i64 n] = some [.int .i64 n] := by
  simp [Program.keyLits, Try.underlying2, h]
theorem cellsOf_int64 : Try.prog.cellsOf 2 = 1 := by kernel_rfl
theorem cookie_drop (c : GCookie) (j : Nat) (h : 20 ≤ j) : (cookieL c).drop j = (cookieN c).drop (j - 20) := by
  rw [cookieL_pn, List.drop_append, cookieP_length, List.drop_of_length_le (by rw [cookieP_length]; exact h), List.nil_append]
theorem keyLits_cookie (D : Nat) (c : GCookie) : Try.prog.keyLits (D + 4) 31 (cookieL c) = some (cookieK c) := by
  have h1 := c.hname
  have h2 := c.hvalue
  have h3 := c.hpath
  have h4 := c.hsame
  have h5 := c.hexp
  have h6 := c.hborn
  have h7 := c.hused
  have h8 := c.hseq
  have e0 : (cookieL c).take 1 = [.string ⟨c.name.toArray⟩] := by simp [cookieL]
  have e1 : (cookieL c).tail.take 1 = [.string ⟨c.value.toArray⟩] := by simp [cookieL]
  have e2 : ((cookieL c).drop 2).take 18 = hostL c.host := by simp [cookieL, hostL_length]
  have e3 : ((cookieL c).drop 20).take 1 = [.bool c.only] := by rw [cookie_drop _ _ (by decide)]; rfl
  have e4 : ((cookieL c).drop 21).take 1 = [.string ⟨c.path.toArray⟩] := by rw [cookie_drop _ _ (by decide)]; rfl
  have e5 : ((cookieL c).drop 22).take 1 = [.bool c.secure] := by rw [cookie_drop _ _ (by decide)]; rfl
  have e6 : ((cookieL c).drop 23).take 1 = [.bool c.httpOnly] := by rw [cookie_drop _ _ (by decide)]; rfl
  have e7 : ((cookieL c).drop 24).take 1 = [.int .i64 c.same] := by rw [cookie_drop _ _ (by decide)]; rfl
  have e8 : ((cookieL c).drop 25).take 1 = [.int .i64 c.expires] := by rw [cookie_drop _ _ (by decide)]; rfl
  have e9 : ((cookieL c).drop 26).take 1 = [.int .i64 c.born] := by rw [cookie_drop _ _ (by decide)]; rfl
  have e10 : ((cookieL c).drop 27).take 1 = [.int .i64 c.used] := by rw [cookie_drop _ _ (by decide)]; rfl
  have e11 : ((cookieL c).drop 28).take 1 = [.int .i64 c.seq] := by rw [cookie_drop _ _ (by decide)]; rfl
  unfold Program.keyLits
  rw [Try.underlying31]
  simp [cellsOf_cookie, cookieL_length, cellsOf_str, cellsOf_int, cellsOf_int64, cellsOf_bool, cellsOf_host, e0, e1, e2, e3, e4, e5, e6, e7, e8, e9, e10, e11, keyLits_host, keyLits_str, keyLits_bool, keyLits_i64, keyLits_i64', h1, h2, h3, h4, h5, h6, h7, h8, cookieK]
def ckEq (a b : GCookie) : Bool := hostEq a.host b.host && (a.name == b.name && (a.value == b.value && (a.only == b.only && (a.path == b.path && (a.secure == b.secure && (a.httpOnly == b.httpOnly && (a.same == b.same && (a.expires == b.expires && (a.born == b.born && (a.used == b.used && a.seq == b.seq))))))))))
theorem ckEq_refl (a : GCookie) : ckEq a a = true := by simp [ckEq, (hostEq_iff _ _).2 rfl]
theorem ckEq_K (a b : GCookie) : ckEq a b = true ↔ cookieK a = cookieK b := by
  unfold ckEq
  simp only [Bool.and_eq_true, beq_iff_eq, hostEq_iff]
  constructor
  · rintro ⟨h0, h1, h2, h3, h4, h5, h6, h7, h8, h9, h10, h11⟩
    unfold cookieK
    rw [h0, h1, h2, h3, h4, h5, h6, h7, h8, h9, h10, h11]
  · intro h
    unfold cookieK at h
    simp only [List.singleton_append, List.cons.injEq, Lit.string.injEq] at h
    obtain ⟨h1, h2, h⟩ := h
    obtain ⟨h0, h⟩ := List.append_inj h (by have q1 := a.host.addr.2; have q2 := b.host.addr.2; simp [hostK, addrK, q1, q2])
    simp only [List.cons.injEq, Lit.string.injEq, Lit.bool.injEq, Lit.int.injEq, true_and, and_true] at h
    obtain ⟨h3, h4, h5, h6, h7, h8, h9, h10, h11⟩ := h
    exact ⟨hostK_inj h0, h1, h2, h3, h4, h5, h6, h7, h8, h9, h10, h11⟩
theorem cookie_rows (a b : GCookie) (x y : Operand) (w : World) : eqRow Try.prog w 31 x y (.agg (cookieC a)) (.agg (cookieC b)) = .ok (.value (.bool (ckEq a b))) w ∧ neRow Try.prog w 31 x y (.agg (cookieC a)) (.agg (cookieC b)) = .ok (.value (.bool (!ckEq a b))) w :=
  eq_rows (m := 10) (by kernel_rfl) (by decide) (by kernel_rfl) (keyLits_cookie 0 a) (keyLits_cookie 0 b) (by simp [Value.formed, Try.underlying31, cellsOf_cookie, cookieL_length]) (by simp [Value.formed, Try.underlying31, cellsOf_cookie, cookieL_length])
    (ckEq_K a b) x y w
@[go_sem] theorem eqRow_cookie (a b : GCookie) (x y : Operand) (w : World) : eqRow Try.prog w 31 x y (.agg (cookieC a)) (.agg (cookieC b)) = .ok (.value (.bool (ckEq a b))) w := (cookie_rows a b x y w).1
@[go_sem] theorem neRow_cookie (a b : GCookie) (x y : Operand) (w : World) : neRow Try.prog w 31 x y (.agg (cookieC a)) (.agg (cookieC b)) = .ok (.value (.bool (!ckEq a b))) w := (cookie_rows a b x y w).2
theorem refKey_any (a b : GCookie) (w : World) :
    Calls Try.prog 13 #[.agg (cookieC a), .agg (cookieC b)] w fun e w' => e = .returned (.bool (samePl a b)) ∧ Below w.heap.size w w' := by
  unfold samePl
  cases h1 : a.name == b.name <;> cases h2 : hostEq a.host b.host <;> cases h3 : a.only == b.only <;> cases h4 : a.path == b.path
  all_goals
    go_enter Try.func13, Try.ntmps13
    go_wp2
    go_ret
    exact ⟨rfl, (by repeat (first | exact Below.refl _ _ | assumption | refine below_grown ?_ (by first | omega | (simp [go_sem]; done) | (simp [go_sem] <;> omega)) _ | refine Below.alloc ?_ (by first | omega | (simp [go_sem]; done) | (simp [go_sem] <;> omega)) _ | refine below_bytesW ?_ (by first | omega | (simp [go_sem]; done) | (simp [go_sem] <;> omega)) _ | refine Below.drew ?_ | refine below_drewN ?_ _))⟩
/-! ### the cookies of the chapter's example -/
def ckA : GCookie := { zeroCk with name := [97], hname := by decide, value := [49], hvalue := by decide, born := 3, hborn := rfl }
def ckB : GCookie := { zeroCk with name := [97], hname := by decide, value := [50], hvalue := by decide, born := 4, hborn := rfl, seq := 9, hseq := rfl }
def ckD : GCookie := { zeroCk with name := [97], hname := by decide, value := [50], hvalue := by decide, born := 3, hborn := rfl, seq := 1, hseq := rfl }
theorem run_build_ck0 (w : World) : buildRow Try.prog w 31 #[] = .ok (.value (.agg (cookieC zeroCk))) w := by kernel_rfl
@[go_sem] theorem run_build_ckA (w : World) : buildRow Try.prog w 31 #[(0, .string ⟨#[97]⟩), (1, .string ⟨#[49]⟩), (9, .int .i64 3)] = .ok (.value (.agg (cookieC ckA))) w := by kernel_rfl
@[go_sem] theorem run_build_ckB (w : World) : buildRow Try.prog w 31 #[(0, .string ⟨#[97]⟩), (1, .string ⟨#[50]⟩), (9, .int .i64 4), (11, .int .i64 9)] = .ok (.value (.agg (cookieC ckB))) w := by kernel_rfl
@[go_sem] theorem run_build_ckD (w : World) : buildRow Try.prog w 31 #[(0, .string ⟨#[97]⟩), (1, .string ⟨#[50]⟩), (9, .int .i64 3), (11, .int .i64 1)] = .ok (.value (.agg (cookieC ckD))) w := by kernel_rfl
@[go_sem ↓ high] theorem run_op_build_ck0 (ev : Operand → Value) (dst : Option Tmp) (ty : TypeId) (pos : String) (af : Array Edge) (g : Option (Nat × Bool)) (w : World) :
    Sem.run Try.prog (execOp ev { dst := dst, op := .build 31 #[], type := ty, pos := pos, after := af, guard := g }) w = .ok (.value (.agg (cookieC zeroCk))) w := by
  rw [run_op_build]
  simpa using run_build_ck0 w
@[go_sem ↓ high] theorem run_op_build_ck3 (ev : Operand → Value) (dst : Option Tmp) (x0 x1 x2 : Operand) (ty : TypeId) (pos : String) (af : Array Edge) (g : Option (Nat × Bool)) (w : World) :
    Sem.run Try.prog (execOp ev { dst := dst, op := .build 31 #[(0, x0), (1, x1), (9, x2)], type := ty, pos := pos, after := af, guard := g }) w = buildRow Try.prog w 31 #[(0, ev x0), (1, ev x1), (9, ev x2)] := by
  rw [run_op_build]
  simp
@[go_sem ↓ high] theorem run_op_build_ck4 (ev : Operand → Value) (dst : Option Tmp) (x0 x1 x2 x3 : Operand) (ty : TypeId) (pos : String) (af : Array Edge) (g : Option (Nat × Bool)) (w : World) :
    Sem.run Try.prog (execOp ev { dst := dst, op := .build 31 #[(0, x0), (1, x1), (9, x2), (11, x3)], type := ty, pos := pos, after := af, guard := g }) w = buildRow Try.prog w 31 #[(0, ev x0), (1, ev x1), (9, ev x2), (11, ev x3)] := by
  rw [run_op_build]
  simp
end Go.Proofs.Ytaondmaebgicgaa
