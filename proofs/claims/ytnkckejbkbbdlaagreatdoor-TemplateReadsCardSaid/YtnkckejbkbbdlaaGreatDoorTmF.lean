/- Merged: TplP, Fault, Open, HostL, AddrV4n, HostBn. -/
import Derived.Test.YtnkckejbkbbdlaaGreatDoorTmE
import Derived.Test.YtnkckejbkbbdlaaGreatDoorTmD
import Derived.Test.YtnkckejbkbbdlaaGreatDoorTmA
import Derived.Test.YtnkckejbkbbdlaaGreatDoorTmC
namespace Go.Proofs.YtnkckejbkbbdlaaGreatDoor
section
open Go Go.RowKit
set_option maxRecDepth 20000
set_option linter.unusedSimpArgs false
set_option linter.unusedVariables false

/-! ### what a word stands for -/
def hexWd (c : UInt8) : Nat := hexCs.findIdx (· == c)
def decB : List UInt8 → List UInt8
  | [] => []
  | [c] => if c = 37 then [] else [c]
  | [c, a] => if c = 37 then [] else c :: decB [a]
  | c :: a :: b :: r => if c = 37 then UInt8.ofNat (hexWd a * 16 + hexWd b) :: decB r else c :: decB (a :: b :: r)
theorem decB_ne {c : UInt8} (h : c ≠ 37) (r : List UInt8) : decB (c :: r) = c :: decB r := by
  match r with
  | [] => simp [decB, h]
  | [a] => simp [decB, h]
  | a :: b :: r => simp [decB, h]
theorem decB_37 (a b : UInt8) (r : List UInt8) : decB (37 :: a :: b :: r) = UInt8.ofNat (hexWd a * 16 + hexWd b) :: decB r := by simp [decB]
def unwO (s : List UInt8) : List UInt8 := decB (Lib.trimSuffix s [37])
def unwL (s : List UInt8) : List UInt8 × Bool := if wordL (unwO s) = s then (unwO s, true) else ([], false)
theorem decB_body : ∀ o : List UInt8, decB (wordBody o) = o
  | [] => rfl
  | c :: o => by
    rw [wordBody_cons]
    unfold wordC
    by_cases hp : plainC c = true
    · rw [if_pos hp]
      have hc : c ≠ 37 := plainC_ne hp
      show decB (c :: wordBody o) = _
      rw [decB_ne hc, decB_body o]
    · rw [if_neg hp]
      show decB (37 :: hexU (c.toNat / 16) :: hexU (c.toNat % 16) :: wordBody o) = _
      have key : ∀ i : Fin 256, UInt8.ofNat (hexWd (hexU (i.val / 16)) * 16 + hexWd (hexU (i.val % 16))) = UInt8.ofNat i.val := by decide +kernel
      have := key ⟨c.toNat, c.toNat_lt⟩
      rw [decB_37, decB_body o, this, UInt8.ofNat_toNat]
theorem unwL_of {s t : List UInt8} {ok : Bool} (h : Unworded s t ok) : unwL s = (t, ok) := by
  have key : ∀ o, wordL o = s → unwO s = o := fun o ho => by
    unfold unwO
    rw [← unword_start s o ho, decB_body]
  unfold unwL
  rcases h with ⟨rfl, e⟩ | ⟨rfl, rfl, n⟩
  · rw [key t e, if_pos e]
  · rw [if_neg (n _)]
theorem unwO_len : ∀ s : List UInt8, (decB s).length ≤ s.length
  | [] => Nat.le_refl _
  | [c] => by rw [decB]; split <;> simp
  | [c, a] => by
    have := unwO_len [a]
    rw [decB]; split
    · simp
    · simp only [List.length_cons] at *; omega
  | c :: a :: b :: r => by
    have h1 := unwO_len r
    have h2 := unwO_len (a :: b :: r)
    rw [decB]; split
    · simp only [List.length_cons] at *; omega
    · simp only [List.length_cons] at *; omega
theorem unwL_len (s : List UInt8) : (unwL s).1.length ≤ s.length := by
  unfold unwL
  split
  · exact Nat.le_trans (unwO_len _) (trimSuffix_length _ _)
  · exact Nat.zero_le _

/-! ### names, pieces -/
def nmC (c : UInt8) : Bool := (decide ((97 : Int) ≤ c.toNat) && decide ((c.toNat : Int) ≤ 122)) || (decide ((48 : Int) ≤ c.toNat) && decide ((c.toNat : Int) ≤ 57))
def nameT (s : List UInt8) : Bool := !s.isEmpty && (decide (s.length ≤ 20) && s.all nmC)
structure GTpl where
  name : List UInt8
  url : Bool × GHost × Int × List UInt8
  text : List UInt8
  line : Int
structure GCh where
  name : List UInt8
  vals : List (List UInt8)
/-- Where a name stands among choices. -/
def atC (C : List GCh) (s : List UInt8) : Nat := C.findIdx (fun c => c.name == s)
def hasC (C : List GCh) (s : List UInt8) : Bool := C.any (fun c => c.name == s)
abbrev GPart := List UInt8 × Int
def upTo (c : UInt8) (s : List UInt8) : List UInt8 := s.takeWhile (fun x => !(x == c))
def past (c : UInt8) (s : List UInt8) : List UInt8 := s.dropWhile (fun x => !(x == c))
/-- May a place stand here? -/
def placeOk (C : List GCh) (rest : List UInt8) : Bool := !(past 125 rest).isEmpty && (nameT (upTo 125 rest) && hasC C (upTo 125 rest))
def partsF (C : List GCh) : Nat → List UInt8 → Option (List GPart)
  | 0, _ => some []
  | n + 1, s =>
    if s = [] then some []
    else if past 123 s = [] then some [(upTo 123 s, -1)]
    else if placeOk C (past 123 s).tail = true then (partsF C n (past 125 (past 123 s).tail).tail).map (fun l => (upTo 123 s, -1) :: ([], (atC C (upTo 125 (past 123 s).tail) : Int)) :: l)
    else none
def partsT (C : List GCh) (s : List UInt8) : Option (List GPart) := partsF C s.length s
def usesGo : List Nat → List GPart → List Nat
  | out, [] => out
  | out, p :: l => if 0 ≤ p.2 ∧ p.2.toNat ∉ out then usesGo (out ++ [p.2.toNat]) l else usesGo out l
def usesT (l : List GPart) : List Nat := usesGo [] l
def valsC (C : List GCh) (i : Nat) : List (List UInt8) := ((C[i]?).map (·.vals)).getD []
def rowsGo (C : List GCh) : Nat → List Nat → Nat
  | n, [] => n
  | n, i :: is => if 24 < n * (valsC C i).length then n * (valsC C i).length else rowsGo C (n * (valsC C i).length) is
def mostT (V : List (List UInt8)) : Nat := V.foldl (fun m v => max m v.length) 0
def lenGo (C : List GCh) : Nat → List GPart → Nat
  | n, [] => n
  | n, p :: l => if p.2 < 0 then lenGo C (n + p.1.length) l else if 2000 < n + p.1.length + mostT (valsC C p.2.toNat) then n + p.1.length + mostT (valsC C p.2.toNat) else lenGo C (n + p.1.length + mostT (valsC C p.2.toNat)) l
/-! ### instances -/
def stepR (C : List GCh) (st : Nat × List (Nat × List UInt8)) (u : Nat) : Nat × List (Nat × List UInt8) := (st.1 / (valsC C u).length, (u, (valsC C u).getD (st.1 % (valsC C u).length) []) :: st.2)
def rowT (C : List GCh) (us : List Nat) (n : Nat) : List (Nat × List UInt8) := (us.foldl (stepR C) (n, [])).2
def atRow (R : List (Nat × List UInt8)) (i : Int) : List UInt8 := ((R.find? (fun r => (r.1 : Int) == i)).map (·.2)).getD []
def fillT (R : List (Nat × List UInt8)) (l : List GPart) : List UInt8 := l.flatMap (fun p => p.1 ++ atRow R p.2)
def instP (C : List GCh) (l : List GPart) : List (List UInt8) := (List.range (rowsGo C 1 (usesT l))).map (fun n => fillT (rowT C (usesT l).reverse n) l)
def instT (C : List GCh) (s : List UInt8) : List (List UInt8) :=
  match partsT C s with
  | none => []
  | some l => if (usesT l).any (fun i => (valsC C i).isEmpty) = true then [] else if 24 < rowsGo C 1 (usesT l) then [] else if 2000 < lenGo C 0 l then [] else instP C l
/-! ### lines -/
def chVals : List (List UInt8) → Nat → List (List UInt8) → Int × Nat × List (List UInt8)
  | [], _, V => (0, 0, V)
  | x :: L, i, V => if (unwL x).2 = false then (131, i, V) else if (unwL x).1 ∈ V then (52, i, V) else if V.length = 6 then (53, i, V) else chVals L (i + 1) (V ++ [(unwL x).1])
def nth (W : List (List UInt8)) (i : Nat) : List UInt8 := W.getD i []
def chLine (W : List (List UInt8)) (C : List GCh) : Int × Nat × GCh :=
  if nameT (nth W 1) = false then (221, 1, ⟨[], []⟩)
  else if hasC C (nth W 1) = true then (52, 1, ⟨[], []⟩)
  else if (chVals (W.drop 2) 2 []).1 ≠ 0 then ((chVals (W.drop 2) 2 []).1, (chVals (W.drop 2) 2 []).2.1, ⟨[], []⟩)
  else if C.length = 6 then (53, 0, ⟨[], []⟩)
  else (0, 0, ⟨nth W 1, (chVals (W.drop 2) 2 []).2.2⟩)
def zeroU : Bool × GHost × Int × List UInt8 := (false, zeroH, 0, [])
def zeroTp : GTpl := ⟨[], zeroU, [], 0⟩
/-- What is wrong with a text's places. -/
def textE (C : List GCh) (s : List UInt8) : Int :=
  match partsT C s with
  | none => 222
  | some l => if 24 < rowsGo C 1 (usesT l) then 53 else if 2000 < lenGo C 0 l then 54 else 0
def ckLine (W : List (List UInt8)) (T : List GTpl) (C : List GCh) (line : Int) : Int × Nat × GTpl :=
  if nameT (nth W 1) = false then (221, 1, zeroTp)
  else if T.any (fun t => t.name == nth W 1) = true then (52, 1, zeroTp)
  else if (urlOut (nth W 2)).1 ≠ 0 then ((urlOut (nth W 2)).1, 2, zeroTp)
  else if (unwL (nth W 3)).2 = false then (131, 3, zeroTp)
  else if textE C (unwL (nth W 3)).1 ≠ 0 then (textE C (unwL (nth W 3)).1, 3, zeroTp)
  else if T.length = 8 then (53, 0, zeroTp)
  else (0, 0, ⟨nth W 1, (urlOut (nth W 2)).2, (unwL (nth W 3)).1, line⟩)
def colW (W : List (List UInt8)) (k : Nat) : Int := 1 + ((((W.take k).map (fun w => w.length + 1)).sum : Nat) : Int)
def choiceWd : List UInt8 := [99, 104, 111, 105, 99, 101]
def cookieWd : List UInt8 := [99, 111, 111, 107, 105, 101]
def isCh (x : List UInt8) : Bool := wordsOk x && (nth (splitL 32 x) 0 == choiceWd && decide (2 < (splitL 32 x).length))
def isCk (x : List UInt8) : Bool := wordsOk x && (nth (splitL 32 x) 0 == cookieWd && decide ((splitL 32 x).length = 4))
/-- A line: its fault (0: none) at a word, and what there is behind it. -/
def lineT (x : List UInt8) (i : Nat) (T : List GTpl) (C : List GCh) : Int × Nat × List GTpl × List GCh :=
  if isCh x = true then ((chLine (splitL 32 x) C).1, (chLine (splitL 32 x) C).2.1, T, C ++ [(chLine (splitL 32 x) C).2.2])
  else if isCk x = true then ((ckLine (splitL 32 x) T C ((i : Int) + 1)).1, (ckLine (splitL 32 x) T C ((i : Int) + 1)).2.1, T ++ [(ckLine (splitL 32 x) T C ((i : Int) + 1)).2.2], C)
  else (131, 0, T, C)
abbrev GFaul := Int × Int × Int
def tplStep : List (List UInt8) → Nat → List GTpl → List GCh → List GTpl × List GCh × GFaul
  | [], _, T, C => (T, C, 0, 0, 0)
  | x :: L, i, T, C =>
    if x = [] ∨ Lib.hasPrefix x [35] = true then tplStep L (i + 1) T C
    else if (lineT x i T C).1 ≠ 0 then ([], [], (lineT x i T C).1, (i : Int) + 1, colW (splitL 32 x) (lineT x i T C).2.1)
    else tplStep L (i + 1) (lineT x i T C).2.2.1 (lineT x i T C).2.2.2
def tplFile (s : List UInt8) : List GTpl × List GCh × GFaul := if 20000 < s.length then ([], [], 54, 1, 1) else tplStep (linesL s) 0 [] []
end

section
open Go Go.RowKit
set_option maxRecDepth 20000
set_option linter.unusedSimpArgs false
set_option linter.unusedVariables false

structure GFault where
  code : Int
  line : Int
  col : Int
def faultR (c l k : Int) : List Value := [.int .i64 c, .int .i64 l, .int .i64 k]
def faultV (c l k : Int) : Array Value := (faultR c l k).toArray
@[go_sem] theorem faultV_size (c l k : Int) : (faultV c l k).size = 3 := by simp [faultV, faultR]
theorem fault_one (c l k : Int) : ∀ v ∈ faultR c l k, v.oneCell' = true := by
  intro v hv
  simp only [faultR, List.mem_cons, List.not_mem_nil, or_false] at hv
  rcases hv with rfl | rfl | rfl <;> rfl
@[go_sem] theorem faultV_one (c l k : Int) : allOne (faultV c l k) = true := allOne_of (fault_one c l k)
@[go_sem ↓ high] theorem faultV_0 (c l k : Int) : (faultV c l k)[0]? = some (.int .i64 c) := by simp [faultV, faultR]
@[go_sem ↓ high] theorem faultV_1 (c l k : Int) : (faultV c l k)[1]? = some (.int .i64 l) := by simp [faultV, faultR]
@[go_sem ↓ high] theorem faultV_2 (c l k : Int) : (faultV c l k)[2]? = some (.int .i64 k) := by simp [faultV, faultR]
@[go_sem] theorem faultV_all (c l k : Int) : (faultV c l k).extract 0 3 = faultV c l k := by
  rw [← faultV_size c l k]; simp
@[go_sem] theorem agg_fault : isAggT Tryz.prog 24 = true := by kernel_rfl
@[go_sem] theorem cellsOf_fault : Tryz.prog.cellsOf 24 = 3 := by kernel_rfl
def faultEq (c l k c' l' k' : Int) : Bool := c == c' && (l == l' && k == k')
theorem faultEq_iff {c l k c' l' k' : Int} : faultEq c l k c' l' k' = true ↔ c = c' ∧ l = l' ∧ k = k' := by
  simp [faultEq]
theorem cellsOf_errno : Tryz.prog.cellsOf 22 = 1 := by kernel_rfl
theorem keyLits_errno (D : Nat) (n : Int) (h : (Lit.int .i64 n).wf = true) : Tryz.prog.keyLits (D + 1) 22 [.int .i64 n] = some [.int .i64 n] := by
  simp [Program.keyLits, Tryz.underlying22, h]
theorem keyLits_fault (D : Nat) (c l k : Int) (h1 : (Lit.int .i64 c).wf = true) (h2 : (Lit.int .i64 l).wf = true) (h3 : (Lit.int .i64 k).wf = true) : Tryz.prog.keyLits (D + 3) 24 (faultR c l k) = some [.int .i64 c, .int .i64 l, .int .i64 k] := by
  unfold Program.keyLits
  rw [Tryz.underlying24]
  simp [cellsOf_fault, faultR, cellsOf_int, cellsOf_errno, keyLits_errno, keyLits_i64, h1, h2, h3]
theorem fault_rows (c l k c' l' k' : Int) (h1 : (Lit.int .i64 c).wf = true) (h2 : (Lit.int .i64 l).wf = true) (h3 : (Lit.int .i64 k).wf = true) (h1' : (Lit.int .i64 c').wf = true) (h2' : (Lit.int .i64 l').wf = true) (h3' : (Lit.int .i64 k').wf = true) (x y : Operand) (w : World) :
    eqRow Tryz.prog w 24 x y (.agg (faultV c l k)) (.agg (faultV c' l' k')) = .ok (.value (.bool (faultEq c l k c' l' k'))) w ∧
    neRow Tryz.prog w 24 x y (.agg (faultV c l k)) (.agg (faultV c' l' k')) = .ok (.value (.bool (!faultEq c l k c' l' k'))) w :=
  eq_rows (m := 10) (by kernel_rfl) (by decide) (by kernel_rfl) (keyLits_fault 0 c l k h1 h2 h3) (keyLits_fault 0 c' l' k' h1' h2' h3') (by simp [Value.formed, Tryz.underlying24, cellsOf_fault, faultR]) (by simp [Value.formed, Tryz.underlying24, cellsOf_fault, faultR])
    (by rw [faultEq_iff]; simp) x y w
@[go_sem] theorem eqRow_fault (c l k c' l' k' : Int) (h1 : (Lit.int .i64 c).wf = true) (h2 : (Lit.int .i64 l).wf = true) (h3 : (Lit.int .i64 k).wf = true) (h1' : (Lit.int .i64 c').wf = true) (h2' : (Lit.int .i64 l').wf = true) (h3' : (Lit.int .i64 k').wf = true) (x y : Operand) (w : World) :
    eqRow Tryz.prog w 24 x y (.agg (faultV c l k)) (.agg (faultV c' l' k')) = .ok (.value (.bool (faultEq c l k c' l' k'))) w := (fault_rows c l k c' l' k' h1 h2 h3 h1' h2' h3' x y w).1
@[go_sem] theorem neRow_fault (c l k c' l' k' : Int) (h1 : (Lit.int .i64 c).wf = true) (h2 : (Lit.int .i64 l).wf = true) (h3 : (Lit.int .i64 k).wf = true) (h1' : (Lit.int .i64 c').wf = true) (h2' : (Lit.int .i64 l').wf = true) (h3' : (Lit.int .i64 k').wf = true) (x y : Operand) (w : World) :
    neRow Tryz.prog w 24 x y (.agg (faultV c l k)) (.agg (faultV c' l' k')) = .ok (.value (.bool (!faultEq c l k c' l' k'))) w := (fault_rows c l k c' l' k' h1 h2 h3 h1' h2' h3' x y w).2
/-! ### built -/
theorem run_build_fault0 (w : World) : (Instr.build 24 #[]).run Tryz.prog w = .ok (.agg (faultV 0 0 0)) w := by kernel_rfl
theorem run_build_fault (c l k : Int) (w : World) : (Instr.build 24 #[(0, .int .i64 c), (1, .int .i64 l), (2, .int .i64 k)]).run Tryz.prog w = .ok (.agg (faultV c l k)) w := by kernel_rfl
@[go_sem ↓ high] theorem run_op_build_fault0 (ev : Operand → Value) (dst : Option Tmp) (ty : TypeId) (pos : String) (af : Array Edge) (g : Option (Nat × Bool)) (w : World) :
    Sem.run Tryz.prog (execOp ev { dst := dst, op := .build 24 #[], type := ty, pos := pos, after := af, guard := g }) w = .ok (.value (.agg (faultV 0 0 0))) w := by
  rw [run_op_build, buildRow, Sem.run_bind]
  simp [run_build_fault0]
@[go_sem ↓ high] theorem run_op_build_fault (ev : Operand → Value) (dst : Option Tmp) (x0 x1 x2 : Operand) (ty : TypeId) (pos : String) (af : Array Edge) (g : Option (Nat × Bool)) (w : World) :
    Sem.run Tryz.prog (execOp ev { dst := dst, op := .build 24 #[(0, x0), (1, x1), (2, x2)], type := ty, pos := pos, after := af, guard := g }) w = buildRow Tryz.prog w 24 #[(0, ev x0), (1, ev x1), (2, ev x2)] := by
  rw [run_op_build]
  simp
@[go_sem] theorem buildFault_at (c l k : Int) (w : World) : buildRow Tryz.prog w 24 #[(0, .int .i64 c), (1, .int .i64 l), (2, .int .i64 k)] = .ok (.value (.agg (faultV c l k))) w := by
  rw [buildRow, Sem.run_bind, run_build_fault]
  rfl
theorem ret_tmp_cell {P : Program} {fn : Func} {p u : Tmp} {ty : TypeId} {R : Ending → World → Prop} {a : Act} {w : World} (g : Nat) (cs : Array Value) (v : Value) (h : fn.results = #[.tmp u, .cell p ty]) (hp : a.tmps.getD p undef = .pointer (some ⟨g, 0, none⟩)) (hv : a.tmps.getD u undef = v) (hagg : isAggT P ty = true)
    (hr : hasRow w ⟨g, 0, none⟩ (P.cellsOf ty) = true) (hc : rowAt w ⟨g, 0, none⟩ (P.cellsOf ty) = cs) (hd : a.defers = []) (hR : R (.returned (.tuple #[v, .agg cs])) w) : bodyPost P fn R .ret a w := by
  refine bodyPost_ret (v := .tuple #[v, .agg cs]) ?_ hd hR
  have hp' : a.tmps[p]?.getD undef = .pointer (some ⟨g, 0, none⟩) := by simpa using hp
  have hv' : a.tmps[u]?.getD undef = v := by simpa using hv
  have := run_loadVar_agg (P := P) hagg ⟨g, 0, none⟩ w hr
  rw [hc] at this
  simp [results, h, hp', hv', asAddr, this]
/-! ### a slice and a fault -/
/-- A call hands back a slice of these values, in memory of its own, and a fault. -/
def GivesF {α : Type} (c : Cod α) (xs : List α) (f : Int × Int × Int) (w : World) (e : Ending) (w' : World) : Prop :=
  ∃ a cap, e = .returned (.tuple #[.slice a xs.length cap, .agg (faultV f.1 f.2.1 f.2.2)]) ∧ xs.length ≤ cap ∧ Below w.heap.size w w' ∧ ListIn c w' a xs w.heap.size
end

section
open Go Go.RowKit
set_option maxRecDepth 20000

section
variable {w : World} {r : Reach} {base : Nat}
def addrT : List TypeId := List.replicate 16 5
def hostT : List TypeId := [3, 9] ++ addrT
theorem fits_addr {vs : List Value} (h : RowFits Tryz.prog w r base addrT vs) : ∃ a : GAddr, vs = addrL a := by
  obtain ⟨l, hl, rfl⟩ := rowFits_u8 Tryz.underlying5 h
  exact ⟨⟨l, hl⟩, rfl⟩
theorem fits_host {vs : List Value} (h : RowFits Tryz.prog w r base hostT vs) : ∃ a : GHost, vs = hostL a := by
  obtain ⟨v, b, rfl, h1, h⟩ := rowFits_cons h
  obtain ⟨v', b', rfl, h2, h⟩ := rowFits_cons h
  obtain ⟨a, rfl⟩ := fits_addr h
  obtain ⟨k, rfl, hk⟩ := cell_int Tryz.underlying3 h1
  obtain ⟨s, rfl, hs⟩ := cell_str Tryz.underlying9 h2
  exact ⟨⟨k, s, a, hk, hs⟩, rfl⟩
theorem open_addr {v : Value} (h : Value.okWide Tryz.prog w r base 35 v) : ∃ a : GAddr, v = .agg (addrC a) := by
  unfold Value.okWide at h
  rw [Tryz.underlying35] at h
  obtain ⟨cs, rfl, hs, hr⟩ := h
  obtain ⟨a, ha⟩ := fits_addr (rowFits_row (ts := addrT) (by kernel_rfl) (by rw [hs, cellsOf_addr]; rfl) hr)
  exact ⟨a, by rw [addrC, ← ha]⟩
theorem open_host {v : Value} (h : Value.okWide Tryz.prog w r base 37 v) : ∃ a : GHost, v = .agg (hostC a) := by
  unfold Value.okWide at h
  rw [Tryz.underlying37] at h
  obtain ⟨cs, rfl, hs, hr⟩ := h
  obtain ⟨a, ha⟩ := fits_host (rowFits_row (ts := hostT) (by kernel_rfl) (by rw [hs, cellsOf_host]; rfl) hr)
  exact ⟨a, by rw [hostC, ← ha]⟩
end
end

section
open Go Go.RowKit
set_option maxRecDepth 20000
set_option linter.unusedSimpArgs false
set_option linter.unusedVariables false

theorem labC_cases (c : UInt8) : ((c.toNat : Int) < 48 ∧ (((c.toNat : Int) == 45) = false) ∧ labC c = false) ∨ ((c.toNat : Int) < 48 ∧ (((c.toNat : Int) == 45) = true) ∧ labC c = true) ∨ ((48 : Int) ≤ c.toNat ∧ (c.toNat : Int) ≤ 57 ∧ labC c = true) ∨
    ((57 : Int) < c.toNat ∧ (c.toNat : Int) < 97 ∧ (((c.toNat : Int) == 95) = false) ∧ labC c = false) ∨ ((57 : Int) < c.toNat ∧ (c.toNat : Int) < 97 ∧ (((c.toNat : Int) == 95) = true) ∧ labC c = true) ∨ ((97 : Int) ≤ c.toNat ∧ (c.toNat : Int) ≤ 122 ∧ labC c = true) ∨ ((122 : Int) < c.toNat ∧ labC c = false) := by
  have key : ∀ i : Fin 256, ((i.val : Int) < 48 ∧ (((i.val : Int) == 45) = false) ∧ labC (UInt8.ofNat i.val) = false) ∨ ((i.val : Int) < 48 ∧ (((i.val : Int) == 45) = true) ∧ labC (UInt8.ofNat i.val) = true) ∨ ((48 : Int) ≤ i.val ∧ (i.val : Int) ≤ 57 ∧ labC (UInt8.ofNat i.val) = true) ∨
    ((57 : Int) < i.val ∧ (i.val : Int) < 97 ∧ (((i.val : Int) == 95) = false) ∧ labC (UInt8.ofNat i.val) = false) ∨ ((57 : Int) < i.val ∧ (i.val : Int) < 97 ∧ (((i.val : Int) == 95) = true) ∧ labC (UInt8.ofNat i.val) = true) ∨ ((97 : Int) ≤ i.val ∧ (i.val : Int) ≤ 122 ∧ labC (UInt8.ofNat i.val) = true) ∨ ((122 : Int) < i.val ∧ labC (UInt8.ofNat i.val) = false) := by decide +kernel
  have := key ⟨c.toNat, c.toNat_lt⟩
  simpa using this
theorem letter_any (c : UInt8) (w : World) :
    Calls Tryz.prog 138 #[.int .u8 (c.toNat : Int)] w fun e w' => e = .returned (.bool (labC c)) ∧ w = w' := by
  rcases labC_cases c with ⟨h1, h2, hd⟩ | ⟨h1, h2, hd⟩ | ⟨h1, h2, hd⟩ | ⟨h1, h2, h3, hd⟩ | ⟨h1, h2, h3, hd⟩ | ⟨h1, h2, hd⟩ | ⟨h1, hd⟩
  all_goals
    rw [hd]
    clear hd
    try (have hx : (((c.toNat : Int) == 45) = false) := by rw [beq_eq_false_iff_ne]; omega)
    try (have hy : (((c.toNat : Int) == 95) = false) := by rw [beq_eq_false_iff_ne]; omega)
    go_enter Tryz.func138, Tryz.ntmps138
    go_wp2
    go_ret
    exact ⟨by first | rfl | exact ret_bool (by simp; omega), rfl⟩
theorem noLetter_any (c : UInt8) (w : World) :
    Calls Tryz.prog 137 #[.int .u8 (c.toNat : Int)] w fun e w' => e = .returned (.bool (!labC c)) ∧ w = w' := by
  have HL := Lib.hid (letter_any c)
  generalize labC c = b at *
  go_enter Tryz.func137, Tryz.ntmps137
  go_wp2_with (go_at_call 138; refine (HL.out _).mono ?_; intro e w' h; obtain ⟨rfl, h2⟩ := h; subst w')
  go_ret
  exact ⟨rfl, rfl⟩
theorem any_take_step (l : List UInt8) (p : UInt8 → Bool) (k : Nat) (h : k < l.length) : (l.take (k + 1)).any p = ((l.take k).any p || p (l[k]'h)) := by
  rw [List.take_succ_eq_append_getElem h, List.any_append]; simp
theorem any_at {α : Type} (l : List α) (p : α → Bool) (k : Nat) (h : k < l.length) (hp : p (l[k]'h) = true) : l.any p = true := List.any_eq_true.2 ⟨_, List.getElem_mem h, hp⟩
theorem any_take_stepL (l : List (List UInt8)) (p : List UInt8 → Bool) (k : Nat) (h : k < l.length) : (l.take (k + 1)).any p = ((l.take k).any p || p (l[k]'h)) := by
  rw [List.take_succ_eq_append_getElem h, List.any_append]; simp
/-- IndexFunc hands back a place at or above nought, or -1. -/
theorem indexB_any (l : List UInt8) (hl : l.length ≤ 9223372036854775807) (cap b : Nat) (w : World) (hb : bytesAt w ⟨b, 0, none⟩ l) :
    Calls Tryz.prog 92 #[.slice (some ⟨b, 0, none⟩) l.length cap, .func (.func 137) #[] #[]] w fun e w' => ∃ i : Int, -1 ≤ i ∧ (decide (0 ≤ i) = l.any (fun c => !labC c)) ∧ e = .returned (.int .i64 i) ∧ w = w' := by
  have HBY := Lib.hid hb
  have HANY : Hid (∀ k (h : k < l.length), labC (l[k]'h) = false → l.any (fun c => !labC c) = true) := fun k h hp => any_at l _ k h (by rw [hp]; rfl)
  have HEND : Hid ((l.take l.length).any (fun c => !labC c) = l.any (fun c => !labC c)) := show _ = _ by rw [List.take_length]
  generalize hA : l.any (fun c => !labC c) = A at *
  go_enter Tryz.func92, Tryz.ntmps92
  go_wp2
  go_loop [8, 5] (fun i _ => ∃ k : Nat, k ≤ l.length ∧ i = .int .i64 k ∧ Hid ((l.take k).any (fun c => !labC c) = false)) (fun i _ => l.length - (intOf i).toNat)
  case atStart => exact ⟨0, Nat.zero_le _, rfl, rfl⟩
  case round =>
    obtain ⟨k, hk, rfl, hinv⟩ := hrel
    by_cases hlt : k < l.length
    · have hcell := bytesAt_get HBY.out k hlt
      rw [Nat.zero_add] at hcell
      have HS := Lib.hid (any_take_step l (fun c => !labC c) k hlt)
      have HB := Lib.hid (HANY.out k hlt)
      have HN := Lib.hid (noLetter_any (l[k]'hlt))
      generalize l[k]'hlt = c at *
      cases hc : labC c
      · obtain rfl := HB.out hc
        rw [hc] at HN
        go_wp2_with (go_at_call 137; refine (HN.out _).mono ?_; intro e w' h; obtain ⟨rfl, h2⟩ := h; subst w')
        go_ret
        exact ⟨(k : Int), by omega, by simp, rfl, rfl⟩
      · rw [hc] at HN
        go_wp2_with (go_at_call 137; refine (HN.out _).mono ?_; intro e w' h; obtain ⟨rfl, h2⟩ := h; subst w')
        go_round
        case rel => exact ⟨k + 1, by omega, by go_num, show _ = false by rw [HS.out, hinv.out, hc]; rfl⟩
        case measure => simp [intOf]; omega
    · obtain rfl : k = l.length := by omega
      have hfin : A = false := by rw [← HEND.out]; exact hinv.out
      subst hfin
      go_wp2
      go_ret
      exact ⟨-1, by omega, by simp, rfl, rfl⟩
theorem containsB_any (l : List UInt8) (hl : l.length ≤ 9223372036854775807) (cap b : Nat) (w : World) (hb : bytesAt w ⟨b, 0, none⟩ l) :
    Calls Tryz.prog 72 #[.slice (some ⟨b, 0, none⟩) l.length cap, .func (.func 137) #[] #[]] w fun e w' => e = .returned (.bool (l.any (fun c => !labC c))) ∧ w = w' := by
  have HI := Lib.hid (indexB_any l hl cap b w hb)
  generalize l.any (fun c => !labC c) = A at *
  go_enter Tryz.func72, Tryz.ntmps72
  go_wp2_with (go_at_call 92; refine (HI.out).mono ?_; intro e w' h; obtain ⟨i, hi1, hi2, rfl, h2⟩ := h; subst w')
  go_ret
  exact ⟨by first | exact ret_bool hi2 | rfl, rfl⟩
set_option maxHeartbeats 400000 in
theorem label_any (l : List UInt8) (hl : l.length ≤ maxLen) (w : World) :
    Calls Tryz.prog 125 #[.string ⟨l.toArray⟩] w fun e w' => e = .returned (.bool (labOk l)) ∧ Below w.heap.size w w' := by
  unfold maxLen at hl
  have hall : l.all labC = !l.any (fun c => !labC c) := List.all_eq_not_any_not
  have HC := Lib.hid (fun cap b w hb => containsB_any l (by omega) cap b w hb)
  rw [labOk, hall]
  generalize l.any (fun c => !labC c) = A at *
  clear hall
  cases he : l.isEmpty
  · by_cases h63 : (l.length : Int) ≤ 63
    · have hd : decide (l.length ≤ 63) = true := decide_eq_true (by omega)
      rw [hd]
      go_enter Tryz.func125, Tryz.ntmps125
      go_wp2_with (go_at_call 72; refine (HC.out _ _ _ (bytesAt_bytesW _ _)).mono ?_; intro e w' h; obtain ⟨rfl, h2⟩ := h; subst w')
      go_ret
      exact ⟨by simp, (by repeat (first | exact Below.refl _ _ | assumption | refine below_grown ?_ (by first | omega | (simp [go_sem]; done) | (simp [go_sem] <;> omega)) _ | refine Below.alloc ?_ (by first | omega | (simp [go_sem]; done) | (simp [go_sem] <;> omega)) _ | refine below_bytesW ?_ (by first | omega | (simp [go_sem]; done) | (simp [go_sem] <;> omega)) _ | refine Below.drew ?_ | refine below_drewN ?_ _))⟩
    · have hd : decide (l.length ≤ 63) = false := decide_eq_false (by omega)
      rw [hd]
      go_enter Tryz.func125, Tryz.ntmps125
      go_wp2
      go_ret
      exact ⟨by simp, (by repeat (first | exact Below.refl _ _ | assumption | refine below_grown ?_ (by first | omega | (simp [go_sem]; done) | (simp [go_sem] <;> omega)) _ | refine Below.alloc ?_ (by first | omega | (simp [go_sem]; done) | (simp [go_sem] <;> omega)) _ | refine below_bytesW ?_ (by first | omega | (simp [go_sem]; done) | (simp [go_sem] <;> omega)) _ | refine Below.drew ?_ | refine below_drewN ?_ _))⟩
  · go_enter Tryz.func125, Tryz.ntmps125
    go_wp2
    go_ret
    exact ⟨by simp, (by repeat (first | exact Below.refl _ _ | assumption | refine below_grown ?_ (by first | omega | (simp [go_sem]; done) | (simp [go_sem] <;> omega)) _ | refine Below.alloc ?_ (by first | omega | (simp [go_sem]; done) | (simp [go_sem] <;> omega)) _ | refine below_bytesW ?_ (by first | omega | (simp [go_sem]; done) | (simp [go_sem] <;> omega)) _ | refine Below.drew ?_ | refine below_drewN ?_ _))⟩
theorem noLabel_any (l : List UInt8) (hl : l.length ≤ maxLen) (w : World) :
    Calls Tryz.prog 124 #[.string ⟨l.toArray⟩] w fun e w' => e = .returned (.bool (!labOk l)) ∧ Below w.heap.size w w' := by
  have HL := Lib.hid (label_any l hl)
  generalize labOk l = b at *
  go_enter Tryz.func124, Tryz.ntmps124
  go_wp2_with (go_at_call 125; refine (HL.out _).mono ?_; rintro e w1 ⟨rfl, hb1⟩; obtain ⟨p1, rfl⟩ := grown_of hb1; clear hb1)
  go_ret
  exact ⟨rfl, (by repeat (first | exact Below.refl _ _ | assumption | refine below_grown ?_ (by first | omega | (simp [go_sem]; done) | (simp [go_sem] <;> omega)) _ | refine Below.alloc ?_ (by first | omega | (simp [go_sem]; done) | (simp [go_sem] <;> omega)) _ | refine below_bytesW ?_ (by first | omega | (simp [go_sem]; done) | (simp [go_sem] <;> omega)) _ | refine Below.drew ?_ | refine below_drewN ?_ _))⟩
theorem indexS_any (L : List (List UInt8)) (n cap b o : Nat) (hn : n = L.length) (hl : L.length ≤ 9223372036854775807) (w : World) (hp : ∀ p ∈ L, p.length ≤ maxLen) (hb : b < w.heap.size) (hat : ListAt strCod w b o L) :
    Calls Tryz.prog 136 #[.slice (some ⟨b, o, none⟩) n cap, .func (.func 124) #[] #[]] w fun e w' => ∃ i : Int, -1 ≤ i ∧ (decide (0 ≤ i) = L.any (fun x => !labOk x)) ∧ e = .returned (.int .i64 i) ∧ Below w.heap.size w w' := by
  subst hn
  have HAT := Lib.hid hat
  have HP := Lib.hid hp
  have HANY : Hid (∀ k (h : k < L.length), labOk (L[k]'h) = false → L.any (fun x => !labOk x) = true) := fun k h hp => any_at L _ k h (by rw [hp]; rfl)
  have HEND : Hid ((L.take L.length).any (fun x => !labOk x) = L.any (fun x => !labOk x)) := show _ = _ by rw [List.take_length]
  generalize hA : L.any (fun x => !labOk x) = A at *
  clear hat hp
  go_enter Tryz.func136, Tryz.ntmps136
  go_wp2
  go_loopw [8, 5] (fun i _ wr => ∃ k : Nat, k ≤ L.length ∧ i = .int .i64 k ∧ Below w.heap.size w wr ∧ Hid ((L.take k).any (fun x => !labOk x) = false)) (fun i _ _ => L.length - (intOf i).toNat)
  case atStart => exact ⟨0, Nat.zero_le _, rfl, Below.refl _ _, rfl⟩
  case round =>
    obtain ⟨k, hk, rfl, hbl, hinv⟩ := hrel
    have HBL := Lib.hid hbl
    by_cases hlt : k < L.length
    · have hcell := strAt (HAT.out.below hbl) k hlt
      have HS := Lib.hid (any_take_stepL L (fun x => !labOk x) k hlt)
      have HB := Lib.hid (HANY.out k hlt)
      have HN := Lib.hid (noLabel_any (L[k]'hlt) (HP.out _ (List.getElem_mem hlt)))
      clear hbl
      generalize L[k]'hlt = x at *
      cases hc : labOk x
      · obtain rfl := HB.out hc
        rw [hc] at HN
        go_wp2_with (go_at_call 124; refine (HN.out _).mono ?_; rintro e w1 ⟨rfl, hb1⟩; obtain ⟨p1, rfl⟩ := grown_of hb1; clear hb1)
        go_ret
        exact ⟨(k : Int), by omega, by simp, rfl, below_grown HBL.out HBL.out.size _⟩
      · rw [hc] at HN
        go_wp2_with (go_at_call 124; refine (HN.out _).mono ?_; rintro e w1 ⟨rfl, hb1⟩; obtain ⟨p1, rfl⟩ := grown_of hb1; clear hb1)
        go_roundw
        case rel => exact ⟨k + 1, by omega, by go_num, below_grown HBL.out HBL.out.size _, show _ = false by rw [HS.out, hinv.out, hc]; rfl⟩
        case measure => simp [intOf]; omega
    · obtain rfl : k = L.length := by omega
      have hfin : A = false := by rw [← HEND.out]; exact hinv.out
      subst hfin
      go_wp2
      go_ret
      exact ⟨-1, by omega, by simp, rfl, HBL.out⟩
theorem containsS_any (L : List (List UInt8)) (n cap b o : Nat) (hn : n = L.length) (hl : L.length ≤ 9223372036854775807) (w : World) (hp : ∀ p ∈ L, p.length ≤ maxLen) (hb : b < w.heap.size) (hat : ListAt strCod w b o L) :
    Calls Tryz.prog 123 #[.slice (some ⟨b, o, none⟩) n cap, .func (.func 124) #[] #[]] w fun e w' => e = .returned (.bool (L.any (fun x => !labOk x))) ∧ Below w.heap.size w w' := by
  have HI := Lib.hid (indexS_any L n cap b o hn hl w hp hb hat)
  clear hn
  clear hp hb hat hl
  generalize L.any (fun x => !labOk x) = A at *
  go_enter Tryz.func123, Tryz.ntmps123
  go_wp2_with (go_at_call 136; refine (HI.out).mono ?_; intro e w1 h; obtain ⟨i, hi1, hi2, rfl, hb1⟩ := h; obtain ⟨p1, rfl⟩ := grown_of hb1; clear hb1)
  go_ret
  exact ⟨by first | exact ret_bool hi2 | rfl, (by repeat (first | exact Below.refl _ _ | assumption | refine below_grown ?_ (by first | omega | (simp [go_sem]; done) | (simp [go_sem] <;> omega)) _ | refine Below.alloc ?_ (by first | omega | (simp [go_sem]; done) | (simp [go_sem] <;> omega)) _ | refine below_bytesW ?_ (by first | omega | (simp [go_sem]; done) | (simp [go_sem] <;> omega)) _ | refine Below.drew ?_ | refine below_drewN ?_ _))⟩
end

section
open Go Go.RowKit
set_option maxRecDepth 20000
set_option linter.unusedSimpArgs false
set_option linter.unusedVariables false

theorem ListAt.setCell {α : Type} {c : Cod α} {w : World} {b o : Nat} {xs : List α} (h : ListAt c w b o xs) (a : Addr) (v : Value) (hne : b ≠ a.block) : ListAt c (w.setCell a v) b o xs := fun j u hj => by
  rw [World.cell?_of_block (a := ⟨b, o + j, none⟩) (setCell_other' w a v b hne)]; exact h j u hj
theorem v4A_c {s : List UInt8} (h : v4Ok s = true) (h4 : (splitL 46 s).length = 4) : (u8Cod.encs (v4To (splitL 46 s) 4)).toArray = addrC (v4A s) := by
  rw [v4To_all h4, addrC_encs, v4_yes h]
set_option maxHeartbeats 1000000 in
theorem v4_any (l : List UInt8) (hl : l.length ≤ 4294967280) (m : Int) (w : World) (hm : HasMax m w) :
    Calls Tryz.prog 122 #[.string ⟨l.toArray⟩] w fun e w' => e = .returned (.tuple #[.agg (addrC (v4A l)), .bool (v4Ok l)]) ∧ Below w.heap.size w w' := by
  have HC : Hid (∀ w, HasMax m w → Calls Tryz.prog 29 #[.string ⟨l.toArray⟩, .int .u8 46] w (Gives strCod (splitL 46 l) w)) := fun w hm => split_gives l 46 hl m w hm
  by_cases h4 : (splitL 46 l).length = 4
  · have h4' : (((splitL 46 l).length : Int) != 4) = false := by rw [h4]; rfl
    have HP := Lib.hid (splitL_piece_le 46 l)
    have HN := Lib.hid (splitL_ne 46 l)
    have HBAD : Hid (∀ p ∈ splitL 46 l, octOk p = false → v4Ok l = false ∧ v4A l = zeroA) := fun p hp h => ⟨v4_bad p hp h, v4_no (v4_bad p hp h)⟩
    have HALL : Hid ((splitL 46 l).all octOk = true → v4Ok l = true ∧ (u8Cod.encs (v4To (splitL 46 l) 4)).toArray = addrC (v4A l)) := fun h => ⟨v4_good h4 h, v4A_c (v4_good h4 h) h4⟩
    generalize splitL 46 l = L at *
    generalize v4Ok l = ok at *
    generalize v4A l = A at *
    go_enter Tryz.func122, Tryz.ntmps122
    go_wp2_with (go_at_call 29; refine (HC.out _ (by repeat (first | exact hm | apply HasMax.grown | apply HasMax.alloc | apply HasMax.drew))).mono ?_; intro e w1 hg; obtain ⟨b, o, cap, rfl, hcap, hb1, hlo, hhi, hat⟩ := hg.some HN.out; have HBC := Lib.hid (bel_up (w := w) (by repeat (first | exact Below.refl _ _ | assumption | refine below_grown ?_ (by first | omega | (simp [go_sem]; done) | (simp [go_sem] <;> omega)) _ | refine Below.alloc ?_ (by first | omega | (simp [go_sem]; done) | (simp [go_sem] <;> omega)) _ | refine below_bytesW ?_ (by first | omega | (simp [go_sem]; done) | (simp [go_sem] <;> omega)) _ | refine Below.drew ?_ | refine below_drewN ?_ _)) hb1); have HAT := Lib.hid hat; have HR := Lib.hid (Var.below (Var.new w _ _ rfl rfl : Var (w.alloc _) w.heap.size (u8Cod.encs (List.replicate 16 0))) hb1); clear hg hb1 hat)
    have hs0 := HBC.out.size
    have hs1 := HR.out.lt
    go_loopw [18] (fun i wr => ∃ (k : Nat), k ≤ L.length ∧ i = .int .i64 k ∧ Below w.heap.size w wr ∧ w1.heap.size < wr.heap.size ∧ ListAt strCod wr b o L ∧ Var wr w.heap.size (u8Cod.encs (List.replicate 16 0)) ∧ Var wr w1.heap.size (u8Cod.encs (v4To L k)) ∧ Hid ((L.take k).all octOk = true)) (fun i _ => L.length - (intOf i).toNat)
    case atStart => exact ⟨0, Nat.zero_le _, rfl, HBC.out.alloc (by first | omega | (simp; done) | (simp; omega)) _, by simp [go_sem], HAT.out.below ((Below.refl _ _).alloc (Nat.le_refl _) _), HR.out.alloc _, Var.new _ _ _ rfl rfl, rfl⟩
    case round =>
      obtain ⟨k, hk, rfl, hb, hsz, hat, hr, ha, hinv⟩ := hrel
      have HB := Lib.hid hb
      have HAT := Lib.hid hat
      have HR := Lib.hid hr
      have HA := Lib.hid ha
      have hl16 := v4To_length h4 (h4 ▸ hk : k ≤ 4)
      by_cases hlt : k < L.length
      · have hcell := strAt hat k hlt
        have hx := HP.out _ (List.getElem_mem hlt)
        have HE := Lib.hid (v4To_succ h4 hlt)
        have HAS := Lib.hid (all_take_oct L k hlt)
        have HBK := Lib.hid (HBAD.out _ (List.getElem_mem hlt))
        have hv : ∀ p, hasVar (grown wr p) w.heap.size 16 = true := fun p => (hr.grown p).has rfl
        clear hb hr hat
        generalize L[k]'hlt = x at *
        have HG := Lib.hid (fun w => number_any x (by omega) w)
        rcases octOk_iff x with ⟨h1, h2⟩ | ⟨h1, h3, h2⟩ | ⟨h1, h3, h5, h2⟩
        · obtain ⟨rfl, rfl⟩ := HBK.out h2
          rw [h1] at HG
          clear ha
          go_wp2_with (go_at_call 105; refine (HG.out _).mono ?_; rintro e w1 ⟨rfl, hb1⟩; obtain ⟨p1, rfl⟩ := grown_of hb1; clear hb1)
          exact ret_cell_tmp w.heap.size (addrC zeroA) (.bool false) rfl rfl rfl agg_addr (by simp [go_sem, hv]) (by simp [go_sem, hv]) rfl ⟨rfl, below_setRow (below_grown HB.out HB.out.size _) (Nat.le_refl _) _⟩
        · obtain ⟨rfl, rfl⟩ := HBK.out h2
          rw [h1] at HG
          clear ha
          go_wp2_with (go_at_call 105; refine (HG.out _).mono ?_; rintro e w1 ⟨rfl, hb1⟩; obtain ⟨p1, rfl⟩ := grown_of hb1; clear hb1)
          exact ret_cell_tmp w.heap.size (addrC zeroA) (.bool false) rfl rfl rfl agg_addr (by simp [go_sem, hv]) (by simp [go_sem, hv]) rfl ⟨rfl, below_setRow (below_grown HB.out HB.out.size _) (Nat.le_refl _) _⟩
        · rw [h1] at HG
          have hn : ¬ (255 : Int) < numV x := by omega
          have hcv := octB_int h3 h5
          have hwr : IntKind.u8.wrap (numV x) = ((octB x).toNat : Int) := by rw [hcv]; exact IntWalk.u8_in _ (by omega)
          have hc1 : ∀ p, (grown wr p).cell? ⟨w1.heap.size, 12 + k, none⟩ = some ((u8Cod.encs (v4To L k))[12 + k]'(by rw [u8Len, hl16]; omega)) := fun p => (ha.grown p).cell (12 + k) _
          have hf1 : ∀ p, (grown wr p).frozen? ⟨w1.heap.size, 12 + k, none⟩ = false := fun p => (ha.grown p).free (12 + k)
          clear ha hcv
          generalize (u8Cod.encs (v4To L k))[12 + k]'_ = v1 at *
          generalize numV x = n at *
          go_wp2_with (go_at_call 105; refine (HG.out _).mono ?_; rintro e w1 ⟨rfl, hb1⟩; obtain ⟨p1, rfl⟩ := grown_of hb1; clear hb1)
          go_roundw
          case rel =>
            refine ⟨k + 1, by omega, by go_num, (below_grown HB.out HB.out.size _).setCell (by first | omega | (simp; done) | (simp; omega)) _, by simp [go_sem]; omega, (HAT.out.below (below_grown' _ _)).setCell _ _ (by dsimp only; omega), ((HR.out.grown _).setCell_other _ _ (by dsimp only; omega)), ?_, show _ = true by rw [HAS.out, hinv.out, h2]; rfl⟩
            rw [HE.out, ← u8Set]
            exact (HA.out.grown _).setCell _ _
          case measure => simp [intOf]; omega
      · obtain rfl : k = L.length := by omega
        have hall := hinv.out
        rw [List.take_length] at hall
        obtain ⟨rfl, hA⟩ := HALL.out hall
        rw [h4] at ha
        have h1 : hasRow wr ⟨w1.heap.size, 0, none⟩ 16 = true := ha.hasRow (by rw [u8Len, v4To_length h4 (Nat.le_refl _)])
        have h2 : rowAt wr ⟨w1.heap.size, 0, none⟩ 16 = addrC A := by rw [ha.rowAt (by rw [u8Len, v4To_length h4 (Nat.le_refl _)]), hA]
        have h3 : hasVar wr w.heap.size 16 = true := hr.has rfl
        go_wp2
        exact ret_cell_tmp w.heap.size (addrC A) (.bool true) rfl rfl rfl agg_addr (by simp [go_sem, h3]) (by simp [go_sem, h3]) rfl ⟨rfl, below_setRow HB.out (Nat.le_refl _) _⟩
  · have e := v4_four h4
    have h4' : (((splitL 46 l).length : Int) != 4) = true := by simp; omega
    rw [v4_no e, e]
    generalize splitL 46 l = L at *
    clear e h4
    go_enter Tryz.func122, Tryz.ntmps122
    go_wp2_with (go_at_call 29; refine (HC.out _ (by repeat (first | exact hm | apply HasMax.grown | apply HasMax.alloc | apply HasMax.drew))).mono ?_; intro e w1 hg; obtain ⟨a1, c1, rfl, hc1, hb1, hl1⟩ := hg; obtain ⟨p1, rfl⟩ := grown_of hb1; clear hb1)
    exact ret_cell_tmp w.heap.size (addrC zeroA) (.bool false) rfl rfl rfl agg_addr (by simp [go_sem]) (by simp [go_sem]) rfl ⟨rfl, below_setRow (by repeat (first | exact Below.refl _ _ | assumption | refine below_grown ?_ (by first | omega | (simp [go_sem]; done) | (simp [go_sem] <;> omega)) _ | refine Below.alloc ?_ (by first | omega | (simp [go_sem]; done) | (simp [go_sem] <;> omega)) _ | refine below_bytesW ?_ (by first | omega | (simp [go_sem]; done) | (simp [go_sem] <;> omega)) _ | refine Below.drew ?_ | refine below_drewN ?_ _)) (Nat.le_refl _) _⟩
set_option maxHeartbeats 1000000 in
theorem refV4_any (l : List UInt8) (hl : l.length ≤ 4294967280) (w : World) :
    Calls Tryz.prog 89 #[.string ⟨l.toArray⟩] w fun e w' => e = .returned (.tuple #[.agg (addrC (v4A l)), .bool (v4Ok l)]) ∧ Below w.heap.size w w' := by
  have HC : Hid (∀ w, Calls Tryz.prog 37 #[.string ⟨l.toArray⟩, .int .u8 46] w (Gives strCod (splitL 46 l) w)) := fun w => refSplit_any l 46 hl w
  by_cases h4 : (splitL 46 l).length = 4
  · have h4' : (((splitL 46 l).length : Int) != 4) = false := by rw [h4]; rfl
    have HP := Lib.hid (splitL_piece_le 46 l)
    have HN := Lib.hid (splitL_ne 46 l)
    have HBAD : Hid (∀ p ∈ splitL 46 l, octOk p = false → v4Ok l = false ∧ v4A l = zeroA) := fun p hp h => ⟨v4_bad p hp h, v4_no (v4_bad p hp h)⟩
    have HALL : Hid ((splitL 46 l).all octOk = true → v4Ok l = true ∧ (u8Cod.encs (v4To (splitL 46 l) 4)).toArray = addrC (v4A l)) := fun h => ⟨v4_good h4 h, v4A_c (v4_good h4 h) h4⟩
    generalize splitL 46 l = L at *
    generalize v4Ok l = ok at *
    generalize v4A l = A at *
    go_enter Tryz.func89, Tryz.ntmps89
    go_wp2_with (go_at_call 37; refine (HC.out _).mono ?_; intro e w1 hg; obtain ⟨b, o, cap, rfl, hcap, hb1, hlo, hhi, hat⟩ := hg.some HN.out; have HBC := Lib.hid (bel_up (w := w) (by repeat (first | exact Below.refl _ _ | assumption | refine below_grown ?_ (by first | omega | (simp [go_sem]; done) | (simp [go_sem] <;> omega)) _ | refine Below.alloc ?_ (by first | omega | (simp [go_sem]; done) | (simp [go_sem] <;> omega)) _ | refine below_bytesW ?_ (by first | omega | (simp [go_sem]; done) | (simp [go_sem] <;> omega)) _ | refine Below.drew ?_ | refine below_drewN ?_ _)) hb1); have HAT := Lib.hid hat; have HR := Lib.hid (Var.below (Var.alloc (Var.new w _ _ rfl rfl : Var (w.alloc _) w.heap.size (u8Cod.encs (List.replicate 16 0))) _) hb1); have HA := Lib.hid (Var.below (Var.new (w.alloc _) _ _ rfl (by simp [go_sem]) : Var ((w.alloc _).alloc _) (w.heap.size + 1) (u8Cod.encs (List.replicate 16 0))) hb1); clear hg hb1 hat)
    have hs0 := HBC.out.size
    have hs1 := HA.out.lt
    have hlo2 : w.heap.size + 1 + 1 ≤ b := by have := hlo; simp [go_sem] at this; omega
    go_loopw [6, 7, 8] (fun i _ _ wr => ∃ (k : Nat), k ≤ L.length ∧ i = .int .i64 k ∧ Below w.heap.size w wr ∧ w.heap.size + 1 < wr.heap.size ∧ ListAt strCod wr b o L ∧ Var wr w.heap.size (u8Cod.encs (List.replicate 16 0)) ∧ Var wr (w.heap.size + 1) (u8Cod.encs (v4To L k)) ∧ Hid ((L.take k).all octOk = true)) (fun i _ _ _ => L.length - (intOf i).toNat)
    case atStart => exact ⟨0, Nat.zero_le _, rfl, HBC.out, hs1, HAT.out, HR.out, HA.out, rfl⟩
    case round =>
      obtain ⟨k, hk, rfl, hb, hsz, hat, hr, ha, hinv⟩ := hrel
      have HB := Lib.hid hb
      have HAT := Lib.hid hat
      have HR := Lib.hid hr
      have HA := Lib.hid ha
      have hl16 := v4To_length h4 (h4 ▸ hk : k ≤ 4)
      by_cases hlt : k < L.length
      · have hlt4 : (k : Int) < 4 := by omega
        have hcell := strAt hat k hlt
        have hx := HP.out _ (List.getElem_mem hlt)
        have HE := Lib.hid (v4To_succ h4 hlt)
        have HAS := Lib.hid (all_take_oct L k hlt)
        have HBK := Lib.hid (HBAD.out _ (List.getElem_mem hlt))
        have hv : hasVar wr w.heap.size 16 = true := hr.has rfl
        clear hb hr hat
        generalize L[k]'hlt = x at *
        have HG := Lib.hid (fun w => refNumber_any x (by omega) w)
        rcases octOk_iff x with ⟨h1, h2⟩ | ⟨h1, h3, h2⟩ | ⟨h1, h3, h5, h2⟩
        · obtain ⟨rfl, rfl⟩ := HBK.out h2
          rw [h1] at HG
          clear ha
          go_wp2_with (go_at_call 68; refine (HG.out _).mono ?_; intro e w' h; obtain ⟨rfl, h2⟩ := h; subst w')
          exact ret_cell_tmp w.heap.size (addrC zeroA) (.bool false) rfl rfl rfl agg_addr (by simp [go_sem, hv]) (by simp [go_sem, hv]) rfl ⟨rfl, below_setRow HB.out (Nat.le_refl _) _⟩
        · obtain ⟨rfl, rfl⟩ := HBK.out h2
          rw [h1] at HG
          clear ha
          go_wp2_with (go_at_call 68; refine (HG.out _).mono ?_; intro e w' h; obtain ⟨rfl, h2⟩ := h; subst w')
          exact ret_cell_tmp w.heap.size (addrC zeroA) (.bool false) rfl rfl rfl agg_addr (by simp [go_sem, hv]) (by simp [go_sem, hv]) rfl ⟨rfl, below_setRow HB.out (Nat.le_refl _) _⟩
        · rw [h1] at HG
          have hn : ¬ (255 : Int) < numV x := by omega
          have hcv := octB_int h3 h5
          have hwr : IntKind.u8.wrap (numV x) = ((octB x).toNat : Int) := by rw [hcv]; exact IntWalk.u8_in _ (by omega)
          have hc1 : wr.cell? ⟨w.heap.size + 1, 12 + k, none⟩ = some ((u8Cod.encs (v4To L k))[12 + k]'(by rw [u8Len, hl16]; omega)) := ha.cell (12 + k) _
          have hf1 : wr.frozen? ⟨w.heap.size + 1, 12 + k, none⟩ = false := ha.free (12 + k)
          clear ha hcv
          generalize (u8Cod.encs (v4To L k))[12 + k]'_ = v1 at *
          generalize numV x = n at *
          go_wp2_with (go_at_call 68; refine (HG.out _).mono ?_; intro e w' h; obtain ⟨rfl, h2⟩ := h; subst w')
          go_roundw
          case rel =>
            refine ⟨k + 1, by omega, by go_num, HB.out.setCell (by first | omega | (simp; done) | (simp; omega)) _, by simp [go_sem]; omega, HAT.out.setCell _ _ (by dsimp only; omega), HR.out.setCell_other _ _ (by dsimp only; omega), ?_, show _ = true by rw [HAS.out, hinv.out, h2]; rfl⟩
            rw [HE.out, ← u8Set]
            exact HA.out.setCell _ _
          case measure => simp [intOf]; omega
      · obtain rfl : k = L.length := by omega
        have hlt4 : ¬ (L.length : Int) < 4 := by omega
        have hall := hinv.out
        rw [List.take_length] at hall
        obtain ⟨rfl, hA⟩ := HALL.out hall
        rw [h4] at ha
        have h1 : hasRow wr ⟨w.heap.size + 1, 0, none⟩ 16 = true := ha.hasRow (by rw [u8Len, v4To_length h4 (Nat.le_refl _)])
        have h2 : rowAt wr ⟨w.heap.size + 1, 0, none⟩ 16 = addrC A := by rw [ha.rowAt (by rw [u8Len, v4To_length h4 (Nat.le_refl _)]), hA]
        have h3 : hasVar wr w.heap.size 16 = true := hr.has rfl
        go_wp2
        exact ret_cell_tmp w.heap.size (addrC A) (.bool true) rfl rfl rfl agg_addr (by simp [go_sem, h3]) (by simp [go_sem, h3]) rfl ⟨rfl, below_setRow HB.out (Nat.le_refl _) _⟩
  · have e := v4_four h4
    have h4' : (((splitL 46 l).length : Int) != 4) = true := by simp; omega
    rw [v4_no e, e]
    generalize splitL 46 l = L at *
    clear e h4
    go_enter Tryz.func89, Tryz.ntmps89
    go_wp2_with (go_at_call 37; refine (HC.out _).mono ?_; intro e w1 hg; obtain ⟨a1, c1, rfl, hc1, hb1, hl1⟩ := hg; obtain ⟨p1, rfl⟩ := grown_of hb1; clear hb1)
    exact ret_cell_tmp w.heap.size (addrC zeroA) (.bool false) rfl rfl rfl agg_addr (by simp [go_sem]) (by simp [go_sem]) rfl ⟨rfl, below_setRow (by repeat (first | exact Below.refl _ _ | assumption | refine below_grown ?_ (by first | omega | (simp [go_sem]; done) | (simp [go_sem] <;> omega)) _ | refine Below.alloc ?_ (by first | omega | (simp [go_sem]; done) | (simp [go_sem] <;> omega)) _ | refine below_bytesW ?_ (by first | omega | (simp [go_sem]; done) | (simp [go_sem] <;> omega)) _ | refine Below.drew ?_ | refine below_drewN ?_ _)) (Nat.le_refl _) _⟩
end

section
open Go Go.RowKit
set_option maxRecDepth 20000
set_option linter.unusedSimpArgs false
set_option linter.unusedVariables false

def hostV (k : Int) (n : List UInt8) (a : GAddr) : Array Value := (([.int .i64 k, .string ⟨n.toArray⟩] : List Value) ++ addrL a).toArray
theorem hostV_size (k : Int) (n : List UInt8) (a : GAddr) : (hostV k n a).size = 18 := by simp [hostV, addrL_length]
theorem hostV_one (k : Int) (n : List UInt8) (a : GAddr) : allOne (hostV k n a) = true := allOne_of (by
  intro v hv
  simp only [List.mem_append, List.mem_cons, List.not_mem_nil, or_false] at hv
  rcases hv with (rfl | rfl) | hv
  · rfl
  · rfl
  · exact addr_one a v hv)
theorem run_build_host0 (w : World) : (Instr.build 37 #[]).run Tryz.prog w = .ok (.agg (hostC zeroH)) w := by kernel_rfl
theorem run_build_hostA (k : Int) (a : GAddr) (w : World) : (Instr.build 37 #[(0, .int .i64 k), (2, .agg (addrC a))]).run Tryz.prog w = .ok (.agg (hostV k [] a)) w := by
  have : ∀ l : List Value, l.length = 16 → (Instr.build 37 #[(0, .int .i64 k), (2, .agg l.toArray)]).run Tryz.prog w = .ok (.agg (([.int .i64 k, .string ⟨([] : List UInt8).toArray⟩] : List Value) ++ l).toArray) w := by
    intro l hl
    obtain ⟨a, b, c, d, e, f, g, i, j, k, m, n, o, p, q, r, rfl⟩ := list16 l hl
    kernel_rfl
  exact this (addrL a) (addrL_length a)
theorem run_build_hostN (k : Int) (n : List UInt8) (w : World) : (Instr.build 37 #[(0, .int .i64 k), (1, .string ⟨n.toArray⟩)]).run Tryz.prog w = .ok (.agg (hostV k n zeroA)) w := by kernel_rfl
@[go_sem ↓ high] theorem run_op_build_host0 (ev : Operand → Value) (dst : Option Tmp) (ty : TypeId) (pos : String) (af : Array Edge) (g : Option (Nat × Bool)) (w : World) :
    Sem.run Tryz.prog (execOp ev { dst := dst, op := .build 37 #[], type := ty, pos := pos, after := af, guard := g }) w = .ok (.value (.agg (hostC zeroH))) w := by
  rw [run_op_build, buildRow, Sem.run_bind]
  simp [run_build_host0]
@[go_sem ↓ high] theorem run_op_build_hostA (ev : Operand → Value) (dst : Option Tmp) (x0 x2 : Operand) (ty : TypeId) (pos : String) (af : Array Edge) (g : Option (Nat × Bool)) (w : World) :
    Sem.run Tryz.prog (execOp ev { dst := dst, op := .build 37 #[(0, x0), (2, x2)], type := ty, pos := pos, after := af, guard := g }) w = buildRow Tryz.prog w 37 #[(0, ev x0), (2, ev x2)] := by
  rw [run_op_build]
  simp
@[go_sem ↓ high] theorem run_op_build_hostN (ev : Operand → Value) (dst : Option Tmp) (x0 x2 : Operand) (ty : TypeId) (pos : String) (af : Array Edge) (g : Option (Nat × Bool)) (w : World) :
    Sem.run Tryz.prog (execOp ev { dst := dst, op := .build 37 #[(0, x0), (1, x2)], type := ty, pos := pos, after := af, guard := g }) w = buildRow Tryz.prog w 37 #[(0, ev x0), (1, ev x2)] := by
  rw [run_op_build]
  simp
@[go_sem] theorem buildHost2_at (a : GAddr) (w : World) : buildRow Tryz.prog w 37 #[(0, .int .i64 2), (2, .agg (addrC a))] = .ok (.value (.agg (hostC (v4H a)))) w := by
  rw [buildRow, Sem.run_bind, run_build_hostA]; rfl
@[go_sem] theorem buildHost3_at (a : GAddr) (w : World) : buildRow Tryz.prog w 37 #[(0, .int .i64 3), (2, .agg (addrC a))] = .ok (.value (.agg (hostC (v6H a)))) w := by
  rw [buildRow, Sem.run_bind, run_build_hostA]; rfl
/-- The cells of a name. -/
def nameV (n : List UInt8) : Array Value := hostV 1 n zeroA
@[go_sem] theorem nameV_size (n : List UInt8) : (nameV n).size = 18 := hostV_size _ _ _
@[go_sem] theorem nameV_one (n : List UInt8) : allOne (nameV n) = true := hostV_one _ _ _
theorem nameV_eq {n : List UInt8} (h : n.length ≤ 253) : nameV n = hostC (nameH n) := by rw [nameH_eq h]; rfl
@[go_sem] theorem buildName_at (n : List UInt8) (w : World) : buildRow Tryz.prog w 37 #[(0, .int .i64 1), (1, .string ⟨n.toArray⟩)] = .ok (.value (.agg (nameV n))) w := by
  rw [buildRow, Sem.run_bind, run_build_hostN]; rfl
theorem cutPre_any (l p : List UInt8) (w : World) : Calls Tryz.prog 117 #[.string ⟨l.toArray⟩, .string ⟨p.toArray⟩] w fun e w' => e = .returned (.tuple #[.string ⟨(Lib.trimPrefix l p).toArray⟩, .bool (Lib.hasPrefix l p)]) ∧ w = w' :=
  (Tryz.strings_CutPrefix ⟨l.toArray⟩ ⟨p.toArray⟩ w).mono fun e w' ⟨h1, h2⟩ => ⟨by simpa using h1, h2.symm⟩
theorem cutSuf_any (l p : List UInt8) (hl : l.length ≤ 9223372036854775807) (w : World) : Calls Tryz.prog 118 #[.string ⟨l.toArray⟩, .string ⟨p.toArray⟩] w fun e w' => e = .returned (.tuple #[.string ⟨(Lib.trimSuffix l p).toArray⟩, .bool (Lib.hasSuffix l p)]) ∧ w = w' :=
  (Tryz.strings_CutSuffix ⟨l.toArray⟩ ⟨p.toArray⟩ w (by simpa [ByteArray.size] using hl)).mono fun e w' ⟨h1, h2⟩ => ⟨by simpa using h1, h2.symm⟩
theorem in1_length (s : List UInt8) : (in1 s).length ≤ s.length := by
  unfold in1 Lib.trimPrefix
  split
  · simp
  · exact Nat.le_refl _
theorem in6_length (s : List UInt8) : (in6 s).length ≤ s.length := by
  have := in1_length s
  unfold in6 Lib.trimSuffix
  split
  · simp; omega
  · exact this
theorem address2_any (a : GAddr) (ok : Bool) (w : World) :
    Calls Tryz.prog 120 #[.int .i64 2, .agg (addrC a), .bool ok] w fun e w' => e = .returned (.tuple #[.agg (hostC (addrOk 2 a ok)), .int .i64 (errOf ok)]) ∧ Below w.heap.size w w' := by
  cases ok
  · go_enter Tryz.func120, Tryz.ntmps120
    go_wp2
    exact ret_cell_tmp (w.heap.size + 1) (hostC zeroH) (.int .i64 31) rfl rfl rfl agg_host (by simp [go_sem]) (by simp [go_sem]) rfl ⟨rfl, (by repeat (first | exact Below.refl _ _ | assumption | refine below_grown ?_ (by first | omega | (simp [go_sem]; done) | (simp [go_sem] <;> omega)) _ | refine Below.alloc ?_ (by first | omega | (simp [go_sem]; done) | (simp [go_sem] <;> omega)) _ | refine below_bytesW ?_ (by first | omega | (simp [go_sem]; done) | (simp [go_sem] <;> omega)) _ | refine Below.drew ?_ | refine below_drewN ?_ _))⟩
  · go_enter Tryz.func120, Tryz.ntmps120
    go_wp2
    exact ret_cell_tmp (w.heap.size + 1) (hostC (v4H a)) (.int .i64 0) rfl rfl rfl agg_host (by simp [go_sem]) (by simp [go_sem]) rfl ⟨rfl, (by repeat (first | exact Below.refl _ _ | assumption | refine below_grown ?_ (by first | omega | (simp [go_sem]; done) | (simp [go_sem] <;> omega)) _ | refine Below.alloc ?_ (by first | omega | (simp [go_sem]; done) | (simp [go_sem] <;> omega)) _ | refine below_bytesW ?_ (by first | omega | (simp [go_sem]; done) | (simp [go_sem] <;> omega)) _ | refine Below.drew ?_ | refine below_drewN ?_ _))⟩
theorem address3_any (a : GAddr) (ok : Bool) (w : World) :
    Calls Tryz.prog 120 #[.int .i64 3, .agg (addrC a), .bool ok] w fun e w' => e = .returned (.tuple #[.agg (hostC (addrOk 3 a ok)), .int .i64 (errOf ok)]) ∧ Below w.heap.size w w' := by
  cases ok
  · go_enter Tryz.func120, Tryz.ntmps120
    go_wp2
    exact ret_cell_tmp (w.heap.size + 1) (hostC zeroH) (.int .i64 31) rfl rfl rfl agg_host (by simp [go_sem]) (by simp [go_sem]) rfl ⟨rfl, (by repeat (first | exact Below.refl _ _ | assumption | refine below_grown ?_ (by first | omega | (simp [go_sem]; done) | (simp [go_sem] <;> omega)) _ | refine Below.alloc ?_ (by first | omega | (simp [go_sem]; done) | (simp [go_sem] <;> omega)) _ | refine below_bytesW ?_ (by first | omega | (simp [go_sem]; done) | (simp [go_sem] <;> omega)) _ | refine Below.drew ?_ | refine below_drewN ?_ _))⟩
  · go_enter Tryz.func120, Tryz.ntmps120
    go_wp2
    exact ret_cell_tmp (w.heap.size + 1) (hostC (v6H a)) (.int .i64 0) rfl rfl rfl agg_host (by simp [go_sem]) (by simp [go_sem]) rfl ⟨rfl, (by repeat (first | exact Below.refl _ _ | assumption | refine below_grown ?_ (by first | omega | (simp [go_sem]; done) | (simp [go_sem] <;> omega)) _ | refine Below.alloc ?_ (by first | omega | (simp [go_sem]; done) | (simp [go_sem] <;> omega)) _ | refine below_bytesW ?_ (by first | omega | (simp [go_sem]; done) | (simp [go_sem] <;> omega)) _ | refine Below.drew ?_ | refine below_drewN ?_ _))⟩
end
end Go.Proofs.YtnkckejbkbbdlaaGreatDoor
