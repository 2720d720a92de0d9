/- The shelf's New, at, Get, Len, Count walked. -/
import Derived.Test.YtaondmaebgicgaaShP
import Derived.Carry
import Derived.Deep.DeepCutAuto
namespace Go.Proofs.Ytaondmaebgicgaa
open Go Go.RowKit
set_option maxRecDepth 20000
set_option linter.unusedSimpArgs false
set_option linter.unusedVariables false

/-! ### built -/
@[go_sem] theorem keptV_pop (k : GKept) : (keptV k).pop = cookieC k.1 := by
  unfold keptV keptR cookieC
  rw [List.pop_toArray, List.dropLast_concat]
@[go_sem] theorem keptV_cookie (k : GKept) : (keptV k).extract 0 29 = cookieC k.1 := by
  have := keptV_pop k
  rw [← this]
  apply Array.ext' 
  simp [keptV_size, List.dropLast_eq_take, List.extract_eq_take_drop]
@[go_sem] theorem keptV_site (k : GKept) : (keptV k)[29]? = some (.string ⟨k.2.toArray⟩) := by
  unfold keptV keptR
  rw [List.getElem?_toArray, List.getElem?_append_right (by rw [cookieL_length]; decide), cookieL_length]
  rfl
@[go_sem] theorem keptV_all (k : GKept) : (keptV k).extract 0 30 = keptV k := by
  have := keptV_size k
  rw [← this]; simp
theorem list18s {α : Type} (l : List α) (h : l.length = 18) : ∃ a b c d e f g i j k m n o p q r s t, l = [a, b, c, d, e, f, g, i, j, k, m, n, o, p, q, r, s, t] := by
  match l, h with
  | [a, b, c, d, e, f, g, i, j, k, m, n, o, p, q, r, s, t], _ => exact ⟨a, b, c, d, e, f, g, i, j, k, m, n, o, p, q, r, s, t, rfl⟩
theorem run_build_place (c : GCookie) (w : World) :
    (Instr.build 62 #[(0, .string ⟨c.name.toArray⟩), (1, .agg (hostC c.host)), (2, .bool c.only), (3, .string ⟨c.path.toArray⟩)]).run Try.prog w = .ok (.agg (placeV c)) w := by
  have : ∀ l : List Value, l.length = 18 → (Instr.build 62 #[(0, .string ⟨c.name.toArray⟩), (1, .agg l.toArray), (2, .bool c.only), (3, .string ⟨c.path.toArray⟩)]).run Try.prog w = .ok (.agg (([.string ⟨c.name.toArray⟩] ++ (l ++ [.bool c.only, .string ⟨c.path.toArray⟩]) : List Value)).toArray) w := by
    intro l hl
    obtain ⟨a, b, c', d, e, f, g, i, j, k, m, n, o, p, q, r, s, t, rfl⟩ := list18s l hl
    kernel_rfl
  exact this (hostL c.host) (hostL_length c.host)
@[go_sem ↓ high] theorem run_op_build_place (ev : Operand → Value) (dst : Option Tmp) (x0 x1 x2 x3 : Operand) (ty : TypeId) (pos : String) (af : Array Edge) (g : Option (Nat × Bool)) (w : World) :
    Sem.run Try.prog (execOp ev { dst := dst, op := .build 62 #[(0, x0), (1, x1), (2, x2), (3, x3)], type := ty, pos := pos, after := af, guard := g }) w = buildRow Try.prog w 62 #[(0, ev x0), (1, ev x1), (2, ev x2), (3, ev x3)] := by
  rw [run_op_build]
  simp
@[go_sem] theorem buildPlace_at (c : GCookie) (w : World) : buildRow Try.prog w 62 #[(0, .string ⟨c.name.toArray⟩), (1, .agg (hostC c.host)), (2, .bool c.only), (3, .string ⟨c.path.toArray⟩)] = .ok (.value (.agg (placeV c))) w := by
  rw [buildRow, Sem.run_bind, run_build_place]
  rfl
theorem at_any (c : GCookie) (w : World) :
    Calls Try.prog 20 #[.agg (cookieC c)] w fun e w' => e = .returned (.agg (placeV c)) ∧ Below w.heap.size w w' := by
  go_enter Try.func20, Try.ntmps20
  go_wp2
  exact ret_cell (w.heap.size + 1) (placeV c) rfl rfl agg_place (by simp [go_sem]) (by simp [go_sem]) rfl ⟨rfl, by first | exact below_setRow (by repeat (first | exact Below.refl _ _ | assumption | refine below_grown ?_ (by first | omega | (simp [go_sem]; done) | (simp [go_sem] <;> omega)) _ | refine Below.alloc ?_ (by first | omega | (simp [go_sem]; done) | (simp [go_sem] <;> omega)) _ | refine below_bytesW ?_ (by first | omega | (simp [go_sem]; done) | (simp [go_sem] <;> omega)) _ | refine Below.drew ?_ | refine below_drewN ?_ _)) (by omega) _ | exact (by repeat (first | exact Below.refl _ _ | assumption | refine below_grown ?_ (by first | omega | (simp [go_sem]; done) | (simp [go_sem] <;> omega)) _ | refine Below.alloc ?_ (by first | omega | (simp [go_sem]; done) | (simp [go_sem] <;> omega)) _ | refine below_bytesW ?_ (by first | omega | (simp [go_sem]; done) | (simp [go_sem] <;> omega)) _ | refine Below.drew ?_ | refine below_drewN ?_ _))⟩
/-- What 'New' hands back: a shelf without cookies. -/
theorem shNew_any (w : World) :
    Calls Try.prog 8 #[] w fun e w' => ∃ bs ba bi, e = .returned (.pointer (some ⟨bs, 0, none⟩)) ∧ ShR w' bs ba bi [] 0 0 ∧ Below w.heap.size w w' ∧ w.heap.size ≤ bs ∧ w.heap.size ≤ ba ∧ w.heap.size ≤ bi := by
  have hmm := @run_makeMap Try.prog
  obtain ⟨POST, hpost⟩ : ∃ POST : Ending → World → Prop, (fun e w' => ∃ bs ba bi, e = Ending.returned (.pointer (some ⟨bs, 0, none⟩)) ∧ ShR w' bs ba bi [] 0 0 ∧ Below w.heap.size w w' ∧ w.heap.size ≤ bs ∧ w.heap.size ≤ ba ∧ w.heap.size ≤ bi) = POST := ⟨_, rfl⟩
  rw [hpost]
  have HPOST := Lib.hid hpost
  clear hpost
  go_enter Try.func8, Try.ntmps8
  go_wp2
  rw [← HPOST.out]
  have h1 : MapF Try.prog 62 (w.alloc (.map #[] 0)) w.heap.size (allF []) 0 := MapF.made w
  have h2 : MapF Try.prog 9 ((w.alloc (.map #[] 0)).alloc (.map #[] 0)) (w.heap.size + 1) (sitesF []) 0 := by
    have := MapF.made (P := Try.prog) (K := 9) (w.alloc (.map #[] 0))
    rw [World.size_alloc] at this
    have e : sitesF [] = fun _ => none := by
      funext kl
      cases kl <;> rfl
    rw [e]
    exact this
  have hb1 := (Below.refl (w.alloc (.map #[] 0)).heap.size (w.alloc (.map #[] 0))).alloc (Nat.le_refl _) (.map #[] 0)
  have hb2 := (Below.refl ((w.alloc (.map #[] 0)).alloc (.map #[] 0)).heap.size ((w.alloc (.map #[] 0)).alloc (.map #[] 0))).alloc (Nat.le_refl _) (Obj.cells #[Value.map (some w.heap.size), Value.map (some (w.heap.size + 1)), Value.int IntKind.i64 0] 57)
  refine ⟨w.heap.size + 1 + 1, w.heap.size, w.heap.size + 1, rfl, ⟨Var.new _ _ _ rfl (by simp), ?_, ⟨0, Nat.zero_le _, h2.old (hb2.block _ (by simp))⟩, by omega, by omega, by omega⟩, (by repeat (first | exact Below.refl _ _ | assumption | refine below_grown ?_ (by first | omega | (simp [go_sem]; done) | (simp [go_sem] <;> omega)) _ | refine Below.alloc ?_ (by first | omega | (simp [go_sem]; done) | (simp [go_sem] <;> omega)) _ | refine below_bytesW ?_ (by first | omega | (simp [go_sem]; done) | (simp [go_sem] <;> omega)) _ | refine Below.drew ?_ | refine below_drewN ?_ _)), by omega, by omega, by omega⟩
  exact (h1.old (hb1.block _ (by simp))).old (hb2.block _ (by simp; omega))
theorem shLen_any (W : List GKept) (last B bs ba bi : Nat) (w : World) (h : ShR w bs ba bi W last B) :
    Calls Try.prog 14 #[.pointer (some ⟨bs, 0, none⟩)] w fun e w' => e = .returned (.int .i64 (W.length : Int)) ∧ Below w.heap.size w w' := by
  have h0 : w.cell? ⟨bs, 0, none⟩ = some (.map (some ba)) := h.1.cell 0 (by simp)
  have hl : ∀ ty, (Builtin.len_ #[54] ty #[.map (some ba)]).run Try.prog w = .ok (.int .i64 (W.length : Int)) w := fun ty => h.2.1.len allTy
  go_enter Try.func14, Try.ntmps14
  go_wp2_with (at_len; refine wpList_plain rfl fun K' hK' => ?_; unfold Oper.wp; simp [execOp, resolve, invoke, builtin, hl, Result.andThen]; refine hK' _ _ ?_)
  go_ret
  exact ⟨rfl, (by repeat (first | exact Below.refl _ _ | assumption | refine below_grown ?_ (by first | omega | (simp [go_sem]; done) | (simp [go_sem] <;> omega)) _ | refine Below.alloc ?_ (by first | omega | (simp [go_sem]; done) | (simp [go_sem] <;> omega)) _ | refine below_bytesW ?_ (by first | omega | (simp [go_sem]; done) | (simp [go_sem] <;> omega)) _ | refine Below.drew ?_ | refine below_drewN ?_ _))⟩
theorem shCount_any (W : List GKept) (last B bs ba bi : Nat) (s : List UInt8) (hs : s.length ≤ maxLen) (w : World) (h : ShR w bs ba bi W last B) :
    Calls Try.prog 16 #[.pointer (some ⟨bs, 0, none⟩), .string ⟨s.toArray⟩] w fun e w' => e = .returned (.int .i64 (countW W s : Nat)) ∧ Below w.heap.size w w' := by
  have h1 : w.cell? ⟨bs, 1, none⟩ = some (.map (some bi)) := h.1.cell 1 (by simp)
  have hl := h.count s hs
  go_enter Try.func16, Try.ntmps16
  go_wp2
  go_ret
  exact ⟨rfl, (by repeat (first | exact Below.refl _ _ | assumption | refine below_grown ?_ (by first | omega | (simp [go_sem]; done) | (simp [go_sem] <;> omega)) _ | refine Below.alloc ?_ (by first | omega | (simp [go_sem]; done) | (simp [go_sem] <;> omega)) _ | refine below_bytesW ?_ (by first | omega | (simp [go_sem]; done) | (simp [go_sem] <;> omega)) _ | refine Below.drew ?_ | refine below_drewN ?_ _))⟩
set_option maxHeartbeats 4000000 in
theorem shGet_any (W : List GKept) (last B bs ba bi : Nat) (c : GCookie) (w : World) (h : ShR w bs ba bi W last B) :
    Calls Try.prog 11 #[.pointer (some ⟨bs, 0, none⟩), .agg (cookieC c)] w fun e w' => e = .returned (.tuple #[.agg (cookieC ((findW W c).getD zeroKt).1), .bool (findW W c).isSome]) ∧ Below w.heap.size w w' := by
  obtain ⟨es, ck, hmb, hlks⟩ := h.looks
  have hlk := fun W' => hlks c W'
  have hba : isOld ba w = true := isOld_iff.2 h.2.1.lt
  clear hlks
  have h0 : w.cell? ⟨bs, 0, none⟩ = some (.map (some ba)) := h.1.cell 0 (by simp)
  have hbs : isOld bs w = true := isOld_iff.2 h.1.lt
  generalize (findW W c).isSome = there at *
  generalize (findW W c).getD zeroKt = k at *
  clear h
  have HAT := Lib.hid (fun w => at_any c w)
  go_enter Try.func11, Try.ntmps11
  go_upto_region 1 with fail
  go_region_law (first | (go_simp; (with_reducible refine (HAT.out _).mono ?_); intro e w2 he; obtain ⟨rfl, hb2⟩ := he; obtain ⟨p2, rfl⟩ := grown_of hb2; clear hb2; dsimp only))
  all_goals
    go_wp2
    refine ret_cell_tmp (w.heap.size + 1) (cookieC k.1) (.bool there) rfl rfl rfl agg_cookie (by simp [go_sem]) (by simp [go_sem]) rfl ⟨rfl, ?_⟩
    have e1 : w.heap.size ≤ w.heap.size + 1 := by omega
    have e2 : w.heap.size ≤ w.heap.size + 1 + 1 := by omega
    refine below_setRow ?_ e1 _
    try refine below_setRow ?_ e2 _
    exact (by repeat (first | exact Below.refl _ _ | assumption | refine below_grown ?_ (by first | omega | (simp [go_sem]; done) | (simp [go_sem] <;> omega)) _ | refine Below.alloc ?_ (by first | omega | (simp [go_sem]; done) | (simp [go_sem] <;> omega)) _ | refine below_bytesW ?_ (by first | omega | (simp [go_sem]; done) | (simp [go_sem] <;> omega)) _ | refine Below.drew ?_ | refine below_drewN ?_ _))
end Go.Proofs.Ytaondmaebgicgaa
