/- Merged: TplBk, TplRg, TplB, MapF. -/
import Derived.Test.YtnkckejbkbbdlaaGreatDoorTmH
import Derived.RangeFuncNested
import Derived.RangeFuncLeaves
import Derived.RangeFuncBox
import Derived.Shelf.Abstract
import Derived.WalkKit
import Derived.OwnWalkIn
import Derived.TacticsInMore
import Derived.RegionIn
import Derived.LoopNIn
import Derived.LoopIn
import Derived.Shelf.AbstractIn
import Derived.StillTailTactics
import Derived.OrdersIn
import Derived.Shelf.Strings.BuilderK
import Derived.Maps.RangeWalk
import Derived.Maps.OwnSet
namespace Go.Proofs.YtnkckejbkbbdlaaGreatDoor
section
open Go Go.RowKit Go.Shelf
set_option maxRecDepth 20000
set_option linter.unusedSimpArgs false
set_option linter.unusedVariables false
@[go_sem] theorem semAt_go (l : Nat) (ρ : Operand → Value) (o : Oper) (h : ∀ c, o.op ≠ .defer c) : Oper.semAt (some l) ρ o = execOp ρ o := Oper.semAt_some l ρ o h

def bkAt (us : List Nat) (k : Nat) : Nat × Nat := (us.length - 1 - k, us.getD (us.length - 1 - k) 0)
def bkTake (us : List Nat) (k : Nat) : List (Nat × Nat) := (List.range k).map (bkAt us)
theorem bkTake_succ (us : List Nat) (k : Nat) : bkTake us (k + 1) = bkTake us k ++ [bkAt us k] := by simp [bkTake, List.range_succ]
/-- What the iterator wants of a round: its variable and the slice stand as they stood. -/
def KpBk (bx gu : Nat) (W W' : World) : Prop := W'.heap[bx]? = W.heap[bx]? ∧ W'.heap[gu]? = W.heap[gu]?
theorem KpBk.trans {bx gu : Nat} {A B C : World} (h : KpBk bx gu A B) (h' : KpBk bx gu B C) : KpBk bx gu A C := ⟨h'.1.trans h.1, h'.2.trans h.2⟩
theorem KpBk.putObj {bx gu n : Nat} (hb : bx < n) (hg : gu < n) (W : World) (l : Nat) (o o' : Obj) (hl : n ≤ l) (_ : W.heap[l]? = some o) (_ : o.isCells = false) (_ : o.isWalk = false) : KpBk bx gu W (W.putObj l o') :=
  ⟨World.putObj_heap_other (by omega), World.putObj_heap_other (by omega)⟩
set_option maxRecDepth 100000 in
set_option maxHeartbeats 2000000 in
theorem bk1_in (us : List Nat) (au : Option Addr) (gu ou cap bx : Nat) (F : Fence) (n : Nat) (hf : F.fn 50) (hro : F.round = none) (hn : 1 ≤ n) (hus : us.length ≤ 300000) (l : Nat) (J Jx : List (Nat × Nat) → World → Prop) (w : World)
    (hJ : AbidesFrom w.heap.size J)
    (hY : ∀ pre (x : Nat × Nat) w1, x.2 ∈ us → J pre w1 → pre.length < us.length → YieldAt F (n - 1) Tryz.prog l #[.int .i64 ((x.1 : Nat) : Int), .int .i64 ((x.2 : Nat) : Int)] w1 fun e w' =>
      (e = .returned (.bool true) ∧ J (pre ++ [x]) w' ∧ KpBk bx gu w1 w') ∨ (e = .returned (.bool false) ∧ Jx (pre ++ [x]) w'))
    (hbx : bx < w.heap.size) (hgu : gu < w.heap.size) (hc : w.cell? ⟨bx, 0, none⟩ = some (.slice au us.length cap)) (hat : us = [] ∨ (au = some ⟨gu, ou, none⟩ ∧ ListAt natCod w gu ou us)) (h0 : J [] w) :
    CallsIn F n Tryz.prog 50 #[.func (.yield l) #[] #[], .pointer (some ⟨bx, 0, none⟩)] w fun e w' => (∃ v, e = .returned v) ∧
      ((∃ ps, ps = bkTake us us.length ∧ J ps w') ∨ (∃ pre, True ∧ Jx pre w')) := by
  have HAT := Lib.hid hat
  have HC := Lib.hid hc
  have HJA := Lib.hid hJ
  clear hat hJ
  refine callsIn_of_wp Tryz.func50 rfl hf ?_ hro
  simp only [Tryz.ntmps50, List.size_toArray, List.length_cons, List.length_nil, Nat.reduceAdd, Nat.reduceSub, Array.replicate_succ, Array.replicate_zero, List.push_toArray, List.append_toArray, List.nil_append, List.cons_append]
  have hw1 : IntKind.i64.wrap ((us.length : Int) - 1) = (us.length : Int) - 1 := IntWalk.i64_in _ (by omega)
  gi_wp2
  gi_loopw [3] (fun i wr => ∃ k : Nat, k ≤ us.length ∧ i = .int .i64 ((us.length : Int) - 1 - (k : Int)) ∧ J (bkTake us k) wr ∧ KpBk bx gu w wr) (fun i _ => (intOf i + 1).toNat)
  case atStart => exact ⟨0, Nat.zero_le _, by simp, h0, rfl, rfl⟩
  case round =>
    obtain ⟨k, hk, rfl, hJs, hkp⟩ := hrel
    have HJ := Lib.hid hJs
    have HKP := Lib.hid hkp
    clear hJs hkp
    have hcr : wr.cell? ⟨bx, 0, none⟩ = some (.slice au us.length cap) := by rw [World.cell?_of_block (a := ⟨bx, 0, none⟩) HKP.out.1]; exact HC.out
    by_cases hlt : k < us.length
    · have hi : us.length - 1 - k < us.length := by omega
      obtain ⟨rfl, hat1⟩ := HAT.out.resolve_left (fun h => by subst h; exact absurd hlt (Nat.not_lt_zero _))
      have hcu0 := natAt hat1 (us.length - 1 - k) hi
      have hcu : wr.cell? ⟨gu, ou + (us.length - 1 - k), none⟩ = some (.int .i64 ((us[us.length - 1 - k]'hi : Nat) : Int)) := by rw [World.cell?_of_block (a := ⟨gu, _, none⟩) HKP.out.2]; exact hcu0
      have hat2 : bkAt us k = (us.length - 1 - k, us[us.length - 1 - k]'hi) := by unfold bkAt; rw [List.getD_eq_getElem?_getD, List.getElem?_eq_getElem hi]; rfl
      have hS := bkTake_succ us k
      rw [hat2] at hS
      obtain ⟨j, hj⟩ : ∃ j : Nat, us.length - 1 - k = j := ⟨_, rfl⟩
      have hjI : (us.length : Int) - 1 - (k : Int) = (j : Int) := by omega
      have hj0 : (0 : Int) ≤ (j : Int) := by omega
      have hj1 : (j : Int) < (us.length : Int) := by omega
      have hjw : IntKind.i64.wrap ((j : Int) - 1) = (j : Int) - 1 := IntWalk.i64_in _ (by omega)
      obtain ⟨u, hu⟩ : ∃ u : Nat, us[us.length - 1 - k]'hi = u := ⟨_, rfl⟩
      rw [hu, hj] at hcu
      rw [hu, hj] at hS
      have HS := Lib.hid hS
      obtain ⟨fn, tmps, assign, body, hy, hR⟩ := hY (bkTake us k) (j, u) wr (by show u ∈ us; rw [← hu]; exact List.getElem_mem hi) HJ.out (by simp [bkTake]; omega)
      dsimp only at hy
      clear hat2 hS hu hcu0 hat1
      rw [hjI]
      gi_wp2
      refine hR.mono ?_
      rintro e W3 (⟨rfl, hJ9, hk3⟩ | ⟨rfl, hJx3⟩)
      · gi_wp2
        go_roundw
        case rel => exact ⟨k + 1, by omega, by congr 1; omega, by rw [HS.out]; exact hJ9, HKP.out.trans hk3⟩
        case measure => first | (simp [intOf]; done) | (simp [intOf]; omega)
      · gi_wp2
        refine bodyPost_ret (results_none rfl _ _ _) rfl ?_
        exact ⟨⟨_, rfl⟩, .inr ⟨bkTake us k ++ [(j, u)], trivial, hJx3⟩⟩
    · obtain rfl : k = us.length := by omega
      have hneg : ¬ (0 : Int) ≤ (us.length : Int) - 1 - (us.length : Int) := by omega
      gi_wp2
      go_end0
      first | exact ⟨⟨_, rfl⟩, .inl HJ.out⟩ | exact ⟨⟨_, rfl⟩, .inl ⟨_, rfl, HJ.out⟩⟩
abbrev BkX (us : List Nat) := { x : Nat × Nat // x.2 ∈ us }
theorem bk_stops (us : List Nat) (au : Option Addr) (gu ou cap bx n : Nat) (hn : 1 ≤ n) (hus : us.length ≤ 300000) (w : World) (hbx : bx < w.heap.size) (hgu : gu < w.heap.size) (hc : w.cell? ⟨bx, 0, none⟩ = some (.slice au us.length cap)) (hat : us = [] ∨ (au = some ⟨gu, ou, none⟩ ∧ ListAt natCod w gu ou us)) :
    SeqStopsK Fence.wide n Tryz.prog 50 #[.pointer (some ⟨bx, 0, none⟩)] (fun x : BkX us => #[.int .i64 ((x.1.1 : Nat) : Int), .int .i64 ((x.1.2 : Nat) : Int)]) (KpBk bx gu) (fun xs => xs.map (·.1) = bkTake us us.length) (fun _ => True) us.length w := fun l J Jx W hW hJ hJx hY h0 => by
  have := bk1_in us au gu ou cap bx Fence.wide n trivial rfl hn hus l (fun p W => ∃ p' : List (BkX us), p'.map (·.1) = p ∧ J p' W) (fun p W => ∃ p' : List (BkX us), p'.map (·.1) = p ∧ Jx p' W) W
    (fun s A B row hs hg hr => by obtain ⟨p', h1, h2⟩ := hs; exact ⟨p', h1, hJ p' A B row h2 hg hr⟩)
    (fun pre x w1 hx hp hl => by
      obtain ⟨p', h1, h2⟩ := hp
      obtain ⟨fn, tmps, assign, body, hy, hR⟩ := hY p' ⟨x, hx⟩ w1 h2 (by rw [← h1, List.length_map] at hl; exact hl)
      refine ⟨fn, tmps, assign, body, hy, hR.mono ?_⟩
      rintro e W3 (⟨rfl, hJ9, hk3⟩ | ⟨rfl, hJx3⟩)
      · exact .inl ⟨rfl, ⟨p' ++ [⟨x, hx⟩], by simp [h1], hJ9⟩, hk3⟩
      · exact .inr ⟨rfl, ⟨p' ++ [⟨x, hx⟩], by simp [h1], hJx3⟩⟩)
    (Nat.lt_of_lt_of_le hbx hW.size) (Nat.lt_of_lt_of_le hgu hW.size) ((hW.cell (p := ⟨bx, 0, none⟩) hbx).trans hc) (hat.imp id (fun h => ⟨h.1, h.2.below hW⟩)) ⟨[], rfl, h0⟩
  refine this.mono ?_
  rintro e W' ⟨hv, ⟨ps, rfl, p', h1, h2⟩ | ⟨pre, _, p', h1, h2⟩⟩
  · exact ⟨hv, .inl ⟨p', h1, h2⟩⟩
  · exact ⟨hv, .inr ⟨p', trivial, h2⟩⟩
theorem bkTake_rev (us : List Nat) : (bkTake us us.length).map (·.2) = us.reverse := by
  apply List.ext_getElem (by simp [bkTake])
  intro i h1 h2
  simp [bkTake] at h1
  simp only [bkTake, bkAt, List.getElem_map, List.getElem_range, List.getElem_reverse]
  rw [List.getD_eq_getElem?_getD, List.getElem?_eq_getElem (by omega)]; rfl
theorem bk_any (a : Option Addr) (n cap : Nat) (w : World) :
    Calls Tryz.prog 26 #[.slice a n cap] w fun e w' => e = .returned (.func (.func 50) #[] #[.pointer (some ⟨w.heap.size, 0, none⟩)]) ∧ w' = w.alloc (.cells #[.slice a n cap] 63) := by
  have hmf : ∀ (fn : Fn) (first cap : Array Value) (w : World), (Instr.makeFunc fn first cap).run Tryz.prog w = .ok (.func fn first cap) w := fun _ _ _ _ => rfl
  go_enter Tryz.func26, Tryz.ntmps26
  go_wp2
  go_ret
  exact ⟨rfl, rfl⟩
end

section
open Go Go.RowKit Go.Shelf
set_option linter.unusedSimpArgs false
set_option linter.unusedVariables false

def NormQ (Q : Exit → Act → World → Prop) : Exit → Act → World → Prop
  | .normal, a, w => Q .normal a w
  | _, _, _ => False
theorem normQ_shut (Q : Exit → Act → World → Prop) : ¬ LetsOut (NormQ Q) := fun ⟨_, _, h⟩ => h
def calmB (l : List Oper) : Bool := l.all fun o => match o.op with
  | .defer _ => false
  | _ => true
theorem calm_at {l : List Oper} (h : calmB l = true) {i : Nat} {o : Oper} (ho : l.toArray[i]? = some o) : ∀ c, o.op ≠ .defer c := fun c e => by
  have hm : o ∈ l := by
    rw [List.getElem?_toArray] at ho
    exact List.mem_of_getElem? ho
  have := List.all_eq_true.1 h o hm
  rw [e] at this
  cases this
theorem opIn_of_wp {P : Program} {l0 n : Nat} {o : Oper} {a : Act} {w : World} {K : Act → World → Prop} {Q Q' : Exit → Act → World → Prop} (hd : ∀ c, o.op ≠ .defer c) (hQ : ∀ e a w, Q e a w → Q' e a w) (hlo : ¬ LetsOut Q) (h : o.wp P a w K Q) : o.wpIn (Fence.wide.inRound l0) n P a w K Q' := by
  unfold Oper.wp at h
  refine ⟨fun _ _ => trivial, ?_⟩
  have e : o.semAt (Fence.wide.inRound l0).round a.eval = execOp a.eval o := Oper.semAt_some l0 a.eval o hd
  rw [e]
  generalize (execOp a.eval o).run P w = r at *
  cases r with
  | ok x w' =>
    cases x <;> simp only [Oper.upon, Oper.uponIn] at h ⊢ <;>
      first
        | exact h
        | exact ⟨fun hh => by simp [Fence.wide] at hh, CallsIn.inRound l0 (callsIn_wide.2 (h.mono fun e w'' he => by cases e <;> first | exact he | exact hQ _ _ _ he | exact absurd he hlo))⟩
        | exact ⟨fun hh => by simp [Fence.wide] at hh, fun c cs _ => let ⟨v, w', r, s⟩ := h c cs; ⟨v, w', r, stepsIn_wide.2 s⟩⟩
  | halt x w' =>
    cases x <;> simp only [Oper.upon, Oper.uponIn] at h ⊢ <;> first | exact hQ _ _ _ h | exact h
theorem anyIn_of_any {P : Program} {l0 n : Nat} {md : Region.Mode} {l : List Oper} {Q Q' : Exit → Act → World → Prop} (hd : calmB l = true) (hQ : ∀ e a w, Q e a w → Q' e a w) (hlo : ¬ LetsOut Q) : ∀ (fuel : Nat) (listed : Array Bool) (a : Act) (w : World), wpAny P md l.toArray Q fuel listed a w → wpAnyIn (Fence.wide.inRound l0) n P md l.toArray Q' fuel listed a w := by
  intro fuel
  induction fuel with
  | zero => exact fun listed a w h => ⟨h.1, hQ _ _ _ h.2⟩
  | succ fuel ih =>
    intro listed a w h
    refine ⟨fun hr => hQ _ _ _ (h.1 hr), fun i hi => ?_⟩
    have h2 := h.2 i hi
    unfold wpOp at h2
    unfold wpOpIn
    cases ho : l.toArray[i]? with
    | none =>
      simp only [ho] at h2 ⊢
      exact ih _ _ _ h2
    | some o =>
      simp only [ho] at h2 ⊢
      by_cases hw : Region.wanted o (yielded l.toArray a.tmps) = true
      · rw [if_pos hw] at h2 ⊢
        exact opIn_of_wp (calm_at hd ho) hQ hlo (Oper.wp_mono (ih _) (h2.resolve_right fun hc => hlo hc.2))
      · rw [if_neg hw] at h2 ⊢
        exact ⟨fun _ _ => trivial, ih _ _ _ h2⟩
theorem wpIn_still_tail {P : Program} {l0 n0 id : Nat} {Q : Exit → Act → World → Prop} {a : Act} {w : World} {l : List Oper} (n : Nat) (hm : P.follows .mixedOrders = true) (hB : Region.lexTailB .any l.toArray n = true) (hd : calmB l = true)
    (h : wpStill P l.toArray w.drew (fun a' => wpList P l.toArray (NormQ Q) (l.drop n) a' w.drew) (l.take n) a) : (Code.region id l.toArray true).wpIn (Fence.wide.inRound l0) n0 P Q a w := by
  refine wpIn_region_any hm (anyIn_of_any hd (Q := NormQ Q) (fun e a w h => by cases e <;> first | exact h | exact h.elim) (normQ_shut Q) _ _ _ _ ?_)
  simp only [Region.lexTailB, Bool.and_eq_true, decide_eq_true_eq] at hB
  obtain ⟨⟨⟨⟨hsel, hn⟩, hs⟩, hc⟩, hlex⟩ := hB
  have hn' : n < l.length := by simpa using hn
  have htl : (l.take n).length = n := by simp; omega
  have hdl : (l.drop n).length = l.toArray.size - n := by simp
  have inv0 : HeadInv .any l.toArray n (Array.replicate l.toArray.size false) :=
    ⟨by simp, fun j oj _ hl => (by rw [getD_replicate_false] at hl; cases hl), fun t _ ht => getD_in (by simpa using ht) (getD_replicate_false _ _)⟩
  have H := wpAnyL_lex (md := .any) (g := l.toArray.size - n) hsel hs hc hn (l.take n) 0 _ a (fun j hj => by
    have hj' : j < n := by rw [htl] at hj; exact hj
    simp [hj']) (by simpa using htl) inv0 (by rw [htl]; exact hlex) h
  have := wpAny_of_head (Q' := NormQ Q) (g := l.toArray.size - n) (fun listed a' hL => by
    have := wpAny_of_seq (md := .any) (Q' := NormQ Q) (l.drop n) n listed a' w.drew (fun j => by simp [List.getElem?_drop]) (by rw [hdl]; exact hL.1) hL.2
    rwa [hdl] at this) _ _ _ H
  rw [htl, show n + (l.toArray.size - n) = l.toArray.size by omega] at this
  exact this
end

section
open Go Go.RowKit Go.Shelf
set_option maxRecDepth 20000
set_option linter.unusedSimpArgs false
set_option linter.unusedVariables false

theorem sizeBuilder : (Tryz.prog.info? 74).map (·.size) = some 2 := by kernel_rfl
theorem liesBuilder : liesAt Tryz.prog Tryz.prog.depth 74 (2 / Tryz.prog.cellsOf 74) 0 74 1 = true := by kernel_rfl
set_option maxHeartbeats 1000000 in
set_option maxRecDepth 100000 in
theorem copyCheck_used (b : Nat) (w : World) (h0 : w.cell? ⟨b, 0, none⟩ = some (.pointer (some ⟨b, 0, none⟩))) :
    Calls Tryz.prog 51 #[.pointer (some ⟨b, 0, none⟩)] w fun e w' => e = .returned (.tuple #[]) ∧ w' = w := by
  obtain ⟨j, hj, _⟩ := Option.map_eq_some_iff.1 sizeBuilder
  go_enter Tryz.func51, Tryz.ntmps51
  go_wp2
  rw [Lib.run_neq_ptr_same w _ Tryz.underlying71 hj]
  go_wp2
  go_end0
  exact ⟨rfl, rfl⟩
set_option maxHeartbeats 1000000 in
set_option maxRecDepth 100000 in
theorem copyCheck_fresh (b : Nat) (w : World) (h0 : w.cell? ⟨b, 0, none⟩ = some (.pointer none)) (hsh : w.shape? b = some (74, 2)) (hfz : w.frozen? ⟨b, 0, none⟩ = false) :
    Calls Tryz.prog 51 #[.pointer (some ⟨b, 0, none⟩)] w fun e w' => e = .returned (.tuple #[]) ∧ w' = w.setCell ⟨b, 0, none⟩ (.pointer (some ⟨b, 0, none⟩)) := by
  obtain ⟨j, hj, hjs⟩ := Option.map_eq_some_iff.1 sizeBuilder
  go_enter Tryz.func51, Tryz.ntmps51
  go_wp2
  rw [Lib.run_to_unsafe w ⟨b, 0, none⟩ Tryz.underlying71 Tryz.underlying119 hj (by rw [hjs]; decide) hsh (Nat.zero_lt_succ 1)]
  simp only [Result.andThen]
  rw [Oper.upon_value]
  go_wp2
  rw [run_callFunc_extern Tryz.func75 (by kernel_rfl) (by kernel_rfl) (by kernel_rfl) (e := Extern.AbiNoEscape.same) (by kernel_rfl)]
  rw [Lib.run_noEscape]
  simp only [Result.andThen]
  rw [Oper.upon_value]
  go_wp2
  rw [Lib.run_from_unsafe w ⟨b, 0, none⟩ Tryz.underlying119 Tryz.underlying71 hj hsh liesBuilder]
  simp only [Result.andThen]
  rw [Oper.upon_value]
  go_wp2
  go_end0
  exact ⟨rfl, rfl⟩
theorem copyCheck_any (B b : Nat) (bs : List Value) (w : World) (h : Lib.IsBuilderF 74 5 B b bs w) :
    Calls Tryz.prog 51 #[.pointer (some ⟨b, 0, none⟩)] w fun e w' => e = .returned (.tuple #[]) ∧ (Lib.BuilderAtF 74 5 B b (.pointer (some ⟨b, 0, none⟩)) bs w' ∧ Below B w w') := by
  rcases h with h | h
  · refine (copyCheck_fresh b w h.cell0 h.shape h.frozen0).mono ?_
    rintro e w' ⟨rfl, rfl⟩
    exact ⟨rfl, h.used _, (Below.refl B w).setCell (p := ⟨b, 0, none⟩) h.1 _⟩
  · refine (copyCheck_used b w h.cell0).mono ?_
    rintro e w' ⟨rfl, rfl⟩
    exact ⟨rfl, h, Below.refl B _⟩
theorem byte_info : (Tryz.prog.info? 5).map (fun i => (i.zero, i.size, i.bytes)) = some (some (.int .u8 0), 1, 1) := by kernel_rfl
set_option maxHeartbeats 2000000 in
set_option maxRecDepth 100000 in
theorem writeStr_any (B b : Nat) (bs : List Value) (s : ByteArray) (w : World) (h : Lib.IsBuilderF 74 5 B b bs w) (hlen : bs.length + s.size ≤ 140737488355328) (hBw : B ≤ w.heap.size) :
    Calls Tryz.prog 27 #[.pointer (some ⟨b, 0, none⟩), .string s] w fun e w' => e = .returned (.tuple #[.int .i64 s.size, .nilIface]) ∧ (Lib.BuilderAtF 74 5 B b (.pointer (some ⟨b, 0, none⟩)) (bs ++ Lib.strCells s) w' ∧ Below B w w') := by
  obtain ⟨i0, hi, hz0, hz1, hz2⟩ := info_parts byte_info
  have HCC := Lib.hid (copyCheck_any B b bs w h)
  go_enter Tryz.func27, Tryz.ntmps27
  go_wp2_with (first
    | (go_at_call 51; go_loud ((with_reducible refine HCC.out.mono ?_); rintro e w1 ⟨rfl, h1, hb1⟩; obtain ⟨hB, v, hbk, hown, hne⟩ := h1; have c0 : w1.cell? ⟨b, 0, none⟩ = some (.pointer (some ⟨b, 0, none⟩)) := (by first | (rw [Lib.cell_of_heap hbk]; done) | (rw [Lib.cell_of_heap hbk]; rfl)); have c1 : w1.cell? ⟨b, 1, none⟩ = some v := (by first | (rw [Lib.cell_of_heap hbk]; done) | (rw [Lib.cell_of_heap hbk]; rfl))))
    | (at_builtin; go_loud (refine Lib.wpList_append_own_stringF _ rfl _ _ 72 9 rfl B 5 i0 Tryz.underlying72 Tryz.underlying9 hi hz0 hz1 hz2 _ _ _ rfl hown s rfl (by unfold maxLen; omega) (by omega) (by have := hb1.size; omega) ?_); intro v' w2 hown' hgrow _;
       have hlt : b < w1.heap.size := (Array.getElem?_eq_some_iff.1 hbk).1;
       have hb2 : w2.heap[b]? = some (.cells #[.pointer (some ⟨b, 0, none⟩), v] 74 (0, 0)) := (by rw [hgrow.block b hlt (fun e => hne e.symm)]; exact hbk);
       have d0 : w2.cell? ⟨b, 0, none⟩ = some (.pointer (some ⟨b, 0, none⟩)) := (by first | (rw [Lib.cell_of_heap hb2]; done) | (rw [Lib.cell_of_heap hb2]; rfl));
       have d1 : w2.cell? ⟨b, 1, none⟩ = some v := (by first | (rw [Lib.cell_of_heap hb2]; done) | (rw [Lib.cell_of_heap hb2]; rfl));
       have f1 : w2.frozen? ⟨b, 1, none⟩ = false := Lib.frozen_of_heap hb2 1;
       obtain ⟨ao, n', cap, rfl⟩ : ∃ ao n' cap, v' = .slice ao n' cap := (by rcases hown'.2 with ⟨hv, _⟩ | ⟨g, cap, cur, fz, hv, _⟩ <;> exact ⟨_, _, _, hv⟩)))
  go_ret2
  refine ⟨rfl, ?_, ?_⟩
  · exact Lib.BuilderAtF.put (T := 74) (e := 5) hB hb2 (bs' := bs ++ Lib.strCells s) (by simpa [Lib.strCells_length] using hown') (by decide)
  · exact (hb1.grown hgrow (by have := hb1.size; omega) (fun k hk => (hown.lt k hk).1)).setCell (p := ⟨b, 1, none⟩) hB _
theorem builder_new (w : World) : Lib.IsBuilderF 74 5 w.heap.size w.heap.size [] (w.alloc (.cells #[.pointer none, .slice none 0 0] 74)) :=
  .inl ⟨Nat.le_refl _, .slice none 0 0, heap_alloc_new w _, World.ownsRowF_of (World.ownsRow_nil _ _ _ _), by simp [Value.ownBlock]⟩
end

section
open Go Go.RowKit
open Go.Maps (Keyed)
set_option linter.unusedSimpArgs false
set_option linter.unusedVariables false

def RH (v : Value) : Option (DataW Value × List MemPlace) := some (.held v, [])
def valAt (D : DataW Value) (kl : Lit) : Value := match D.atKey kl .nil with
  | .held v => v
  | _ => undef
def funOf (D : DataW Value) (kl : Lit) : Option Value := if Maps.has D kl = true then some (valAt D kl) else none
/-- Block b is a map of n entries that is this function. -/
def MapF (P : Program) (K : TypeId) (w : World) (b : Nat) (f : Lit → Option Value) (n : Nat) : Prop := ∃ D : DataW Value, w.ownsMap P K RH b n D ∧ Maps.size D = n ∧ f = funOf D
theorem atKey_any {D : DataW Value} {kl : Lit} (h : Maps.has D kl = true) (z z' : DataW Value) : D.atKey kl z = D.atKey kl z' := by
  cases D with
  | map es =>
    rw [Maps.has_eq] at h
    have : (es.find? fun p => p.1.sameKey kl).isSome = true := by
      rw [List.find?_isSome]
      obtain ⟨p, hp, hk⟩ := List.any_eq_true.1 h
      exact ⟨p, hp, hk⟩
    obtain ⟨p, hp⟩ := Option.isSome_iff_exists.1 this
    simp [DataW.atKey, hp]
  | _ => cases h
variable {P : Program} {K : TypeId} {w : World} {b n : Nat} {f : Lit → Option Value}
theorem owns_tight {D : DataW Value} (h : w.ownsMap P K RH b n D) : w.ownsMap P K RH b (Maps.size D) D := by
  obtain ⟨es, clock, hb, F, _, hD⟩ := h
  refine ⟨es, clock, hb, F, ?_, hD⟩
  have : Maps.size D = es.size := by rw [hD]; simp [Maps.size, length_sorted]
  rw [this]; exact Nat.le_refl _
theorem MapF.made (w : World) : MapF P K (w.alloc (.map #[] 0)) w.heap.size (fun _ => none) 0 :=
  ⟨.map [], World.ownsMap_made w P K RH, rfl, by funext kl; rfl⟩
theorem MapF.old {w' : World} (h : MapF P K w b f n) (he : w'.heap[b]? = w.heap[b]?) : MapF P K w' b f n := by
  obtain ⟨D, ⟨es, clock, hb, r⟩, h2⟩ := h
  exact ⟨D, ⟨es, clock, he.trans hb, r⟩, h2⟩
theorem MapF.lt (h : MapF P K w b f n) : b < w.heap.size := by
  obtain ⟨D, h1, _⟩ := h
  exact h1.lt
theorem MapF.look {t e : TypeId} {z key : Value} {kl : Lit} (h : MapF P K w b f n) (Kd : Keyed P K) (ht : P.underlying t = some (.map K e)) (hz : (zeroValue e).run P w = .ok z w) (hkey : keyOf P K key = some kl) :
    (Instr.lookup t (.map (some b)) key true).run P w = .ok (.tuple #[(f kl).getD z, .bool (f kl).isSome]) w ∧ (Instr.lookup t (.map (some b)) key false).run P w = .ok ((f kl).getD z) w := by
  obtain ⟨D, h1, h2, rfl⟩ := h
  obtain ⟨v, ps, hrun, hv⟩ := h1.look_ok Kd ht hz (zd := .held z) (zp := []) rfl hkey
  obtain ⟨v', ps', hrun', hv'⟩ := h1.lookup Kd ht hz (zd := .held z) (zp := []) rfl hkey
  have e1 : D.atKey kl (.held z) = .held v := by simp [RH] at hv; exact hv.1.symm
  have e2 : D.atKey kl (.held z) = .held v' := by simp [RH] at hv'; exact hv'.1.symm
  have e3 : v' = v := by rw [e1] at e2; simpa using e2.symm
  subst e3
  have key2 : (funOf D kl).getD z = v' ∧ (funOf D kl).isSome = Maps.has D kl := by
    unfold funOf
    cases hh : Maps.has D kl
    · rw [if_neg (by simp)]
      have := Maps.atKey_of_not_has hh (.held z)
      rw [e1] at this
      exact ⟨by simpa using this.symm, rfl⟩
    · rw [if_pos rfl]
      refine ⟨?_, rfl⟩
      show valAt D kl = v'
      unfold valAt
      rw [atKey_any hh .nil (.held z), e1]
  rw [key2.1, key2.2]
  exact ⟨hrun, hrun'⟩
theorem held_of {D : DataW Value} {t e : TypeId} {z key : Value} {kl : Lit} (h : w.ownsMap P K RH b n D) (Kd : Keyed P K) (hh : Maps.has D kl = true) {d : DataW Value} (hd : ∀ zd, D.atKey kl zd = d) {v : Value} (hv : d = .held v) : funOf D kl = some v := by
  unfold funOf
  rw [if_pos hh]
  unfold valAt
  rw [hd, hv]
theorem MapF.put {t e : TypeId} {key : Value} {kl : Lit} (h : MapF P K w b f n) (Kd : Keyed P K) (ht : P.underlying t = some (.map K e)) (hkey : keyOf P K key = some kl) (hn : n < maxLen) (v : Value) :
    ∃ w', (Instr.mapUpdate t (.map (some b)) key v).run P w = .ok () w' ∧ MapF P K w' b (fun k => if k.sameKey kl = true then some v else f k) (if (f kl).isSome = true then n else n + 1) ∧ w.grownBy w' (some b) := by
  obtain ⟨D, h1, h2, rfl⟩ := h
  obtain ⟨w', hrun, hown, hg⟩ := h1.update Kd ht hn hkey (val := v) (d := .held v) (ps := []) rfl
  have hT := h1.tidy Kd
  have hkl := Kd.key hkey
  have hs := Maps.size_put (k := kl) hT (DataW.held v)
  have hs2 : Maps.size (D.put kl (.held v)) = if (funOf D kl).isSome = true then n else n + 1 := by
    rw [hs, h2]
    unfold funOf
    cases hh : Maps.has D kl <;> simp
  refine ⟨w', hrun, ⟨_, ?_, hs2, ?_⟩, hg⟩
  · rw [← hs2]; exact owns_tight hown
  · funext k
    by_cases hk : k = kl
    · subst hk
      rw [if_pos (Go.WideAt.sameKey_self hkl)]
      unfold funOf
      rw [if_pos (Maps.has_put_same hT.isMap hkl _)]
      unfold valAt
      rw [Maps.atKey_put_same hT.isMap hkl]
    · rw [if_neg (by rw [Maps.sameKey_ne hk]; decide)]
      unfold funOf valAt
      rw [Maps.has_put_other hk, Maps.atKey_put_other hk]
theorem MapF.del {t e ty : TypeId} {key : Value} {kl : Lit} (h : MapF P K w b f n) (Kd : Keyed P K) (ht : P.underlying t = some (.map K e)) (hkey : keyOf P K key = some kl) :
    ∃ w', (Builtin.delete_ #[t, K] ty #[.map (some b), key]).run P w = .ok (.tuple #[]) w' ∧ MapF P K w' b (fun k => if k.sameKey kl = true then none else f k) (if (f kl).isSome = true then n - 1 else n) ∧ w.grownBy w' (some b) := by
  obtain ⟨D, h1, h2, rfl⟩ := h
  obtain ⟨w', hrun, hown, hg⟩ := h1.drop Kd ht hkey ty
  have hT := h1.tidy Kd
  have hkl := Kd.key hkey
  have hs := Maps.size_del (k := kl) hT
  have hs2 : Maps.size (D.del kl) = if (funOf D kl).isSome = true then n - 1 else n := by
    unfold funOf
    cases hh : Maps.has D kl
    · rw [hh] at hs; simp at hs; simp; omega
    · rw [hh] at hs; simp at hs; simp; omega
  refine ⟨w', hrun, ⟨_, ?_, hs2, ?_⟩, hg.grown⟩
  · rw [← hs2]; exact owns_tight hown
  · funext k
    by_cases hk : k = kl
    · subst hk
      rw [if_pos (Go.WideAt.sameKey_self hkl)]
      unfold funOf
      rw [if_neg (by rw [Maps.has_del_same]; decide)]
    · rw [if_neg (by rw [Maps.sameKey_ne hk]; decide)]
      unfold funOf valAt
      rw [Maps.has_del_other hk, Maps.atKey_del_other hk]
theorem MapF.len {t e ty : TypeId} (h : MapF P K w b f n) (ht : P.underlying t = some (.map K e)) : (Builtin.len_ #[t] ty #[.map (some b)]).run P w = .ok (.int .i64 (n : Int)) w := by
  obtain ⟨D, h1, h2, rfl⟩ := h
  have := h1.len ht ty
  rw [h2] at this
  exact this
/-! ### ranging over it -/
def RangeF (P : Program) (K : TypeId) (w : World) (b r : Nat) (f : Lit → Option Value) (n : Nat) (left : Lit → Bool) (cnt : Nat) : Prop := ∃ D : DataW Value, w.ranges P K RH b r n D left cnt ∧ Maps.size D = n ∧ f = funOf D
theorem RangeF.map {r : Nat} {left : Lit → Bool} {cnt : Nat} (h : RangeF P K w b r f n left cnt) : MapF P K w b f n := by
  obtain ⟨D, h1, h2, h3⟩ := h
  exact ⟨D, h1.owns, h2, h3⟩
theorem RangeF.kept {w' : World} {r : Nat} {left : Lit → Bool} {cnt : Nat} {row : Option Nat} (h : RangeF P K w b r f n left cnt) (hg : w.grownBy w' row) (hb : some b ≠ row) (hr : some r ≠ row) : RangeF P K w' b r f n left cnt := by
  obtain ⟨D, h1, h2, h3⟩ := h
  exact ⟨D, h1.kept hg hb hr, h2, h3⟩
theorem RangeF.left_eq {r : Nat} {left : Lit → Bool} {cnt : Nat} (h : RangeF P K w b r f n left cnt) : w.rangeLeft b r = cnt := by
  obtain ⟨D, h1, _⟩ := h
  exact h1.left_eq
theorem RangeF.ne {r : Nat} {left : Lit → Bool} {cnt : Nat} (h : RangeF P K w b r f n left cnt) : r ≠ b ∧ r < w.heap.size := by
  obtain ⟨D, h1, _⟩ := h
  exact ⟨h1.ne, h1.lt⟩
theorem MapF.range {t e : TypeId} (h : MapF P K w b f n) (Kd : Keyed P K) (ht : P.underlying t = some (.map K e)) :
    ∃ w', (Instr.range t (.map (some b))).run P w = .ok (.pointer (some ⟨w.heap.size, 0, none⟩)) w' ∧ RangeF P K w' b w.heap.size f n (fun kl => (f kl).isSome) n ∧ w.grownBy w' none ∧ w'.heap.size = w.heap.size + 1 := by
  obtain ⟨D, h1, h2, rfl⟩ := h
  obtain ⟨w', hrun, hr, hg, hs⟩ := h1.range Kd ht
  have e : Maps.has D = fun kl => (funOf D kl).isSome := by
    funext kl
    unfold funOf
    cases hh : Maps.has D kl <;> rfl
  rw [e, h2] at hr
  exact ⟨w', hrun, ⟨D, hr, h2, rfl⟩, hg, hs⟩
theorem RangeF.next {r cnt : Nat} {left : Lit → Bool} (h : RangeF P K w b r f n left cnt) (Kd : Keyed P K) (ty : TypeId) (hl : ∀ kl, left kl = true → (f kl).isSome = true) :
    (cnt = 0 ∧ (∀ kl, left kl = false) ∧ (Instr.next (.pointer (some ⟨r, 0, none⟩)) false ty).run P w = .ok (.tuple #[.bool false]) w) ∨
    ∃ key v kl w' cnt', keyOf P K key = some kl ∧ left kl = true ∧ f kl = some v ∧ (Instr.next (.pointer (some ⟨r, 0, none⟩)) false ty).run P w = .ok (.tuple #[.bool true, key, v]) w' ∧
      RangeF P K w' b r f n (fun x => left x && !x.sameKey kl) cnt' ∧ cnt' < cnt ∧ w.grownBy w' (some r) ∧ w'.heap.size = w.heap.size ∧ (Instr.entry (.pointer (some ⟨r, 0, none⟩))).run P w' = .ok (.tuple #[key, v]) w' := by
  obtain ⟨D, h1, h2, rfl⟩ := h
  rcases h1.next Kd ty with h3 | ⟨key, v, kl, y, w', cnt', a1, a2, a3, a4, a5, a6, a7, a8, a9, a10⟩
  · exact .inl h3
  · right
    have hy : y.1 = .held v := by simp [RH] at a3; rw [← a3]
    have hh : Maps.has D kl = true := by
      have := hl kl a2
      unfold funOf at this
      cases hh : Maps.has D kl
      · rw [hh] at this; simp at this
      · rfl
    refine ⟨key, v, kl, w', cnt', a1, a2, ?_, a5, ⟨D, a6, h2, rfl⟩, a7, a8, a9, a10⟩
    unfold funOf
    rw [if_pos hh]
    unfold valAt
    rw [a4, hy]
end
end Go.Proofs.YtnkckejbkbbdlaaGreatDoor
