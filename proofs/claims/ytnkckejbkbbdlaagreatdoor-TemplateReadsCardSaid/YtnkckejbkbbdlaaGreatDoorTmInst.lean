/- Merged: TplI. -/
import Derived.Test.YtnkckejbkbbdlaaGreatDoorTmJ
namespace Go.Proofs.YtnkckejbkbbdlaaGreatDoor
section
open Go Go.RowKit Go.Shelf
set_option maxRecDepth 20000
set_option linter.unusedSimpArgs false
set_option linter.unusedVariables false

/-! ### plain words on pieces -/
theorem atC_lt {C : List GCh} {x : List UInt8} (h : hasC C x = true) : atC C x < C.length := by
  unfold hasC at h
  unfold atC
  rw [List.findIdx_lt_length]
  obtain ⟨c, hc, hp⟩ := List.any_eq_true.1 h
  exact ⟨c, hc, hp⟩
theorem partsF_ok (C : List GCh) : ∀ (n : Nat) (s : List UInt8) (l : List GPart), partsF C n s = some l → l.length ≤ 2 * n + 1 ∧ ∀ p ∈ l, p.1.length ≤ s.length ∧ (0 ≤ p.2 → p.2.toNat < C.length)
  | 0, s, l, h => by
    rw [partsF] at h
    cases h
    exact ⟨by simp, fun p hp => absurd hp (List.not_mem_nil)⟩
  | n + 1, s, l, h => by
    rw [partsF] at h
    split at h
    · cases h
      exact ⟨by simp, fun p hp => absurd hp (List.not_mem_nil)⟩
    split at h
    · cases h
      refine ⟨by simp, fun p hp => ?_⟩
      rw [List.mem_singleton] at hp
      subst hp
      exact ⟨upTo_len 123 s, fun (h : (0 : Int) ≤ -1) => absurd h (by decide)⟩
    split at h
    · rename_i hpk
      obtain ⟨l', h1, rfl⟩ := Option.map_eq_some_iff.1 h
      obtain ⟨h2, h3⟩ := partsF_ok C n _ l' h1
      have e1 := past_len 123 s
      have e2 := past_len 125 (past 123 s).tail
      have e3 := tail_len (past 123 s)
      have e4 := tail_len (past 125 (past 123 s).tail)
      refine ⟨by simp; omega, fun p hp => ?_⟩
      rcases List.mem_cons.1 hp with rfl | hp
      · exact ⟨upTo_len 123 s, fun (h : (0 : Int) ≤ -1) => absurd h (by decide)⟩
      rcases List.mem_cons.1 hp with rfl | hp
      · refine ⟨by simp, fun _ => ?_⟩
        unfold placeOk at hpk
        simp only [Bool.and_eq_true] at hpk
        simpa using atC_lt hpk.2.2
      · obtain ⟨g1, g2⟩ := h3 p hp
        exact ⟨by omega, g2⟩
    · cases h
theorem partsF_lo (C : List GCh) : ∀ (n : Nat) (s : List UInt8) (l : List GPart), partsF C n s = some l → ∀ p ∈ l, -1 ≤ p.2
  | 0, s, l, h => by
    rw [partsF] at h
    cases h
    exact fun p hp => absurd hp (List.not_mem_nil)
  | n + 1, s, l, h => by
    rw [partsF] at h
    split at h
    · cases h
      exact fun p hp => absurd hp (List.not_mem_nil)
    split at h
    · cases h
      intro p hp
      rw [List.mem_singleton] at hp
      subst hp
      exact Int.le_refl _
    split at h
    · obtain ⟨l', h1, rfl⟩ := Option.map_eq_some_iff.1 h
      intro p hp
      rcases List.mem_cons.1 hp with rfl | hp
      · exact Int.le_refl _
      rcases List.mem_cons.1 hp with rfl | hp
      · show (-1 : Int) ≤ ((_ : Nat) : Int); omega
      · exact partsF_lo C n _ l' h1 p hp
    · cases h
theorem partsT_ok {C : List GCh} {s : List UInt8} {l : List GPart} (h : partsT C s = some l) : l.length ≤ 2 * s.length + 1 ∧ ∀ p ∈ l, p.1.length ≤ s.length ∧ (0 ≤ p.2 → p.2.toNat < C.length) := partsF_ok C _ s l h
theorem usesGo_mem (l : List GPart) : ∀ (out : List Nat) (u : Nat), u ∈ usesGo out l → u ∈ out ∨ ∃ p ∈ l, 0 ≤ p.2 ∧ p.2.toNat = u := by
  induction l with
  | nil => intro out u h; exact .inl h
  | cons p l ih =>
    intro out u h
    rw [usesGo] at h
    split at h
    · rename_i hc
      rcases ih _ _ h with h | ⟨q, hq, h2⟩
      · rcases List.mem_append.1 h with h | h
        · exact .inl h
        · rw [List.mem_singleton] at h
          exact .inr ⟨p, List.mem_cons_self .., hc.1, h.symm⟩
      · exact .inr ⟨q, List.mem_cons_of_mem _ hq, h2⟩
    · rcases ih _ _ h with h | ⟨q, hq, h2⟩
      · exact .inl h
      · exact .inr ⟨q, List.mem_cons_of_mem _ hq, h2⟩
theorem usesT_lt {C : List GCh} {s : List UInt8} {l : List GPart} (h : partsT C s = some l) : ∀ u ∈ usesT l, u < C.length := fun u hu => by
  rcases usesGo_mem l [] u hu with h' | ⟨p, hp, h1, h2⟩
  · exact absurd h' (List.not_mem_nil)
  · rw [← h2]; exact ((partsT_ok h).2 p hp).2 h1
theorem usesGo_len (l : List GPart) : ∀ out : List Nat, (usesGo out l).length ≤ out.length + l.length := by
  induction l with
  | nil => intro out; simp [usesGo]
  | cons p l ih =>
    intro out
    rw [usesGo]
    split
    · have := ih (out ++ [p.2.toNat]); simp at this ⊢; omega
    · have := ih out; simp at this ⊢; omega
theorem usesT_len (l : List GPart) : (usesT l).length ≤ l.length := by have := usesGo_len l []; simp at this; exact this
/-! ### a function that leaves with marks -/
def markD (D : Nat) : Deferred := { target := .collected D, args := #[] }
theorem leaves_marks {P : Program} {fn : Func} {tmps : Array Value} {n B : Nat} {R : Ending → World → Prop} : ∀ (Ds : List Nat) (w : World), (∀ D ∈ Ds, B ≤ D ∧ w.heap[D]? = some (.deferred (some []))) → Ds.Nodup →
    (∀ w', w'.os = w.os → w'.tape = w.tape → w'.output = w.output → w'.heap.size = w.heap.size → (∀ k, k ∉ Ds → w'.heap[k]? = w.heap[k]?) → ∃ v, (results fn tmps).run P w' = .ok v w' ∧ R (.returned v) w') → LeavesInM Fence.wide n P fn tmps R (Ds.map markD) .returning w
  | [], w, _, _, h => by
    obtain ⟨v, h1, h2⟩ := h w rfl rfl rfl rfl fun _ _ => rfl
    exact ⟨v, h1, h2⟩
  | D :: Ds, w, hm, hnd, h => by
    obtain ⟨h1, h2⟩ := hm D (List.mem_cons_self ..)
    obtain ⟨hn1, hn2⟩ := List.nodup_cons.1 hnd
    refine ⟨by simp, .inl ⟨D, _, rfl, run_takeDeferred h2, ?_⟩⟩
    refine leaves_marks (B := B) Ds _ (fun D' hD' => ?_) hn2 fun w' e1 e2 e3 e4 e5 => ?_
    · obtain ⟨g1, g2⟩ := hm D' (List.mem_cons_of_mem _ hD')
      exact ⟨g1, (World.putObj_heap_other (by intro e; subst e; exact hn1 hD')).trans g2⟩
    · refine h w' e1 e2 e3 (e4.trans (by simp [World.putObj])) fun k hk => ?_
      rw [e5 k (fun hc => hk (List.mem_cons_of_mem _ hc))]
      exact World.putObj_heap_other (fun e => hk (by rw [← e]; exact List.mem_cons_self ..))
/-! ### the map of a row -/
def fR (R : List (Nat × List UInt8)) : Lit → Option Value
  | .int .i64 z => (R.find? (fun r => (r.1 : Int) == z)).map (fun r => .string ⟨r.2.toArray⟩)
  | _ => none
theorem imapTy : Tryz.prog.underlying 67 = some (.map 3 9) := by kernel_rfl
theorem intLaw : Go.Maps.Keyed Tryz.prog 3 := Maps.int_keyed Tryz.underlying3
theorem zeroStr (w : World) : (zeroValue 9).run Tryz.prog w = .ok (.string ⟨#[]⟩) w := by kernel_rfl
theorem intKey {z : Int} (h : (Lit.int .i64 z).wf = true) : keyOf Tryz.prog 3 (.int .i64 z) = some (.int .i64 z) := Maps.keyOf_int_mk Tryz.underlying3 h
theorem intWf {z : Int} (h1 : -1 ≤ z) (h2 : z ≤ 1000000) : (Lit.int .i64 z).wf = true := by
  have h : (-9223372036854775808 : Int) ≤ z ∧ z ≤ 9223372036854775807 := by omega
  simp only [Lit.wf, Bool.and_eq_true, decide_eq_true_eq]
  exact h
theorem natWf {n : Nat} (h : n ≤ 9223372036854775807) : (Lit.int .i64 (n : Int)).wf = true := by
  have h1 : (-9223372036854775808 : Int) ≤ (n : Int) ∧ (n : Int) ≤ 9223372036854775807 := by omega
  simp only [Lit.wf, Bool.and_eq_true, decide_eq_true_eq]
  exact h1
theorem fR_int (R : List (Nat × List UInt8)) (z : Int) : fR R (.int .i64 z) = (R.find? (fun r => (r.1 : Int) == z)).map (fun r => .string ⟨r.2.toArray⟩) := rfl
theorem fR_not (R : List (Nat × List UInt8)) (kl : Lit) (h : ∀ z, kl ≠ .int .i64 z) : fR R kl = none := by
  unfold fR
  split
  · exact absurd rfl (h _)
  · rfl
theorem fR_nil : fR [] = fun _ => none := by
  funext kl
  by_cases h : ∃ z, kl = .int .i64 z
  · obtain ⟨z, rfl⟩ := h; rfl
  · exact fR_not _ _ fun z e => h ⟨z, e⟩
theorem fR_cons (i : Nat) (x : List UInt8) (R : List (Nat × List UInt8)) : (fun kl : Lit => if kl.sameKey (.int .i64 (i : Int)) = true then some (Value.string ⟨x.toArray⟩) else fR R kl) = fR ((i, x) :: R) := by
  funext kl
  have hs : (kl.sameKey (.int .i64 (i : Int)) = true) ↔ (kl = .int .i64 (i : Int)) := by
    constructor
    · intro h
      apply Classical.byContradiction
      intro hne
      rw [Maps.sameKey_ne hne] at h
      cases h
    · rintro rfl
      simp [Lit.sameKey]
  by_cases h : ∃ z, kl = .int .i64 z
  · obtain ⟨z, rfl⟩ := h
    by_cases hz : z = (i : Int)
    · subst hz
      rw [if_pos (hs.2 rfl), fR_int]
      simp [List.find?]
    · have h1 : ((i : Int) == z) = false := by rw [beq_eq_false_iff_ne]; exact fun h => hz h.symm
      rw [if_neg (fun h => hz (by have := hs.1 h; simpa using this)), fR_int, fR_int]
      simp [List.find?, h1]
  · have h' : ∀ z, kl ≠ .int .i64 z := fun z e => h ⟨z, e⟩
    rw [if_neg (fun h => h' _ (hs.1 h)), fR_not _ _ h', fR_not _ _ h']
theorem fR_at (R : List (Nat × List UInt8)) (z : Int) : (fR R (.int .i64 z)).getD (.string ⟨#[]⟩) = .string ⟨(atRow R z).toArray⟩ := by
  rw [fR_int]
  unfold atRow
  cases R.find? (fun r => (r.1 : Int) == z) <;> rfl
def st1 (C : List GCh) (st : Nat × List (Nat × List UInt8)) (u : Nat) : Nat := (stepR C st u).1
theorem stepR_le (C : List GCh) (us : List Nat) : ∀ st : Nat × List (Nat × List UInt8), (us.foldl (stepR C) st).1 ≤ st.1 := by
  induction us with
  | nil => exact fun st => Nat.le_refl _
  | cons u us ih => exact fun st => Nat.le_trans (ih _) (Nat.div_le_self _ _)
theorem listIn_marks {α : Type} {c : Cod α} {w w' : World} {a : Option Addr} {xs : List α} {lo lo' : Nat} {Ds : List Nat} (h : ListIn c w a xs lo) (hl : lo' ≤ lo) (hsz : w'.heap.size = w.heap.size) (hm : ∀ D ∈ Ds, w.heap[D]? = some (.deferred (some []))) (hk : ∀ k, k ∉ Ds → w'.heap[k]? = w.heap[k]?) : ListIn c w' a xs lo' := by
  rcases h with h | ⟨b, o, h1, h2, h3, h4⟩
  · exact .inl h
  · by_cases hx : xs = []
    · exact .inl hx
    · refine .inr ⟨b, o, h1, Nat.le_trans hl h2, by rw [hsz]; exact h3, fun j u hj => ?_⟩
      have hc := h4 j u hj
      have hb : b ∉ Ds := fun hb => by
        have := hm b hb
        simp [World.cell?, this] at hc
      rw [World.cell?_of_block (a := ⟨b, o + j, none⟩) (hk b hb)]
      exact hc
theorem valsC_len {C : List GCh} {B : Nat} (h : ∀ c ∈ C, ∀ x ∈ c.vals, x.length ≤ B) (u z : Nat) : ((valsC C u).getD z []).length ≤ B := by
  rw [List.getD_eq_getElem?_getD]
  cases hx : (valsC C u)[z]? with
  | none => exact Nat.zero_le _
  | some x =>
    have hm := List.mem_of_getElem? hx
    unfold valsC at hm
    cases hc : C[u]? with
    | none => rw [hc] at hm; exact absurd hm (List.not_mem_nil)
    | some c =>
      rw [hc] at hm
      exact h c (List.mem_of_getElem? hc) x hm
theorem rowT_len {C : List GCh} {B : Nat} (h : ∀ c ∈ C, ∀ x ∈ c.vals, x.length ≤ B) (us : List Nat) : ∀ st : Nat × List (Nat × List UInt8), (∀ r ∈ st.2, r.2.length ≤ B) → ∀ r ∈ (us.foldl (stepR C) st).2, r.2.length ≤ B := by
  induction us with
  | nil => exact fun st hs => hs
  | cons u us ih =>
    intro st hs
    refine ih _ fun r hr => ?_
    unfold stepR at hr
    rcases List.mem_cons.1 hr with rfl | hr
    · exact valsC_len h u _
    · exact hs r hr
theorem atRow_len {B : Nat} {R : List (Nat × List UInt8)} (h : ∀ r ∈ R, r.2.length ≤ B) (z : Int) : (atRow R z).length ≤ B := by
  unfold atRow
  cases hf : R.find? (fun r => (r.1 : Int) == z) with
  | none => exact Nat.zero_le _
  | some r => exact h r (List.mem_of_find?_eq_some hf)
theorem own_cells {α : Type} {c : Cod α} {Q : Nat → Prop} {w : World} {v : Value} {xs : List α} (h : Own c Q w v xs) {g : Nat} (hg : v.ownBlock = some g) : g < w.heap.size ∧ ∀ D, w.heap[g]? ≠ some (.deferred D) := by
  obtain ⟨⟨h1, ⟨hv, h0⟩ | ⟨g', cap, cur, hv, hg', hh, _⟩⟩, hq⟩ := h
  · rw [hv] at hg; cases hg
  · rw [hv] at hg
    cases hg
    exact ⟨(Array.getElem?_eq_some_iff.1 hh).1, fun D e => by rw [hh] at e; cases e⟩
theorem byteCells_app (a b : List UInt8) : Lib.byteCells (a ++ b) = Lib.byteCells a ++ Lib.strCells ⟨b.toArray⟩ := by simp [Lib.byteCells, Lib.strCells]
theorem keeps_of_by {w w' : World} {row : Option Nat} (h : w.grownBy w' row) : Keeps (fun g => row = some g) w w' :=
  ⟨h.os, h.tape, h.output, h.size, fun k hk hq => h.block k hk fun e => hq e.symm⟩
theorem Keeps.weak {Q Q' : Nat → Prop} {w w' : World} (h : Keeps Q w w') (hq : ∀ k, k < w.heap.size → Q k → Q' k) : Keeps Q' w w' := ⟨h.os, h.tape, h.output, h.size, fun k hk hn => h.block k hk fun hh => hn (hq k hk hh)⟩
set_option maxRecDepth 100000 in
set_option maxHeartbeats 8000000 in
theorem inst_any (C : List GCh) (R : List RCh) (hl : R.length ≤ 1000) (hv : ∀ c ∈ C, c.vals.length ≤ 1000 ∧ ∀ x ∈ c.vals, x.length ≤ 100000) (a : Option Addr) (cap : Nat) (t : GTpl) (hs : t.text.length ≤ 100000) (m : Int) (w : World) (hm : HasMax m w) (hin : ListIn chCod w a R 0) (hC : ChsOk w 0 R C) :
    Calls Tryz.prog 12 #[.agg (tpV t), .slice a R.length cap] w (Gives strCod (instT C t.text) w) := by
  obtain ⟨POST, hpost⟩ : ∃ POST : Ending → World → Prop, Gives strCod (instT C t.text) w = POST := ⟨_, rfl⟩
  rw [hpost]
  have HPOST := Lib.hid hpost
  have HIN := Lib.hid hin
  have HC := Lib.hid hC
  have HPA : Hid (∀ w', HasMax m w' → ListIn chCod w' a R 0 → Calls Tryz.prog 22 #[.string ⟨t.text.toArray⟩, .slice a R.length cap] w' (Gives2 partCod ((partsT C t.text).getD []) (partsT C t.text).isSome w')) := fun w' h1 h2 => tparts_any C R hC.names (by omega) a cap t.text hs m w' h1 h2
  have HOK : Hid (∀ l, partsT C t.text = some l → l.length ≤ 2 * t.text.length + 1 ∧ (∀ p ∈ l, p.1.length ≤ t.text.length ∧ (0 ≤ p.2 → p.2.toNat < C.length)) ∧ ∀ u ∈ usesT l, u < C.length) := fun l h => ⟨(partsT_ok h).1, (partsT_ok h).2, usesT_lt h⟩
  have HINST : Hid (instT C t.text = match partsT C t.text with
    | none => []
    | some l => if (usesT l).any (fun i => (valsC C i).isEmpty) = true then [] else if 24 < rowsGo C 1 (usesT l) then [] else if 2000 < lenGo C 0 l then [] else instP C l) := rfl
  have HRC := Lib.hid hC.1
  clear hpost hin hC
  refine (callsIn_wide (n := 3)).1 ?_
  refine callsIn_of_wp_marks Tryz.func12 rfl trivial ?_ rfl
  refine wpIn_wide.2 ?_
  simp only [Tryz.ntmps12, List.size_toArray, List.length_cons, List.length_nil, Nat.reduceAdd, Nat.reduceSub, Array.replicate_succ, Array.replicate_zero, List.push_toArray, List.append_toArray, List.nil_append, List.cons_append]
  go_upto_region 1 with fail
  change Code.wp _ _ _ _ ((w.alloc (Obj.cells (tpV t) 41)).alloc (Obj.cells #[.slice a R.length cap] 28))
  have HT2 : Hid (((w.alloc (Obj.cells (tpV t) 41)).alloc (Obj.cells #[.slice a R.length cap] 28)).cell? ⟨w.heap.size, 22, none⟩ = some (.string ⟨t.text.toArray⟩)) := show _ = _ by simp [go_sem]
  have HV3 : Hid (Var ((w.alloc (Obj.cells (tpV t) 41)).alloc (Obj.cells #[.slice a R.length cap] 28)) (w.heap.size + 1) [.slice a R.length cap]) := Var.new _ _ _ rfl (by simp)
  have HB2 : Hid (Below w.heap.size w ((w.alloc (Obj.cells (tpV t) 41)).alloc (Obj.cells #[.slice a R.length cap] 28))) := (by repeat (first | exact Below.refl _ _ | assumption | refine below_grown ?_ (by first | omega | (simp [go_sem]; done) | (simp [go_sem] <;> omega)) _ | refine Below.alloc ?_ (by first | omega | (simp [go_sem]; done) | (simp [go_sem] <;> omega)) _ | refine below_bytesW ?_ (by first | omega | (simp [go_sem]; done) | (simp [go_sem] <;> omega)) _ | refine Below.drew ?_ | refine below_drewN ?_ _))
  generalize ((w.alloc (Obj.cells (tpV t) 41)).alloc (Obj.cells #[.slice a R.length cap] 28)) = w2 at *
  have c22 := HT2.out
  have c30 : w2.cell? ⟨w.heap.size + 1, 0, none⟩ = some (.slice a R.length cap) := HV3.out.cell 0 (by simp)
  have hm2 := hm.below HB2.out
  obtain ⟨ol, hol⟩ : ∃ ol, partsT C t.text = ol := ⟨_, rfl⟩
  rw [hol] at HPA HINST HOK
  have hll : (ol.getD []).length ≤ 300000 ∧ (∀ u ∈ usesT (ol.getD []), u < C.length) ∧ (∀ p ∈ ol.getD [], p.1.length ≤ 100000 ∧ (0 ≤ p.2 → p.2.toNat < C.length)) ∧ (∀ p ∈ ol.getD [], -1 ≤ p.2) := by
    cases ol with
    | none => exact ⟨by simp, fun u hu => absurd hu (List.not_mem_nil), fun p hp => absurd hp (List.not_mem_nil), fun p hp => absurd hp (List.not_mem_nil)⟩
    | some l =>
      obtain ⟨h1, h2, h3⟩ := HOK.out l rfl
      exact ⟨by simp; omega, h3, fun p hp => ⟨by have := (h2 p hp).1; omega, (h2 p hp).2⟩, partsF_lo C _ _ l hol⟩
  have HINST2 : Hid (instT C t.text = if ol.isSome = false then [] else if (usesT (ol.getD [])).any (fun i => (valsC C i).isEmpty) = true then [] else if 24 < rowsGo C 1 (usesT (ol.getD [])) then [] else if 2000 < lenGo C 0 (ol.getD []) then [] else instP C (ol.getD [])) := by
    show _ = _
    rw [HINST.out]
    cases ol <;> rfl
  clear hol HOK HINST
  generalize ol.getD [] = l at *
  generalize ol.isSome = ok0 at *
  obtain ⟨hll1, hll2, hll3, hll4⟩ := hll
  have HLM := Lib.hid hll4
  have HLU := Lib.hid hll2
  have HLP := Lib.hid hll3
  have hul := usesT_len l
  obtain ⟨us, hus⟩ : ∃ us, usesT l = us := ⟨_, rfl⟩
  have HUS : Hid (∀ al cl w', ListIn partCod w' al l 0 → Calls Tryz.prog 23 #[.slice al l.length cl] w' (Gives natCod us w')) := fun al cl w' h => by rw [← hus]; exact uses_any l hll1 al cl w' h
  rw [hus] at HLU hul HINST2
  have HUE := Lib.hid hus
  clear hll2 hll3 hll4 hus
  go_upto_region 3 with (first
    | (go_at_call 22; (with_reducible refine (HPA.out _ hm2 (HIN.out.below HB2.out)).mono ?_); intro e w3 hg; obtain ⟨al, cl, rfl, hcl, hb3, hl3⟩ := hg; have HB3 := Lib.hid hb3; have HL3 := Lib.hid (hl3.mono (Nat.zero_le _)); clear hb3 hl3)
    | (go_at_call 23; (with_reducible refine (HUS.out _ _ _ HL3.out).mono ?_); intro e w4 hg; obtain ⟨au, cu, rfl, hcu, hb4, hl4⟩ := hg; have HB4 := Lib.hid hb4; have HU4 := Lib.hid (hl4.mono (Nat.zero_le _)); clear hb4 hl4))
  have hz2 := HB2.out.size
  have hz3 := HB3.out.size
  have hz4 := HB4.out.size
  have HBA : Hid (Below w.heap.size w w4) := HB2.out.trans ((HB3.out.mono hz2).trans (HB4.out.mono (by omega)))
  have HL4 := Lib.hid (HL3.out.below HB4.out)
  have HIN4 := Lib.hid (HIN.out.below HBA.out)
  have HC4 := Lib.hid (HC.out.below HBA.out)
  have HV34 : Hid (Var w4 (w.heap.size + 1) [.slice a R.length cap]) := (HV3.out.below HB3.out).below HB4.out
  have hm4 := hm.below HBA.out
  clear HPA HUS HT2 HV3 HB2 HB3 HB4 c22 c30 hm2 HL3 HIN HC hz2 hz3 hz4
  have c30 : w4.cell? ⟨w.heap.size + 1, 0, none⟩ = some (.slice a R.length cap) := HV34.out.cell 0 (by simp)
  have hbs4 := HV34.out.lt
  have hib3 : isOld (w.heap.size + 1) w4 = true := isOld_iff.2 hbs4
  obtain ⟨b3, hb3⟩ : ∃ b3, w.heap.size + 1 = b3 := ⟨_, rfl⟩
  rw [hb3] at HV34 c30 hbs4 hib3
  simp only [hb3]
  have hbw3 : w.heap.size ≤ b3 := by omega
  clear hb3
  go_upto_region 4 with fail
  have HANY : Hid (∀ k (hk : k < us.length), (us.take (k + 1)).any (fun i => (valsC C i).isEmpty) = ((us.take k).any (fun i => (valsC C i).isEmpty) || (valsC C (us[k]'hk)).isEmpty)) := fun k hk => any_take_stepT us _ k hk
  go_loop [6, 9, 30] (fun ok _ i => ∃ k : Nat, i = .int .i64 (k : Int) ∧ k ≤ us.length ∧ ok = .bool (ok0 && !(us.take k).any (fun i => (valsC C i).isEmpty))) (fun _ _ i => us.length - (intOf i).toNat)
  case atStart => exact ⟨0, rfl, Nat.zero_le _, by simp⟩
  case round =>
    obtain ⟨k, rfl, hk, rfl⟩ := hrel
    by_cases hlt : k < us.length
    · obtain ⟨gu, ou, rfl, _, hhu, hau⟩ := HU4.out.resolve_left (fun h => by subst h; exact absurd hlt (Nat.not_lt_zero _))
      have hcu := natAt hau k hlt
      have huC := HLU.out _ (List.getElem_mem hlt)
      have hany := HANY.out k hlt
      rw [valsC_at C _ huC] at hany
      have HY := Lib.hid hany
      have hkk : (k : Int) < (us.length : Int) := by omega
      clear hany hau
      generalize (us.take k).any (fun i => (valsC C i).isEmpty) = bk at *
      generalize us[k]'hlt = u at *
      have huR : u < R.length := by rw [HRC.out]; exact huC
      obtain ⟨g, o, rfl, _, _, hat⟩ := HIN4.out.resolve_left (fun h => by subst h; exact absurd huR (Nat.not_lt_zero _))
      obtain ⟨h1, h2, h3, h4⟩ := HC4.out.2 u huR huC
      have hr0 := hat.get u huR 1 _ rfl
      have hr1 : w4.cell? ⟨g, o + (u * 2 + 1), none⟩ = some (.slice (R[u]'huR).a (R[u]'huR).n (R[u]'huR).cap) := hr0
      have huu : (u : Int) < (R.length : Int) := by omega
      clear hat hr0 h1 h4
      generalize R[u]'huR = r at *
      generalize (C[u]'huC).vals = V at *
      have hr2 : w4.cell? ⟨g, o + u * 2 + 1, none⟩ = some (.slice r.a r.n r.cap) := by rw [Nat.add_assoc]; exact hr1
      clear hr1 h3
      cases hok : (ok0 && !bk)
      · have HN : Hid ((ok0 && !(us.take (k + 1)).any (fun i => (valsC C i).isEmpty)) = false) := by
          show _ = _
          rw [HY.out]
          cases ok0 <;> cases bk <;> first | rfl | (cases hok)
        clear HY hok
        go_wp2
        go_round
        case rel => exact ⟨k + 1, by go_num, by omega, by rw [HN.out]⟩
        case measure => simp [intOf]; omega
      · have HN : Hid ((ok0 && !(us.take (k + 1)).any (fun i => (valsC C i).isEmpty)) = decide (0 < V.length)) := by
          show _ = _
          rw [HY.out]
          cases ok0 <;> cases bk <;> first | (cases hok) | skip
          cases V <;> simp
        clear HY hok
        go_wp2
        go_round
        case rel => exact ⟨k + 1, by go_num, by omega, by rw [HN.out]⟩
        case measure => simp [intOf]; omega
    · obtain rfl : k = us.length := by omega
      rw [List.take_of_length_le (Nat.le_refl _)]
      have HV1 : Hid (∀ c ∈ C, c.vals.length ≤ 100000) := fun c hc => by have := (hv c hc).1; omega
      have HV2 : Hid (∀ c ∈ C, c.vals.length ≤ 100000 ∧ ∀ x ∈ c.vals, x.length ≤ 100000) := fun c hc => ⟨HV1.out c hc, (hv c hc).2⟩
      have HRW : Hid (∀ w', ListIn chCod w' a R 0 → ChsOk w' 0 R C → ListIn natCod w' au us 0 → Calls Tryz.prog 24 #[.slice au us.length cu, .slice a R.length cap] w' fun e w'' => e = .returned (.int .i64 (rowsGo C 1 us : Nat)) ∧ w' = w'') := fun w' h1 h2 h3 => rows_any C R 0 us (by omega) HLU.out HV1.out a au cap cu w' h1 h2 h3
      have HLN : Hid (∀ w', ListIn chCod w' a R 0 → ChsOk w' 0 R C → ListIn partCod w' al l 0 → Calls Tryz.prog 25 #[.slice al l.length cl, .slice a R.length cap] w' fun e w'' => e = .returned (.int .i64 (lenGo C 0 l : Nat)) ∧ Below w'.heap.size w' w'') := fun w' h1 h2 h3 => length_any C R 0 l (by omega) HLP.out HV2.out a al cap cl w' h1 h2 h3
      cases hok : (ok0 && !us.any (fun i => (valsC C i).isEmpty))
      · have HE : Hid (instT C t.text = []) := by
          show _ = _
          rw [HINST2.out]
          cases ok0
          · rfl
          · rw [if_neg (by decide), if_pos (by simpa using hok)]
        go_wp2
        exact ⟨_, results_tmp rfl _ _ _, by rw [← HPOST.out, HE.out]; exact ⟨none, 0, rfl, Nat.le_refl _, HBA.out, .inl rfl⟩⟩
      · have hI3 : instT C t.text = if 24 < rowsGo C 1 us then [] else if 2000 < lenGo C 0 l then [] else instP C l := by
          rw [HINST2.out]
          cases ok0
          · cases hok
          · rw [if_neg (by decide), if_neg (by simpa using hok)]
        have HI3 := Lib.hid hI3
        have HNE : Hid (∀ u ∈ us, 0 < (valsC C u).length) := fun u hu => by
          have h : us.any (fun i => (valsC C i).isEmpty) = false := by cases ok0 <;> simp_all
          rw [List.any_eq_false] at h
          have := h u hu
          cases hv : valsC C u with
          | nil => rw [hv] at this; exact absurd rfl this
          | cons x xs => simp
        clear hI3 hok HINST2
        have HIP : Hid (instP C l = (List.range (rowsGo C 1 us)).map (fun n => fillT (rowT C us.reverse n) l)) := by
          show _ = _
          unfold instP
          rw [HUE.out]
        generalize hN : rowsGo C 1 us = N at *
        generalize hM : lenGo C 0 l = M at *
        by_cases h24 : 24 < N
        · have HE : Hid (instT C t.text = []) := by show _ = _; rw [HI3.out, if_pos h24]
          have h24i : (24 : Int) < (N : Int) := by omega
          go_wp2_with (go_at_call 24; (with_reducible refine (HRW.out _ HIN4.out HC4.out HU4.out).mono ?_); rintro e w' ⟨rfl, rfl⟩)
          exact ⟨_, results_tmp rfl _ _ _, by rw [← HPOST.out, HE.out]; exact ⟨none, 0, rfl, Nat.le_refl _, HBA.out, .inl rfl⟩⟩
        · have h24i : ¬ (24 : Int) < (N : Int) := by omega
          by_cases h20 : 2000 < M
          · have HE : Hid (instT C t.text = []) := by show _ = _; rw [HI3.out, if_neg h24, if_pos h20]
            have h20i : (2000 : Int) < (M : Int) := by omega
            go_wp2_with (first
              | (go_at_call 24; (with_reducible refine (HRW.out _ HIN4.out HC4.out HU4.out).mono ?_); rintro e w' ⟨rfl, rfl⟩)
              | (go_at_call 25; (with_reducible refine (HLN.out _ HIN4.out HC4.out HL4.out).mono ?_); rintro e w1 ⟨rfl, hb1⟩; obtain ⟨p1, rfl⟩ := grown_of hb1; clear hb1))
            exact ⟨_, results_tmp rfl _ _ _, by rw [← HPOST.out, HE.out]; exact ⟨none, 0, rfl, Nat.le_refl _, HBA.out.trans (Below.mono (B := w4.heap.size) (by repeat (first | exact Below.refl _ _ | assumption | refine below_grown ?_ (by first | omega | (simp [go_sem]; done) | (simp [go_sem] <;> omega)) _ | refine Below.alloc ?_ (by first | omega | (simp [go_sem]; done) | (simp [go_sem] <;> omega)) _ | refine below_bytesW ?_ (by first | omega | (simp [go_sem]; done) | (simp [go_sem] <;> omega)) _ | refine Below.drew ?_ | refine below_drewN ?_ _)) HBA.out.size), .inl rfl⟩⟩
          · have h20i : ¬ (2000 : Int) < (M : Int) := by omega
            have HE : Hid (instT C t.text = (List.range N).map (fun n => fillT (rowT C us.reverse n) l)) := by show _ = _; rw [HI3.out, if_neg h24, if_neg h20, HIP.out]
            clear HI3 HIP
            go_upto_region 12 with (first
              | (go_at_call 24; (with_reducible refine (HRW.out _ (HIN4.out.below (by repeat (first | exact Below.refl _ _ | assumption | refine below_grown ?_ (by first | omega | (simp [go_sem]; done) | (simp [go_sem] <;> omega)) _ | refine Below.alloc ?_ (by first | omega | (simp [go_sem]; done) | (simp [go_sem] <;> omega)) _ | refine below_bytesW ?_ (by first | omega | (simp [go_sem]; done) | (simp [go_sem] <;> omega)) _ | refine Below.drew ?_ | refine below_drewN ?_ _))) (HC4.out.below (by repeat (first | exact Below.refl _ _ | assumption | refine below_grown ?_ (by first | omega | (simp [go_sem]; done) | (simp [go_sem] <;> omega)) _ | refine Below.alloc ?_ (by first | omega | (simp [go_sem]; done) | (simp [go_sem] <;> omega)) _ | refine below_bytesW ?_ (by first | omega | (simp [go_sem]; done) | (simp [go_sem] <;> omega)) _ | refine Below.drew ?_ | refine below_drewN ?_ _))) (HU4.out.below (by repeat (first | exact Below.refl _ _ | assumption | refine below_grown ?_ (by first | omega | (simp [go_sem]; done) | (simp [go_sem] <;> omega)) _ | refine Below.alloc ?_ (by first | omega | (simp [go_sem]; done) | (simp [go_sem] <;> omega)) _ | refine below_bytesW ?_ (by first | omega | (simp [go_sem]; done) | (simp [go_sem] <;> omega)) _ | refine Below.drew ?_ | refine below_drewN ?_ _)))).mono ?_); rintro e w' ⟨rfl, rfl⟩)
              | (go_at_call 25; (with_reducible refine (HLN.out _ HIN4.out HC4.out HL4.out).mono ?_); rintro e w1 ⟨rfl, hb1⟩; obtain ⟨p1, rfl⟩ := grown_of hb1; clear hb1))
            have HB5 : Hid (Below w4.heap.size w4 (grown w4 p1)) := (by repeat (first | exact Below.refl _ _ | assumption | refine below_grown ?_ (by first | omega | (simp [go_sem]; done) | (simp [go_sem] <;> omega)) _ | refine Below.alloc ?_ (by first | omega | (simp [go_sem]; done) | (simp [go_sem] <;> omega)) _ | refine below_bytesW ?_ (by first | omega | (simp [go_sem]; done) | (simp [go_sem] <;> omega)) _ | refine Below.drew ?_ | refine below_drewN ?_ _))
            have HBB : Hid (Below w.heap.size w (grown w4 p1)) := HBA.out.trans (HB5.out.mono HBA.out.size)
            have HIN5 := Lib.hid (HIN4.out.below HB5.out)
            have HC5 := Lib.hid (HC4.out.below HB5.out)
            have HU5 := Lib.hid (HU4.out.below HB5.out)
            have HL5 := Lib.hid (HL4.out.below HB5.out)
            have HV35 := Lib.hid (HV34.out.below HB5.out)
            have hbs5 := HV35.out.lt
            clear HIN4 HC4 HU4 HL4 HV34 HRW HLN c30 hib3 hm4 HBA
            generalize grown w4 p1 = w5 at *
            have HN24 : Hid (N ≤ 24) := Nat.not_lt.1 h24
            refine wp_loop (fun a' W => ∃ (Ds : List Nat) (k : Nat) (v : Value), ∃ u0 u1 u2 u4 u6 u8 u9 u11 u12 u13 u14 u15 u16 u17 u18 u19 u20 u21 u22 u23 u24 u25 u26 u27 u28 u29 u30 u31 u32 u33 u34 u35 u36 u37 u38 u39 u40 u41 u42 u43 u44 u45 u46 u47 u48 u49 u50 u51 u52 u53 u54 u55 u56 u57 u58 u59 u60 u63 u64 u65 u66 u67 u68 u69 u70 u71 u72 u73 u74 u75 u76 u77 u78 u79 u80 u81 u82 u83 u84 u85 u86 u87 u88 u89 u90 u91 u92 u93 u94 u95 u96 u97 u98 u99 u100 u101 u102 u103 u104 u105 u106 u107 u108 : Value, (k ≤ N ∧ Own strCod (From w5.heap.size) W v ((List.range k).map (fun n => fillT (rowT C us.reverse n) l)) ∧ Below w5.heap.size w5 W ∧ (∀ D ∈ Ds, w5.heap.size ≤ D ∧ W.heap[D]? = some (.deferred (some []))) ∧ Ds.Nodup) ∧ a' = { tmps := List.toArray (u0 :: u1 :: u2 :: (.pointer (some ⟨b3, 0, none⟩)) :: u4 :: (.slice al l.length cl) :: u6 :: (.slice au us.length cu) :: u8 :: u9 :: (v) :: u11 :: u12 :: u13 :: u14 :: u15 :: u16 :: u17 :: u18 :: u19 :: u20 :: u21 :: u22 :: u23 :: u24 :: u25 :: u26 :: u27 :: u28 :: u29 :: u30 :: u31 :: u32 :: u33 :: u34 :: u35 :: u36 :: u37 :: u38 :: u39 :: u40 :: u41 :: u42 :: u43 :: u44 :: u45 :: u46 :: u47 :: u48 :: u49 :: u50 :: u51 :: u52 :: u53 :: u54 :: u55 :: u56 :: u57 :: u58 :: u59 :: u60 :: (.int .i64 (N : Int)) :: (.int .i64 (k : Int)) :: u63 :: u64 :: u65 :: u66 :: u67 :: u68 :: u69 :: u70 :: u71 :: u72 :: u73 :: u74 :: u75 :: u76 :: u77 :: u78 :: u79 :: u80 :: u81 :: u82 :: u83 :: u84 :: u85 :: u86 :: u87 :: u88 :: u89 :: u90 :: u91 :: u92 :: u93 :: u94 :: u95 :: u96 :: u97 :: u98 :: u99 :: u100 :: u101 :: u102 :: u103 :: u104 :: u105 :: u106 :: u107 :: u108 :: []), defers := Ds.map markD }) (fun a' _ => N - (intOf (a'.tmps.getD 62 undef)).toNat) ?_ ?_
            · refine ⟨[], 0, .slice none 0 0, ?_⟩
              (repeat apply Exists.intro)
              exact ⟨⟨Nat.zero_le _, Own.nil _ _, Below.refl _ _, fun D h => absurd h (List.not_mem_nil), List.nodup_nil⟩, rfl⟩
            · intro _ wo hI
              obtain ⟨Ds, k, v, hI⟩ := hI
              obtain ⟨u0, hI⟩ := hI
              obtain ⟨u1, hI⟩ := hI
              obtain ⟨u2, hI⟩ := hI
              obtain ⟨u4, hI⟩ := hI
              obtain ⟨u6, hI⟩ := hI
              obtain ⟨u8, hI⟩ := hI
              obtain ⟨u9, hI⟩ := hI
              obtain ⟨u11, hI⟩ := hI
              obtain ⟨u12, hI⟩ := hI
              obtain ⟨u13, hI⟩ := hI
              obtain ⟨u14, hI⟩ := hI
              obtain ⟨u15, hI⟩ := hI
              obtain ⟨u16, hI⟩ := hI
              obtain ⟨u17, hI⟩ := hI
              obtain ⟨u18, hI⟩ := hI
              obtain ⟨u19, hI⟩ := hI
              obtain ⟨u20, hI⟩ := hI
              obtain ⟨u21, hI⟩ := hI
              obtain ⟨u22, hI⟩ := hI
              obtain ⟨u23, hI⟩ := hI
              obtain ⟨u24, hI⟩ := hI
              obtain ⟨u25, hI⟩ := hI
              obtain ⟨u26, hI⟩ := hI
              obtain ⟨u27, hI⟩ := hI
              obtain ⟨u28, hI⟩ := hI
              obtain ⟨u29, hI⟩ := hI
              obtain ⟨u30, hI⟩ := hI
              obtain ⟨u31, hI⟩ := hI
              obtain ⟨u32, hI⟩ := hI
              obtain ⟨u33, hI⟩ := hI
              obtain ⟨u34, hI⟩ := hI
              obtain ⟨u35, hI⟩ := hI
              obtain ⟨u36, hI⟩ := hI
              obtain ⟨u37, hI⟩ := hI
              obtain ⟨u38, hI⟩ := hI
              obtain ⟨u39, hI⟩ := hI
              obtain ⟨u40, hI⟩ := hI
              obtain ⟨u41, hI⟩ := hI
              obtain ⟨u42, hI⟩ := hI
              obtain ⟨u43, hI⟩ := hI
              obtain ⟨u44, hI⟩ := hI
              obtain ⟨u45, hI⟩ := hI
              obtain ⟨u46, hI⟩ := hI
              obtain ⟨u47, hI⟩ := hI
              obtain ⟨u48, hI⟩ := hI
              obtain ⟨u49, hI⟩ := hI
              obtain ⟨u50, hI⟩ := hI
              obtain ⟨u51, hI⟩ := hI
              obtain ⟨u52, hI⟩ := hI
              obtain ⟨u53, hI⟩ := hI
              obtain ⟨u54, hI⟩ := hI
              obtain ⟨u55, hI⟩ := hI
              obtain ⟨u56, hI⟩ := hI
              obtain ⟨u57, hI⟩ := hI
              obtain ⟨u58, hI⟩ := hI
              obtain ⟨u59, hI⟩ := hI
              obtain ⟨u60, hI⟩ := hI
              obtain ⟨u63, hI⟩ := hI
              obtain ⟨u64, hI⟩ := hI
              obtain ⟨u65, hI⟩ := hI
              obtain ⟨u66, hI⟩ := hI
              obtain ⟨u67, hI⟩ := hI
              obtain ⟨u68, hI⟩ := hI
              obtain ⟨u69, hI⟩ := hI
              obtain ⟨u70, hI⟩ := hI
              obtain ⟨u71, hI⟩ := hI
              obtain ⟨u72, hI⟩ := hI
              obtain ⟨u73, hI⟩ := hI
              obtain ⟨u74, hI⟩ := hI
              obtain ⟨u75, hI⟩ := hI
              obtain ⟨u76, hI⟩ := hI
              obtain ⟨u77, hI⟩ := hI
              obtain ⟨u78, hI⟩ := hI
              obtain ⟨u79, hI⟩ := hI
              obtain ⟨u80, hI⟩ := hI
              obtain ⟨u81, hI⟩ := hI
              obtain ⟨u82, hI⟩ := hI
              obtain ⟨u83, hI⟩ := hI
              obtain ⟨u84, hI⟩ := hI
              obtain ⟨u85, hI⟩ := hI
              obtain ⟨u86, hI⟩ := hI
              obtain ⟨u87, hI⟩ := hI
              obtain ⟨u88, hI⟩ := hI
              obtain ⟨u89, hI⟩ := hI
              obtain ⟨u90, hI⟩ := hI
              obtain ⟨u91, hI⟩ := hI
              obtain ⟨u92, hI⟩ := hI
              obtain ⟨u93, hI⟩ := hI
              obtain ⟨u94, hI⟩ := hI
              obtain ⟨u95, hI⟩ := hI
              obtain ⟨u96, hI⟩ := hI
              obtain ⟨u97, hI⟩ := hI
              obtain ⟨u98, hI⟩ := hI
              obtain ⟨u99, hI⟩ := hI
              obtain ⟨u100, hI⟩ := hI
              obtain ⟨u101, hI⟩ := hI
              obtain ⟨u102, hI⟩ := hI
              obtain ⟨u103, hI⟩ := hI
              obtain ⟨u104, hI⟩ := hI
              obtain ⟨u105, hI⟩ := hI
              obtain ⟨u106, hI⟩ := hI
              obtain ⟨u107, hI⟩ := hI
              obtain ⟨u108, hI⟩ := hI
              obtain ⟨⟨hk, hov, hbr, hDs, hnd⟩, ha⟩ := hI
              subst ha
              have HBR := Lib.hid hbr
              have HOV := Lib.hid hov
              have HDS := Lib.hid hDs
              have HND := Lib.hid hnd
              have hszr := hbr.size
              clear hbr hov hDs hnd
              by_cases hlt : k < N
              · have hki : (k : Int) < (N : Int) := by omega
                have hmm := @run_makeMap Tryz.prog
                go_wp2_with (go_at_call 26; (with_reducible refine (bk_any _ _ _ _).mono ?_); rintro e w' ⟨rfl, rfl⟩)
                have hA1 : Var (wo.alloc (.cells #[.int .i64 (k : Int)] 3)) wo.heap.size [.int .i64 (k : Int)] := Var.new _ _ _ rfl rfl
                have hM1 : MapF Tryz.prog 3 ((wo.alloc (.cells #[.int .i64 (k : Int)] 3)).alloc (.map #[] 0)) (wo.heap.size + 1) (fR []) 0 := by
                  have := MapF.made (P := Tryz.prog) (K := 3) (wo.alloc (.cells #[.int .i64 (k : Int)] 3))
                  rw [World.size_alloc] at this
                  rw [fR_nil]; exact this
                have hV2 : Var (((wo.alloc (.cells #[.int .i64 (k : Int)] 3)).alloc (.map #[] 0)).alloc (.cells #[.map (some (wo.heap.size + 1))] 67)) (wo.heap.size + 1 + 1) [.map (some (wo.heap.size + 1))] := Var.new _ _ _ rfl (by simp)
                have hV3 : Var ((((wo.alloc (.cells #[.int .i64 (k : Int)] 3)).alloc (.map #[] 0)).alloc (.cells #[.map (some (wo.heap.size + 1))] 67)).alloc (.cells #[.slice au us.length cu] 63)) (wo.heap.size + 1 + 1 + 1) [.slice au us.length cu] := Var.new _ _ _ rfl (by simp)
                have hbx : Below wo.heap.size wo ((((wo.alloc (.cells #[.int .i64 (k : Int)] 3)).alloc (.map #[] 0)).alloc (.cells #[.map (some (wo.heap.size + 1))] 67)).alloc (.cells #[.slice au us.length cu] 63)) := (by repeat (first | exact Below.refl _ _ | assumption | refine below_grown ?_ (by first | omega | (simp [go_sem]; done) | (simp [go_sem] <;> omega)) _ | refine Below.alloc ?_ (by first | omega | (simp [go_sem]; done) | (simp [go_sem] <;> omega)) _ | refine below_bytesW ?_ (by first | omega | (simp [go_sem]; done) | (simp [go_sem] <;> omega)) _ | refine Below.drew ?_ | refine below_drewN ?_ _))
                have hA1' := ((hA1.alloc (.map #[] 0)).alloc (.cells #[.map (some (wo.heap.size + 1))] 67)).alloc (.cells #[.slice au us.length cu] 63)
                have hM1' := (hM1.old (((Below.refl _ _).alloc (Nat.le_refl _) (.cells #[.map (some (wo.heap.size + 1))] 67)).block _ hM1.lt))
                have hM2' := (hM1'.old (((Below.refl _ _).alloc (Nat.le_refl _) (.cells #[.slice au us.length cu] 63)).block _ hM1'.lt))
                have hV2' := hV2.alloc (.cells #[.slice au us.length cu] 63)
                have hszA : ((((wo.alloc (.cells #[.int .i64 (k : Int)] 3)).alloc (.map #[] 0)).alloc (.cells #[.map (some (wo.heap.size + 1))] 67)).alloc (.cells #[.slice au us.length cu] 63)).heap.size = wo.heap.size + 4 := by simp
                have hwp : ∀ {c : Code} {Q : Exit → Act → World → Prop} {a : Act} {W : World}, c.wpIn Fence.wide 3 Tryz.prog Q a W → c.wp Tryz.prog Q a W := fun h => wpIn_wide.1 h
                refine hwp ?_
                clear hA1 hM1 hM1' hV2 hmm
                generalize ((((wo.alloc (.cells #[.int .i64 (k : Int)] 3)).alloc (.map #[] 0)).alloc (.cells #[.map (some (wo.heap.size + 1))] 67)).alloc (.cells #[.slice au us.length cu] 63)) = WA at *
                have hBA : Below w5.heap.size w5 WA := HBR.out.trans (hbx.mono hszr)
                obtain ⟨gu, ou, hgu, hgo⟩ : ∃ gu ou, gu < w5.heap.size ∧ (us = [] ∨ (au = some ⟨gu, ou, none⟩ ∧ ListAt natCod WA gu ou us)) := by
                  rcases HU5.out with h | ⟨gu, ou, h1, _, h3, h4⟩
                  · exact ⟨b3, 0, hbs5, .inl h⟩
                  · exact ⟨gu, ou, h3, .inr ⟨h1, h4.below hBA⟩⟩
                have HBAW := Lib.hid hBA
                have HV3A := Lib.hid hV3
                have HV2A := Lib.hid hV2'
                have HBX := Lib.hid hbx
                have HIN6 := Lib.hid (HIN5.out.below hBA)
                have HC6 := Lib.hid (HC5.out.below hBA)
                have HV36 := Lib.hid (HV35.out.below hBA)
                have hulen := hul
                refine wpIn_rangeFunc_ownH (n := 3) rfl (by decide) (gf := 50) (lb := #[.pointer (some ⟨wo.heap.size + 1 + 1 + 1, 0, none⟩)]) rfl trivial (enters_of Tryz.func50 (by kernel_rfl) rfl)
                  (bk_stops us au gu ou cu (wo.heap.size + 1 + 1 + 1) 2 (by decide) (by omega) WA (by omega) (by omega) (hV3.cell 0 (by simp)) hgo) (fun h h' => h.trans h') (fun W l o o' h1 h2 h3 h4 => KpBk.putObj (n := WA.heap.size) (by omega) (by omega) W l o o' h1 h2 h3 h4) (Below.refl _ _) (fun _ => rfl)
                  (fun (pre : List (BkX us)) Wx => Keeps (fun g => g = wo.heap.size ∨ g = wo.heap.size + 1 ∨ WA.heap.size ≤ g) WA Wx ∧ Var Wx wo.heap.size [.int .i64 ((((pre.map (fun x => x.1.2)).foldl (stepR C) (k, [])).1 : Nat) : Int)] ∧ ∃ c, c ≤ pre.length ∧ MapF Tryz.prog 3 Wx (wo.heap.size + 1) (fR ((pre.map (fun x => x.1.2)).foldl (stepR C) (k, [])).2) c)
                  (fun _ _ _ => False)
                  (fun s X Y row hs hg hr => by
                    obtain ⟨h1, h2, c, h3, h4⟩ := hs
                    have hne : ∀ g, g < WA.heap.size → some g ≠ row := fun g hg' e => by have := (hr g e.symm).1; omega
                    refine ⟨h1.trans ((keeps_of_by hg).weak (fun q _ hq => .inr (.inr (hr q hq).1))), h2.old (hg.block _ h2.lt (hne _ (by omega))), c, h3, h4.old (hg.block _ h4.lt (hne _ (by omega)))⟩)
                  (fun _ _ _ _ _ hs _ _ => hs)
                  ⟨Keeps.refl _ _, hA1', 0, Nat.le_refl _, hM2'⟩
                  (fun (x : BkX us) a' _ => ∃ u0 u1 u2 u4 u5 u6 u7 u8 u9 u10 u13 u15 u16 u17 u18 u19 u20 u21 u22 u23 u24 u25 u26 u27 u28 u29 u30 u31 u32 u33 u34 u35 u36 u37 u38 u39 u40 u41 u42 u43 u44 u45 u46 u47 u48 u49 u50 u51 u52 u53 u54 u55 u56 u57 u58 u59 u60 u61 u62 u63 u64 u65 u66 u67 u68 u69 u70 u71 u72 u73 u74 u75 u76 u77 u78 u79 u80 u81 u82 u83 u84 u85 u86 u87 u88 u89 u90 u91 u92 u93 u94 u95 u96 u97 u98 u99 u100 u101 u102 u103 u104 u105 u106 u107 u108 : Value, a' = { tmps := List.toArray (u0 :: u1 :: u2 :: (.pointer (some ⟨b3, 0, none⟩)) :: u4 :: u5 :: u6 :: u7 :: u8 :: u9 :: u10 :: (.pointer (some ⟨wo.heap.size, 0, none⟩)) :: (.pointer (some ⟨wo.heap.size + 1 + 1, 0, none⟩)) :: u13 :: (.int .i64 ((x.1.2 : Nat) : Int)) :: u15 :: u16 :: u17 :: u18 :: u19 :: u20 :: u21 :: u22 :: u23 :: u24 :: u25 :: u26 :: u27 :: u28 :: u29 :: u30 :: u31 :: u32 :: u33 :: u34 :: u35 :: u36 :: u37 :: u38 :: u39 :: u40 :: u41 :: u42 :: u43 :: u44 :: u45 :: u46 :: u47 :: u48 :: u49 :: u50 :: u51 :: u52 :: u53 :: u54 :: u55 :: u56 :: u57 :: u58 :: u59 :: u60 :: u61 :: u62 :: u63 :: u64 :: u65 :: u66 :: u67 :: u68 :: u69 :: u70 :: u71 :: u72 :: u73 :: u74 :: u75 :: u76 :: u77 :: u78 :: u79 :: u80 :: u81 :: u82 :: u83 :: u84 :: u85 :: u86 :: u87 :: u88 :: u89 :: u90 :: u91 :: u92 :: u93 :: u94 :: u95 :: u96 :: u97 :: u98 :: u99 :: u100 :: u101 :: u102 :: u103 :: u104 :: u105 :: u106 :: u107 :: u108 :: []), defers := [] })
                  (fun _ _ _ _ _ _ hs _ _ => hs)
                  ?assign ?body ?done ?stop
                case assign =>
                  rintro l0 pre x Wx K hi hK
                  gi_wp2
                  exact hK _ _ (KeepsFrom.refl _ _) ⟨rfl, rfl⟩ hi (by (repeat apply Exists.intro); rfl)
                case stop => exact fun _ _ _ _ _ _ hs => hs.elim
                case done =>
                  rintro D xs Wx hD hS ⟨hk1, hv1, c1, hc1, hm1⟩ hKD
                  have hfin : ((xs.map (fun x : BkX us => x.1.2)).foldl (stepR C) (k, [])).2 = rowT C us.reverse k := by
                    unfold rowT
                    have e1 : xs.map (fun x : BkX us => x.1.2) = us.reverse := by
                      rw [← bkTake_rev, ← hS, List.map_map]; rfl
                    rw [e1]
                  rw [hfin] at hm1
                  clear hfin hS hc1
                  have HAL : Hid (∀ z, (atRow (rowT C us.reverse k) z).length ≤ 100000) := fun z => atRow_len (rowT_len (fun c hc => (hv c hc).2) us.reverse (k, []) (fun r hr => absurd hr (List.not_mem_nil))) z
                  generalize hRW : rowT C us.reverse k = RW at *
                  have HM1 := Lib.hid hm1
                  have HK1 := Lib.hid hk1
                  have HKD := Lib.hid hKD
                  clear hm1 hk1 hKD hv1
                  have HVA : Hid (∀ g, g < w5.heap.size → Wx.heap[g]? = w5.heap[g]?) := fun g hg => (HK1.out.block g (Nat.lt_of_lt_of_le hg HBAW.out.size) (by have := HBAW.out.size; rintro (e | e | e) <;> omega)).trans (HBAW.out.block g hg)
                  have hc12 : Wx.cell? ⟨wo.heap.size + 1 + 1, 0, none⟩ = some (.map (some (wo.heap.size + 1))) := (HV2A.out.keeps HK1.out (by rintro (e | e | e) <;> omega)).cell 0 (by simp)
                  have hszx := HK1.out.size
                  have hsA := HBAW.out.size
                  go_upto_region 22 with fail
                  have HBU := Lib.hid (builder_new Wx)
                  have HB0 : Hid (Below Wx.heap.size Wx (Wx.alloc (.cells #[.pointer none, .slice none 0 0] 74))) := (by repeat (first | exact Below.refl _ _ | assumption | refine below_grown ?_ (by first | omega | (simp [go_sem]; done) | (simp [go_sem] <;> omega)) _ | refine Below.alloc ?_ (by first | omega | (simp [go_sem]; done) | (simp [go_sem] <;> omega)) _ | refine below_bytesW ?_ (by first | omega | (simp [go_sem]; done) | (simp [go_sem] <;> omega)) _ | refine Below.drew ?_ | refine below_drewN ?_ _))
                  have hFT : ∀ j (hj : j < l.length), fillT RW (l.take (j + 1)) = fillT RW (l.take j) ++ ((l[j]'hj).1 ++ atRow RW (l[j]'hj).2) := fun j hj => by
                    unfold fillT
                    rw [List.take_succ_eq_append_getElem hj, List.flatMap_append]; simp
                  have HFT := Lib.hid hFT
                  clear hFT
                  generalize (Wx.alloc (.cells #[.pointer none, .slice none 0 0] 74)) = wb at *
                  go_loopw [90] (fun i wr => ∃ j : Nat, i = .int .i64 (j : Int) ∧ j ≤ l.length ∧ (fillT RW (l.take j)).length ≤ j * 300000 ∧ Lib.IsBuilderF 74 5 Wx.heap.size Wx.heap.size (Lib.byteCells (fillT RW (l.take j))) wr ∧ Below Wx.heap.size Wx wr) (fun i _ => l.length - (intOf i).toNat)
                  case atStart => exact ⟨0, rfl, Nat.zero_le _, Nat.le_refl _, HBU.out, HB0.out⟩
                  case round =>
                    obtain ⟨j, rfl, hj, hfl, hib, hbt⟩ := hrel
                    have hszt := hbt.size
                    have HBT := Lib.hid hbt
                    have HIB := Lib.hid hib
                    clear hbt hib
                    by_cases hjl : j < l.length
                    · obtain ⟨g, o, rfl, _, hgw, hat⟩ := HL5.out.resolve_left (fun h => by subst h; exact absurd hjl (Nat.not_lt_zero _))
                      have hgx : g < Wx.heap.size := by have := hgw; omega
                      have hat' : ListAt partCod wr g o l := fun q u hq => by
                        rw [World.cell?_of_block (a := ⟨g, _, none⟩) ((HBT.out.block g hgx).trans (HVA.out g hgw))]; exact hat q u hq
                      obtain ⟨r1, q1⟩ := partRow hat' j hjl
                      have hio : isOld g wr = true := isOld_iff.2 (by omega)
                      have hjj : (j : Int) < (l.length : Int) := by omega
                      have hft := HFT.out j hjl
                      obtain ⟨hpl1, hpl2⟩ := HLP.out _ (List.getElem_mem hjl)
                      have hpl3 := HLM.out _ (List.getElem_mem hjl)
                      have hatl := HAL.out (l[j]'hjl).2
                      have HFT2 := Lib.hid hft
                      have hfl2 : (fillT RW (l.take (j + 1))).length ≤ (j + 1) * 300000 := by rw [hft]; simp only [List.length_append]; omega
                      have HFL2 := Lib.hid hfl2
                      clear hft hat hat' hfl2
                      generalize hP : fillT RW (l.take j) = PF at *
                      generalize l[j]'hjl = p at *
                      obtain ⟨tx, ch⟩ := p
                      dsimp only at hpl1 hpl2 hpl3 hatl HFT2
                      have hwf : (Lit.int .i64 ch).wf = true := intWf hpl3 (by
                        have hR1 := HRC.out
                        by_cases h : 0 ≤ ch
                        · have := hpl2 h; omega
                        · omega)
                      have hb12 : isOld (wo.heap.size + 1 + 1) wr = true := isOld_iff.2 (by omega)
                      have hc12r : wr.cell? ⟨wo.heap.size + 1 + 1, 0, none⟩ = some (.map (some (wo.heap.size + 1))) := (HBT.out.cell (p := ⟨wo.heap.size + 1 + 1, 0, none⟩) (by show wo.heap.size + 1 + 1 < _; omega)).trans hc12
                      have hMr : MapF Tryz.prog 3 (wr.alloc (.cells (ptVV (tx, ch)) 76)) (wo.heap.size + 1) (fR RW) c1 := (HM1.out.old (HBT.out.block _ HM1.out.lt)).old ((((Below.refl wr.heap.size wr).alloc (Nat.le_refl _) _)).block _ (by omega))
                      have hlk := (hMr.look (z := .string ⟨#[]⟩) intLaw imapTy (zeroStr _) (intKey hwf)).2
                      rw [fR_at] at hlk
                      have hatl2 := hatl
                      generalize hAT : atRow RW ch = av at *
                      have HWS : Hid (∀ s, s.size ≤ 1000000 → Calls Tryz.prog 27 #[.pointer (some ⟨Wx.heap.size, 0, none⟩), .string s] (wr.alloc (.cells (ptVV (tx, ch)) 76)) fun e w' => e = .returned (.tuple #[.int .i64 s.size, .nilIface]) ∧ (Lib.BuilderAtF 74 5 Wx.heap.size Wx.heap.size (.pointer (some ⟨Wx.heap.size, 0, none⟩)) (Lib.byteCells PF ++ Lib.strCells s) w' ∧ Below Wx.heap.size (wr.alloc (.cells (ptVV (tx, ch)) 76)) w')) := fun s hs => writeStr_any _ _ _ s _ (HIB.out.alloc _) (by rw [Lib.byteCells_length]; omega) (by simp; omega)
                      clear hMr hatl
                      go_wp2_with (go_at_call 27; (with_reducible refine (HWS.out _ ?_).mono ?_); (simp [ByteArray.size]; omega); rintro e w9 ⟨rfl, hbu9, hb9⟩; have HBU9 := Lib.hid hbu9; have HB9 := Lib.hid hb9; clear hbu9 hb9)
                      go_roundw
                      case rel =>
                        refine ⟨j + 1, by go_num, by omega, HFL2.out, .inr ?_, HBT.out.trans ((Below.mono (B := wr.heap.size) (by repeat (first | exact Below.refl _ _ | assumption | refine below_grown ?_ (by first | omega | (simp [go_sem]; done) | (simp [go_sem] <;> omega)) _ | refine Below.alloc ?_ (by first | omega | (simp [go_sem]; done) | (simp [go_sem] <;> omega)) _ | refine below_bytesW ?_ (by first | omega | (simp [go_sem]; done) | (simp [go_sem] <;> omega)) _ | refine Below.drew ?_ | refine below_drewN ?_ _)) hszt).trans HB9.out)⟩
                        rw [HFT2.out, byteCells_app]
                        exact HBU9.out
                      case measure => simp [intOf]; omega
                    · obtain rfl : j = l.length := by omega
                      rw [List.take_of_length_le (Nat.le_refl _)] at HIB hfl
                      have hF : fillT RW l = fillT (rowT C us.reverse k) l := by rw [hRW]
                      generalize hFF : fillT RW l = F at *
                      have HSG : Hid (Calls Tryz.prog 28 #[.pointer (some ⟨Wx.heap.size, 0, none⟩)] wr fun e w' => e = .returned (.string ⟨F.toArray⟩) ∧ Below Wx.heap.size wr w') := (Tryz.Builder_String_any_f Wx.heap.size Wx.heap.size F wr HIB.out hszt).mono fun e w' h => ⟨h.1, h.2.2⟩
                      have HRG : Hid ((List.range (k + 1)).map (fun n => fillT (rowT C us.reverse n) l) = (List.range k).map (fun n => fillT (rowT C us.reverse n) l) ++ [F]) := by
                        show _ = _
                        rw [List.range_succ, List.map_append, hF]; rfl
                      have hol : ((List.range k).map (fun n => fillT (rowT C us.reverse n) l)).length ≤ 24 := by rw [List.length_map, List.length_range]; have := HN24.out; omega
                      clear hF
                      generalize (List.range k).map (fun n => fillT (rowT C us.reverse n) l) = OUTS at *
                      have hwA : Below w5.heap.size w5 wr := (HBAW.out.trans (HK1.out.below (B := w5.heap.size) (fun q hq => ⟨by omega, by rintro (e | e | e) <;> omega⟩))).trans (HBT.out.mono (by omega))
                      have HWA9 := Lib.hid hwA
                      have hold : ∀ g, g < wo.heap.size → wr.heap[g]? = wo.heap[g]? := fun g hg => (HBT.out.block g (by omega)).trans ((HK1.out.block g (by omega) (by rintro (e | e | e) <;> omega)).trans (HBX.out.block g hg))
                      have HOLD := Lib.hid hold
                      obtain ⟨QQ, hQQ⟩ : ∃ QQ : Nat → Prop, (fun g => v.ownBlock = some g ∨ Wx.heap.size ≤ g) = QQ := ⟨_, rfl⟩
                      have HQQ := Lib.hid hQQ
                      have HQS : Hid (∀ z, Wx.heap.size ≤ z → QQ z) := fun z hz => by rw [← hQQ]; exact .inr hz
                      have HOWN : Hid (∀ w', (∀ g, g < wo.heap.size → w'.heap[g]? = wo.heap[g]?) → Own strCod QQ w' v OUTS) := fun w' hw' => Own.blocks (c := strCod) (Q := QQ) (w := wo) ⟨HOV.out.1, fun g hg => by rw [← hQQ]; exact .inl hg⟩ (fun g _ hg => hw' g hg)
                      clear hwA hold
                      go_wp2_with (first
                        | (go_at_call 28; (with_reducible refine HSG.out.mono ?_); rintro e w9 ⟨rfl, hb9⟩; have HB9 := Lib.hid hb9; have hs9 := hb9.size; have HOLD9 : Hid (∀ o g, g < wo.heap.size → (w9.alloc o).heap[g]? = wo.heap[g]?) := (fun o g hg => ((((Below.refl w9.heap.size w9).alloc (Nat.le_refl _) o).block g (by omega)).trans (HB9.out.block g (by omega))).trans (HOLD.out g hg)); clear hb9)
                        | (at_builtin; go_loud (refine wpList_append_list rfl strCod (.tmp 103) (.tmp 105) 26 rfl rfl QQ _ _ OUTS rfl (HOWN.out _ (HOLD9.out _)) _ 0 _ _ [F] rfl rfl (listAt_new _ _ _ _ rfl (by simp [go_sem])) (by simp [strCod]; omega) (by simp; omega) (HQS.out _ (by simp; omega)) ?_); intro v' w1 ho1 hb1; have HO1 := Lib.hid ho1; have HB1 := Lib.hid hb1; clear ho1 hb1))
                      have hqq : ∀ q, QQ q → v.ownBlock = some q ∨ Wx.heap.size ≤ q := fun q hq => by rw [← HQQ.out] at hq; exact hq
                      have hsB : (w9.alloc (Obj.cells #[.string ⟨F.toArray⟩] 9)).heap.size = w9.heap.size + 1 := by simp
                      have hs1 := HB1.out.size
                      have hb5 : Below w5.heap.size w5 w9 := HWA9.out.trans (HB9.out.mono (by omega))
                      have hb5a : Below w5.heap.size w5 (w9.alloc (Obj.cells #[.string ⟨F.toArray⟩] 9)) := hb5.alloc hb5.size _
                      have hb51 : Below w5.heap.size w5 w1 := hb5a.trans (HB1.out.below (B := w5.heap.size) (fun q hq => ⟨by omega, fun hc => by
                        rcases hqq q hc with e | e
                        · have := from_le (HOV.out.2 q e); omega
                        · omega⟩))
                      have hDl : D < Wx.heap.size := (Array.getElem?_eq_some_iff.1 HKD.out).1
                      have hmk : ∀ D' ∈ D :: Ds, w5.heap.size ≤ D' ∧ w1.heap[D']? = some (.deferred (some [])) := by
                        intro D' hD'
                        rcases List.mem_cons.1 hD' with rfl | hD'
                        · refine ⟨by omega, ?_⟩
                          rw [HB1.out.block D' (by omega) (fun hc => by
                            rcases hqq D' hc with e | e
                            · have := (own_cells HOV.out e).1; omega
                            · omega)]
                          rw [((Below.refl w9.heap.size w9).alloc (Nat.le_refl _) _).block D' (by omega), HB9.out.block D' hDl, HBT.out.block D' hDl]
                          exact HKD.out
                        · obtain ⟨g1, g2⟩ := HDS.out D' hD'
                          have hlt' : D' < wo.heap.size := (Array.getElem?_eq_some_iff.1 g2).1
                          refine ⟨g1, ?_⟩
                          rw [HB1.out.block D' (by omega) (fun hc => by
                            rcases hqq D' hc with e | e
                            · exact (own_cells HOV.out e).2 _ g2
                            · omega)]
                          rw [HOLD9.out _ D' hlt']
                          exact g2
                      have hnd' : (D :: Ds).Nodup := List.nodup_cons.2 ⟨fun hc => by
                        have hlt' : D < wo.heap.size := (Array.getElem?_eq_some_iff.1 (HDS.out D hc).2).1
                        omega, HND.out⟩
                      have hown' : Own strCod (From w5.heap.size) w1 v' ((List.range (k + 1)).map (fun n => fillT (rowT C us.reverse n) l)) := by
                        rw [HRG.out]
                        exact HO1.out.sub (fun g hg => by
                          rcases hqq g hg with e | e
                          · exact HOV.out.2 g e
                          · show w5.heap.size ≤ g; omega)
                      refine ⟨⟨D :: Ds, k + 1, v', ?_⟩, ?_⟩
                      · (repeat apply Exists.intro)
                        exact ⟨⟨by omega, hown', hb51, hmk, hnd'⟩, rfl⟩
                      · show N - (intOf (.int .i64 ((k : Int) + 1))).toNat < N - (intOf (.int .i64 (k : Int))).toNat
                        simp [intOf]; omega
                case body =>
                  rintro l0 pre x a' Wx hl0 ⟨r0, hr0⟩ ⟨hk1, hv1, c1, hc1, hm1⟩ hA hlt0
                  obtain ⟨u0, hA⟩ := hA
                  obtain ⟨u1, hA⟩ := hA
                  obtain ⟨u2, hA⟩ := hA
                  obtain ⟨u4, hA⟩ := hA
                  obtain ⟨u5, hA⟩ := hA
                  obtain ⟨u6, hA⟩ := hA
                  obtain ⟨u7, hA⟩ := hA
                  obtain ⟨u8, hA⟩ := hA
                  obtain ⟨u9, hA⟩ := hA
                  obtain ⟨u10, hA⟩ := hA
                  obtain ⟨u13, hA⟩ := hA
                  obtain ⟨u15, hA⟩ := hA
                  obtain ⟨u16, hA⟩ := hA
                  obtain ⟨u17, hA⟩ := hA
                  obtain ⟨u18, hA⟩ := hA
                  obtain ⟨u19, hA⟩ := hA
                  obtain ⟨u20, hA⟩ := hA
                  obtain ⟨u21, hA⟩ := hA
                  obtain ⟨u22, hA⟩ := hA
                  obtain ⟨u23, hA⟩ := hA
                  obtain ⟨u24, hA⟩ := hA
                  obtain ⟨u25, hA⟩ := hA
                  obtain ⟨u26, hA⟩ := hA
                  obtain ⟨u27, hA⟩ := hA
                  obtain ⟨u28, hA⟩ := hA
                  obtain ⟨u29, hA⟩ := hA
                  obtain ⟨u30, hA⟩ := hA
                  obtain ⟨u31, hA⟩ := hA
                  obtain ⟨u32, hA⟩ := hA
                  obtain ⟨u33, hA⟩ := hA
                  obtain ⟨u34, hA⟩ := hA
                  obtain ⟨u35, hA⟩ := hA
                  obtain ⟨u36, hA⟩ := hA
                  obtain ⟨u37, hA⟩ := hA
                  obtain ⟨u38, hA⟩ := hA
                  obtain ⟨u39, hA⟩ := hA
                  obtain ⟨u40, hA⟩ := hA
                  obtain ⟨u41, hA⟩ := hA
                  obtain ⟨u42, hA⟩ := hA
                  obtain ⟨u43, hA⟩ := hA
                  obtain ⟨u44, hA⟩ := hA
                  obtain ⟨u45, hA⟩ := hA
                  obtain ⟨u46, hA⟩ := hA
                  obtain ⟨u47, hA⟩ := hA
                  obtain ⟨u48, hA⟩ := hA
                  obtain ⟨u49, hA⟩ := hA
                  obtain ⟨u50, hA⟩ := hA
                  obtain ⟨u51, hA⟩ := hA
                  obtain ⟨u52, hA⟩ := hA
                  obtain ⟨u53, hA⟩ := hA
                  obtain ⟨u54, hA⟩ := hA
                  obtain ⟨u55, hA⟩ := hA
                  obtain ⟨u56, hA⟩ := hA
                  obtain ⟨u57, hA⟩ := hA
                  obtain ⟨u58, hA⟩ := hA
                  obtain ⟨u59, hA⟩ := hA
                  obtain ⟨u60, hA⟩ := hA
                  obtain ⟨u61, hA⟩ := hA
                  obtain ⟨u62, hA⟩ := hA
                  obtain ⟨u63, hA⟩ := hA
                  obtain ⟨u64, hA⟩ := hA
                  obtain ⟨u65, hA⟩ := hA
                  obtain ⟨u66, hA⟩ := hA
                  obtain ⟨u67, hA⟩ := hA
                  obtain ⟨u68, hA⟩ := hA
                  obtain ⟨u69, hA⟩ := hA
                  obtain ⟨u70, hA⟩ := hA
                  obtain ⟨u71, hA⟩ := hA
                  obtain ⟨u72, hA⟩ := hA
                  obtain ⟨u73, hA⟩ := hA
                  obtain ⟨u74, hA⟩ := hA
                  obtain ⟨u75, hA⟩ := hA
                  obtain ⟨u76, hA⟩ := hA
                  obtain ⟨u77, hA⟩ := hA
                  obtain ⟨u78, hA⟩ := hA
                  obtain ⟨u79, hA⟩ := hA
                  obtain ⟨u80, hA⟩ := hA
                  obtain ⟨u81, hA⟩ := hA
                  obtain ⟨u82, hA⟩ := hA
                  obtain ⟨u83, hA⟩ := hA
                  obtain ⟨u84, hA⟩ := hA
                  obtain ⟨u85, hA⟩ := hA
                  obtain ⟨u86, hA⟩ := hA
                  obtain ⟨u87, hA⟩ := hA
                  obtain ⟨u88, hA⟩ := hA
                  obtain ⟨u89, hA⟩ := hA
                  obtain ⟨u90, hA⟩ := hA
                  obtain ⟨u91, hA⟩ := hA
                  obtain ⟨u92, hA⟩ := hA
                  obtain ⟨u93, hA⟩ := hA
                  obtain ⟨u94, hA⟩ := hA
                  obtain ⟨u95, hA⟩ := hA
                  obtain ⟨u96, hA⟩ := hA
                  obtain ⟨u97, hA⟩ := hA
                  obtain ⟨u98, hA⟩ := hA
                  obtain ⟨u99, hA⟩ := hA
                  obtain ⟨u100, hA⟩ := hA
                  obtain ⟨u101, hA⟩ := hA
                  obtain ⟨u102, hA⟩ := hA
                  obtain ⟨u103, hA⟩ := hA
                  obtain ⟨u104, hA⟩ := hA
                  obtain ⟨u105, hA⟩ := hA
                  obtain ⟨u106, hA⟩ := hA
                  obtain ⟨u107, hA⟩ := hA
                  obtain ⟨u108, hA⟩ := hA
                  subst hA
                  have hHK : ∀ g, g < w5.heap.size → Wx.heap[g]? = w5.heap[g]? := fun g hg => (hk1.block g (Nat.lt_of_lt_of_le hg HBAW.out.size) (by have := HBAW.out.size; rintro (e | e | e) <;> omega)).trans (HBAW.out.block g hg)
                  have HHK := Lib.hid hHK
                  have hux : x.1.2 ∈ us := x.2
                  have hstep : (((pre ++ [x]).map (fun x : BkX us => x.1.2)).foldl (stepR C) (k, [])) = stepR C ((pre.map (fun x : BkX us => x.1.2)).foldl (stepR C) (k, [])) x.1.2 := by simp [List.foldl_append]
                  have hqk := stepR_le C (pre.map (fun x : BkX us => x.1.2)) (k, [])
                  have HSTEP := Lib.hid hstep
                  have hlpre : (pre ++ [x]).length = pre.length + 1 := by simp
                  clear hstep
                  generalize (pre.map (fun x : BkX us => x.1.2)).foldl (stepR C) (k, []) = st at *
                  obtain ⟨q, RR⟩ := st
                  dsimp only at hv1 hm1 hqk
                  have HLPX : Hid ((pre ++ [x]).length = pre.length + 1) := hlpre
                  generalize (pre ++ [x] : List (BkX us)) = px at *
                  obtain ⟨⟨xi, u⟩, hxu⟩ := x
                  dsimp only at hux HSTEP ⊢
                  have huC := HLU.out u hux
                  have huR : u < R.length := by rw [HRC.out]; exact huC
                  have hVn := HNE.out u hux
                  obtain ⟨g, o, rfl, _, hgw, hat⟩ := HIN5.out.resolve_left (fun h => by subst h; exact absurd huR (Nat.not_lt_zero _))
                  obtain ⟨h1, h2, h3, h4⟩ := HC5.out.2 u huR huC
                  have hr0 := hat.get u huR 1 _ rfl
                  have hr1 : w5.cell? ⟨g, o + (u * 2 + 1), none⟩ = some (.slice (R[u]'huR).a (R[u]'huR).n (R[u]'huR).cap) := hr0
                  have hvv := valsC_at C u huC
                  rw [hvv] at hVn
                  have huu : (u : Int) < (R.length : Int) := by omega
                  have hvlen := (hv _ (List.getElem_mem huC)).1
                  have HVV := Lib.hid hvv
                  have HVL := Lib.hid h4
                  clear hat hr0 h1 h4 hvv
                  generalize R[u]'huR = r at *
                  generalize (C[u]'huC).vals = V at *
                  have hmod : q % V.length < V.length := Nat.mod_lt _ hVn
                  obtain ⟨gv, ov, hra, _, hgvw, hatv⟩ := HVL.out.resolve_left (fun h => by subst h; exact absurd hVn (Nat.not_lt_zero _))
                  have hcv0 := strAt hatv (q % V.length) hmod
                  have hgetD : V.getD (q % V.length) [] = V[q % V.length]'hmod := by rw [List.getD_eq_getElem?_getD, List.getElem?_eq_getElem hmod]; rfl
                  have HGD := Lib.hid hgetD
                  have hr2 : Wx.cell? ⟨g, o + u * 2 + 1, none⟩ = some (.slice (some ⟨gv, ov, none⟩) V.length r.cap) := by rw [World.cell?_of_block (a := ⟨g, _, none⟩) (hHK g hgw), Nat.add_assoc, hr1, hra, h2]
                  have hcv : Wx.cell? ⟨gv, ov + q % V.length, none⟩ = some (.string ⟨(V[q % V.length]'hmod).toArray⟩) := by rw [World.cell?_of_block (a := ⟨gv, _, none⟩) (hHK gv hgvw)]; exact hcv0
                  have hc3 : Wx.cell? ⟨b3, 0, none⟩ = some (.slice (some ⟨g, o, none⟩) R.length cap) := by rw [World.cell?_of_block (a := ⟨b3, _, none⟩) (hHK b3 hbs5)]; exact HV35.out.cell 0 (by simp)
                  have hc12 : Wx.cell? ⟨wo.heap.size + 1 + 1, 0, none⟩ = some (.map (some (wo.heap.size + 1))) := (HV2A.out.keeps hk1 (by rintro (e | e | e) <;> omega)).cell 0 (by simp)
                  have hc11 : Wx.cell? ⟨wo.heap.size, 0, none⟩ = some (.int .i64 (q : Int)) := hv1.cell 0 (by simp)
                  have hf11 : Wx.frozen? ⟨wo.heap.size, 0, none⟩ = false := hv1.free 0
                  have hVi : ¬ (V.length : Int) = 0 := by omega
                  have hVe : ¬ V = [] := fun e => by rw [e] at hVn; exact absurd hVn (Nat.lt_irrefl _)
                  have hrem : (q : Int).tmod (V.length : Int) = ((q % V.length : Nat) : Int) := rfl
                  have hdv : (q : Int).tdiv (V.length : Int) = ((q / V.length : Nat) : Int) := rfl
                  have hdl := Nat.div_le_self q V.length
                  have HDIV : Hid (st1 C (q, RR) u = q / V.length) := by show (stepR C (q, RR) u).1 = _; unfold stepR; rw [HVV.out]
                  have HROW : Hid ((stepR C (q, RR) u).2 = (u, V[q % V.length]'hmod) :: RR) := by show _ = _; unfold stepR; rw [HVV.out, HGD.out]
                  generalize q % V.length = z at *
                  generalize q / V.length = y at *
                  have hquo : IntKind.i64.wrap (y : Int) = (y : Int) := IntWalk.i64_in _ (by have h24 := HN24.out; omega)
                  have hmodi : (z : Int) < (V.length : Int) := by omega
                  clear hcv0 hatv hra h2 hr1 h3
                  generalize V[z]'hmod = xv at *
                  have hmd : MapF Tryz.prog 3 Wx.drew (wo.heap.size + 1) (fR RR) c1 := hm1.old rfl
                  obtain ⟨w8, hput, hM8, hg8⟩ := hmd.put intLaw imapTy (intKey (natWf (n := u) (by omega))) (by unfold maxLen; omega) (.string ⟨xv.toArray⟩)
                  have HM8 := Lib.hid hM8
                  have HG8 := Lib.hid hg8
                  have HV1 := Lib.hid hv1
                  have HK1 := Lib.hid hk1
                  clear hM8 hg8 hv1 hk1 hm1 hmd hHK hgetD
                  have hb8 : ∀ g, g ≠ wo.heap.size + 1 → g < Wx.heap.size → w8.heap[g]? = Wx.heap[g]? := fun g hne hlt => HG8.out.block g hlt (by intro e; cases e; exact hne rfl)
                  have hxl : wo.heap.size < Wx.heap.size := HV1.out.lt
                  have hc118 : w8.cell? ⟨wo.heap.size, 0, none⟩ = some (.int .i64 (q : Int)) := by rw [World.cell?_of_block (a := ⟨wo.heap.size, 0, none⟩) (hb8 wo.heap.size (by omega) hxl)]; exact hc11
                  have hf118 : w8.frozen? ⟨wo.heap.size, 0, none⟩ = false := by rw [World.frozen?_of_block (a := ⟨wo.heap.size, 0, none⟩) (hb8 wo.heap.size (by omega) hxl)]; exact hf11
                  gi_wp2
                  refine wpIn_still_tail 9 (by kernel_rfl) (by kernel_rfl) rfl ?_
                  simp only [List.take_succ_cons, List.take_zero, List.drop_succ_cons, List.drop_zero]
                  repeat still_step
                  refine wpStill_nil ?_
                  go_wp2
                  simp only [NormQ]
                  gi_wp2
                  have hsW := HK1.out.size
                  have hsA := HBAW.out.size
                  have hbm : wo.heap.size + 1 < Wx.heap.size := by omega
                  have hW8 : Keeps (fun g => g = wo.heap.size ∨ g = wo.heap.size + 1 ∨ WA.heap.size ≤ g) Wx w8 := ((Keeps.refl _ Wx).drew).trans ((keeps_of_by HG8.out).weak (fun q _ hq => by cases hq; exact .inr (.inl rfl)))
                  have hV8 : Var (w8.setCell ⟨wo.heap.size, 0, none⟩ (.int .i64 (y : Int))) wo.heap.size [.int .i64 (y : Int)] := (HV1.out.old (hb8 wo.heap.size (by omega) hxl)).setCell 0 (.int .i64 (y : Int))
                  have e1 : (stepR C (q, RR) u).1 = y := HDIV.out
                  have g1 : KeepsFrom WA.heap.size Wx w8 := ⟨hW8.size, fun j o hj ho hc => by
                    have hjl : j < Wx.heap.size := (Array.getElem?_eq_some_iff.1 ho).1
                    rw [hb8 j (by omega) hjl]; exact ho⟩
                  have g2 : KeepsFrom WA.heap.size Wx (w8.setCell ⟨wo.heap.size, 0, none⟩ (.int .i64 (y : Int))) := g1.trans ((KeepsOthers.setCell _ _ _).from _)
                  have g3 : KpBk (wo.heap.size + 1 + 1 + 1) gu Wx (w8.setCell ⟨wo.heap.size, 0, none⟩ (.int .i64 (y : Int))) := by
                    constructor
                    · rw [setCell_other' _ _ _ _ (by show wo.heap.size + 1 + 1 + 1 ≠ wo.heap.size; omega)]
                      exact hb8 _ (by omega) (by omega)
                    · rw [setCell_other' _ _ _ _ (by show gu ≠ wo.heap.size; omega)]
                      exact hb8 _ (by omega) (by omega)
                  have g4 : Keeps (fun g => g = wo.heap.size ∨ g = wo.heap.size + 1 ∨ WA.heap.size ≤ g) WA (w8.setCell ⟨wo.heap.size, 0, none⟩ (.int .i64 (y : Int))) := keeps_setCell (HK1.out.trans hW8) (.inr (.inl rfl)) _
                  have g5 : Var (w8.setCell ⟨wo.heap.size, 0, none⟩ (.int .i64 (y : Int))) wo.heap.size [.int .i64 (((List.foldl (stepR C) (k, []) (List.map (fun x : BkX us => x.1.2) px)).1 : Nat) : Int)] := by
                    rw [HSTEP.out, e1]
                    exact hV8
                  have g6 : (if (fR RR (.int .i64 (u : Int))).isSome = true then c1 else c1 + 1) ≤ px.length := by rw [HLPX.out]; split <;> omega
                  have g7 : MapF Tryz.prog 3 (w8.setCell ⟨wo.heap.size, 0, none⟩ (.int .i64 (y : Int))) (wo.heap.size + 1) (fR (List.foldl (stepR C) (k, []) (List.map (fun x : BkX us => x.1.2) px)).2) (if (fR RR (.int .i64 (u : Int))).isSome = true then c1 else c1 + 1) := by
                    rw [HSTEP.out, HROW.out, ← fR_cons]
                    exact HM8.out.old (setCell_other' _ _ _ _ (by show wo.heap.size + 1 ≠ wo.heap.size; omega))
                  exact ⟨g2, g3, g4, g5, _, g6, g7⟩
              · obtain rfl : k = N := by omega
                go_wp2
                show LeavesInM _ _ _ _ _ _ (Ds.map markD) _ _
                refine leaves_marks (B := w5.heap.size) Ds wo HDS.out HND.out ?_
                intro w' e1 e2 e3 e4 e5
                obtain ⟨a9, c9, rfl, hc9, hl9⟩ := HOV.out.slice (B := w5.heap.size) (fun _ h => h)
                have hbw : Below w.heap.size w wo := HBB.out.trans (HBR.out.mono HBB.out.size)
                refine ⟨_, results_tmp rfl _ _ _, ?_⟩
                rw [← HPOST.out, HE.out]
                refine ⟨a9, c9, rfl, hc9, ⟨e1.trans hbw.os, e2.trans hbw.tape, e3.trans hbw.output, by rw [e4]; exact hbw.size, fun q hq => ?_⟩, listIn_marks hl9 HBB.out.size e4 (fun D hD => (HDS.out D hD).2) e5⟩
                rw [e5 q (fun hc => by have := (HDS.out q hc).1; have := HBB.out.size; omega)]
                exact hbw.block q hq
end
end Go.Proofs.YtnkckejbkbbdlaaGreatDoor
