/- Merged: OpenSl, Bulk, OpenPt, LawTopoKeeps, LawTopoBack. -/
import Derived.Test.YthklfbakffaioaaGreatDoorOpen
import Derived.Test.YthklfbakffaioaaGreatDoorCod
import Derived.Test.YthklfbakffaioaaGreatDoorHostB
import Derived.OpenShut
import Derived.ChangeSlices
import Derived.Test.YthklfbakffaioaaGreatDoorRows
import Derived.Test.YthklfbakffaioaaGreatDoorTopoAllA
import Derived.Test.YthklfbakffaioaaGreatDoorTopoAllB
import Derived.Deep.DeepCutAuto
namespace Go.Proofs.YthklfbakffaioaaGreatDoor
section
open Go Go.RowKit Go.WideShapes Go.ChangeShapes
set_option maxRecDepth 20000
set_option linter.unusedSimpArgs false
set_option linter.unusedVariables false

section
variable {H : Type} {enc : TypeId × Value → H} {P : Program} {w : World} {base : Nat} {spare : Nat → Bool} {held : Bool}
theorem rowFits_append {r : Reach} {b : Nat} : ∀ {ts us : List TypeId} {a c : List Value}, RowFits P w r b ts a → RowFits P w r b us c → RowFits P w r b (ts ++ us) (a ++ c)
  | [], us, a, c, h1, h2 => by rw [rowFits_nil h1]; exact h2
  | t :: ts, us, a, c, h1, h2 => by
    obtain ⟨v, x, rfl, h3, h4⟩ := rowFits_cons h1
    exact ⟨h3, rowFits_append h4 h2⟩
theorem leaf_bool {t : TypeId} {fuel : Nat} {cs : List Value} {x : DataW H × List MemPlace} (ht : P.underlying t = some .bool) (h : DataW.trod enc P w base spare held fuel t cs = some x) : RowFits P w .any 0 [t] cs := by
  obtain ⟨b, rfl, _⟩ := DataW.trod_bool ht h
  refine ⟨?_, trivial⟩
  unfold Cell.okWide Cell.ok
  rw [ht]
  trivial
theorem leaf_int {t : TypeId} {k : IntKind} {fuel : Nat} {cs : List Value} {x : DataW H × List MemPlace} (ht : P.underlying t = some (.int k)) (h : DataW.trod enc P w base spare held fuel t cs = some x) : RowFits P w .any 0 [t] cs := by
  obtain ⟨n, rfl, _, hw⟩ := DataW.trod_int ht h
  refine ⟨?_, trivial⟩
  unfold Cell.okWide Cell.ok
  rw [ht]
  exact ⟨rfl, by simpa [Lit.wf, IntKind.has] using hw⟩
theorem leaf_str {t : TypeId} {fuel : Nat} {cs : List Value} {x : DataW H × List MemPlace} (ht : P.underlying t = some .string) (h : DataW.trod enc P w base spare held fuel t cs = some x) : RowFits P w .any 0 [t] cs := by
  obtain ⟨s, rfl, _, hw⟩ := DataW.trod_string ht h
  refine ⟨?_, trivial⟩
  unfold Cell.okWide Cell.ok
  rw [ht]
  have e : IntKind.i64.max = 9223372036854775807 := rfl
  show (s.size : Int) ≤ IntKind.i64.max
  rw [e]
  unfold maxLen at hw
  omega
theorem leaf_array {t e : TypeId} {n fuel : Nat} {cs : List Value} {x : DataW H × List MemPlace} (ht : P.underlying t = some (.array n e)) (hc : P.cellsOf e = 1) (hn : P.cellsOf t = n)
    (he : ∀ (fuel : Nat) (cs : List Value) (y : DataW H × List MemPlace), DataW.trod enc P w base spare held fuel e cs = some y → RowFits P w .any 0 [e] cs)
    (h : DataW.trod enc P w base spare held fuel t cs = some x) : RowFits P w .any 0 (List.replicate n e) cs := by
  obtain ⟨xs, m, _, _, hl, hx, hf⟩ := DataW.trod_array ht h
  rw [hn] at hl
  refine rowFits_of (by rw [List.length_replicate, hl]) (fun i v hv => ?_)
  have hi : i < n := by
    have := (List.getElem?_eq_some_iff.1 hv).1
    omega
  refine ⟨e, by simp [hi], ?_⟩
  have h1 := hf i hi
  rw [hc, Nat.mul_one, List.getElem?_eq_getElem (by omega)] at h1
  have h2 : (cs.drop i).take 1 = [v] := by
    obtain ⟨hlt, rfl⟩ := List.getElem?_eq_some_iff.1 hv
    rw [List.drop_eq_getElem_cons hlt]; rfl
  rw [h2] at h1
  exact (he _ _ _ h1).1
/-- The fields of a struct type and the leaves of each. -/
def FitsF (enc : TypeId × Value → H) (P : Program) (w : World) (base : Nat) (spare : Nat → Bool) (held : Bool) : List Field → List (List TypeId) → Prop
  | [], [] => True
  | f :: fs, ts :: tss => (∀ (fuel : Nat) (cs : List Value) (y : DataW H × List MemPlace), DataW.trod enc P w base spare held fuel f.type cs = some y → RowFits P w .any 0 ts cs) ∧ FitsF enc P w base spare held fs tss
  | _, _ => False
def lieF (P : Program) : Nat → List Field → List (List TypeId) → Bool
  | _, [], [] => true
  | o, f :: fs, ts :: tss => f.offset == o && (P.cellsOf f.type == ts.length && lieF P (o + ts.length) fs tss)
  | _, _, _ => false
theorem fields_fit {cs : List Value} {m : Nat} : ∀ (fs : List Field) (tss : List (List TypeId)) (xs : List (DataW H × List MemPlace)) (o : Nat), lieF P o fs tss = true → FitsF enc P w base spare held fs tss → fs.length = xs.length →
    (∀ (i : Nat) (f : Field), fs[i]? = some f → DataW.trod enc P w base spare held m f.type ((cs.drop f.offset).take (P.cellsOf f.type)) = xs[i]?) → RowFits P w .any 0 tss.flatten ((cs.drop o).take tss.flatten.length)
  | [], [], xs, o, _, _, _, _ => by simp [RowFits]
  | [], ts :: tss, xs, o, h, _, _, _ => by simp [lieF] at h
  | f :: fs, [], xs, o, h, _, _, _ => by simp [lieF] at h
  | f :: fs, ts :: tss, [], o, _, _, hl, _ => by simp at hl
  | f :: fs, ts :: tss, y :: xs, o, h, hF, hl, hx => by
    simp only [lieF, Bool.and_eq_true, beq_iff_eq] at h
    obtain ⟨h1, h2, h3⟩ := h
    have h0 := hx 0 f rfl
    rw [h1, h2] at h0
    have hr := hF.1 _ _ _ h0
    have ih := fields_fit fs tss xs (o + ts.length) h3 hF.2 (by simpa using hl) (fun i g hg => hx (i + 1) g hg)
    have e : (cs.drop o).take (ts :: tss).flatten.length = (cs.drop o).take ts.length ++ (cs.drop (o + ts.length)).take tss.flatten.length := by
      rw [List.flatten_cons, List.length_append, List.take_add, List.drop_drop]
    rw [e, List.flatten_cons]
    exact rowFits_append hr ih
theorem struct_fit {t : TypeId} {fs : Array Field} {fuel : Nat} {cs : List Value} {x : DataW H × List MemPlace} (tss : List (List TypeId)) (ht : P.underlying t = some (.struct fs)) (hl : lieF P 0 fs.toList tss = true) (hc : P.cellsOf t = tss.flatten.length)
    (hF : FitsF enc P w base spare held fs.toList tss) (h : DataW.trod enc P w base spare held fuel t cs = some x) : RowFits P w .any 0 tss.flatten cs := by
  obtain ⟨xs, m, _, _, hcl, hx, hf⟩ := DataW.trod_struct ht h
  have := fields_fit (cs := cs) fs.toList tss xs 0 hl hF (by rw [hx]; simp) (fun i f hi => hf i f (by simpa using hi))
  rwa [List.drop_zero, ← hc, ← hcl, List.take_length] at this
end
section
variable {H : Type} {enc : TypeId × Value → H} {w : World} {base : Nat} {spare : Nat → Bool} {held : Bool}
theorem trod_addr {fuel : Nat} {cs : List Value} {x : DataW H × List MemPlace} (h : DataW.trod enc Tryz.prog w base spare held fuel 30 cs = some x) : RowFits Tryz.prog w .any 0 addrT cs :=
  leaf_array Tryz.underlying30 (by kernel_rfl) (by kernel_rfl) (fun _ _ _ h => leaf_int Tryz.underlying5 h) h
theorem trod_host {fuel : Nat} {cs : List Value} {x : DataW H × List MemPlace} (h : DataW.trod enc Tryz.prog w base spare held fuel 32 cs = some x) : RowFits Tryz.prog w .any 0 hostT cs := by
  have := struct_fit [[3], [9], addrT] Tryz.underlying32 (by kernel_rfl) (by kernel_rfl) ⟨fun _ _ _ h => leaf_int Tryz.underlying3 h, fun _ _ _ h => leaf_str Tryz.underlying9 h, fun _ _ _ h => trod_addr h, trivial⟩ h
  simpa [hostT] using this
/-- A slice among the arguments: its elements as data. -/
theorem open_slice {α : Type} (c : Cod α) (Q : α → Prop) {v : Value} {x : DataW H × List MemPlace} {fuel : Nat} {r : Reach} {b : Nat} (hc : Tryz.prog.cellsOf c.E = c.sz)
    (he : ∀ (fuel : Nat) (cs : List Value) (y : DataW H × List MemPlace), DataW.trod enc Tryz.prog w base spare held fuel c.E cs = some y → ∃ u : α, cs = c.enc u ∧ Q u)
    (hv : Value.okWide Tryz.prog w r b c.S v) (h : DataW.trod enc Tryz.prog w base spare held fuel c.S v.cells.toList = some x) :
    ∃ (a : Option Addr) (xs : List α) (cap : Nat), v = .slice a xs.length cap ∧ xs.length ≤ cap ∧ cap ≤ maxLen ∧ ListIn c w a xs 0 ∧ ∀ u ∈ xs, Q u := by
  obtain ⟨a0, len0, cap0, rfl⟩ := okWide_slice c.und hv
  have e0 : (Value.slice a0 len0 cap0).cells.toList = [.slice a0 len0 cap0] := rfl
  rw [e0] at h
  rcases DataW.trod_slice c.und h with ⟨h1, _⟩ | ⟨a, len, cap, elems, rest, n, _, h1, _, _, hl, hm, hlen, hel, _, _⟩
  · obtain ⟨rfl, rfl, rfl⟩ : a0 = none ∧ len0 = 0 ∧ cap0 = 0 := by simpa using h1
    exact ⟨none, [], 0, rfl, Nat.le_refl _, Nat.zero_le _, .inl rfl, fun u h => by cases h⟩
  · obtain ⟨rfl, rfl, rfl⟩ : a0 = some a ∧ len0 = len ∧ cap0 = cap := by simpa using h1
    have each : ∀ i, i < len0 → ∃ u : α, Q u ∧ ∀ j, j < c.sz → w.cell? ((a.add (i * c.sz)).add j) = (c.enc u)[j]? := by
      intro i hi
      have h2 := hel i hi
      rw [hc, List.getElem?_eq_getElem (by omega), Option.bind_eq_some_iff] at h2
      obtain ⟨cs, hcs, hy⟩ := h2
      obtain ⟨u, rfl, hq⟩ := he _ _ _ hy
      exact ⟨u, hq, (World.cells?_some hcs).2.2⟩
    have all : ∀ k, k ≤ len0 → ∃ xs : List α, xs.length = k ∧ (∀ u ∈ xs, Q u) ∧ ∀ i (hi : i < xs.length) j, j < c.sz → w.cell? ((a.add (i * c.sz)).add j) = (c.enc (xs[i]'hi))[j]? := by
      intro k
      induction k with
      | zero => exact fun _ => ⟨[], rfl, (fun u h => by cases h), fun i hi => absurd hi (Nat.not_lt_zero _)⟩
      | succ k ih =>
        intro hk
        obtain ⟨xs, hx, hQ, hxs⟩ := ih (by omega)
        obtain ⟨u, hq, hu⟩ := each k (by omega)
        refine ⟨xs ++ [u], by simp [hx], (fun y hy => by
          rcases List.mem_append.1 hy with hy | hy
          · exact hQ y hy
          · rw [List.mem_singleton] at hy; subst hy; exact hq), fun i hi j hj => ?_⟩
        by_cases hik : i < xs.length
        · rw [List.getElem_append_left hik]; exact hxs i hik j hj
        · have : i = xs.length := by simp at hi; omega
          subst this
          rw [List.getElem_append_right (Nat.le_refl _)]
          simp only [Nat.sub_self, List.getElem_cons_zero]
          rw [hx]; exact hu j hj
    obtain ⟨xs, hx, hQ, hxs⟩ := all len0 (Nat.le_refl _)
    refine ⟨some a, xs, cap0, by rw [hx], by omega, hm, ?_, hQ⟩
    by_cases h0 : len0 = 0
    · exact .inl (List.length_eq_zero_iff.1 (by omega))
    · right
      have hp := c.pos
      have hf := hxs 0 (by omega) 0 hp
      rw [Nat.zero_mul] at hf
      have ea : (a.add 0).add 0 = a := rfl
      rw [ea, List.getElem?_eq_getElem (by rw [c.len]; exact hp)] at hf
      obtain ⟨blk, off, spot⟩ := a
      have hs : spot = none ∧ blk < w.heap.size := by
        unfold World.cell? at hf
        simp only at hf
        split at hf
        · rename_i hh
          have hlt := (Array.getElem?_eq_some_iff.1 hh).1
          cases spot
          · exact ⟨rfl, hlt⟩
          · simp at hf
        · cases hf
      obtain ⟨rfl, hlt⟩ := hs
      refine ⟨blk, off, rfl, Nat.zero_le _, hlt, fun j u hj => ?_⟩
      have hjl : j < (c.encs xs).length := (List.getElem?_eq_some_iff.1 hj).1
      rw [c.encs_length] at hjl
      have hi : j / c.sz < xs.length := Nat.div_lt_of_lt_mul (by rw [Nat.mul_comm]; exact hjl)
      have hm2 := Nat.mod_lt j hp
      have hdm : j / c.sz * c.sz + j % c.sz = j := by rw [Nat.mul_comm]; exact Nat.div_add_mod j c.sz
      have h3 := hxs (j / c.sz) hi (j % c.sz) hm2
      have h4 := c.encs_get xs (j / c.sz) hi (j % c.sz) hm2
      rw [hdm, hj] at h4
      rw [← h4, add_mk, add_mk, Nat.add_assoc, hdm] at h3
      exact h3
end
end

section
open Go Go.RowKit Go.WideShapes Go.ChangeShapes
set_option maxRecDepth 20000
set_option linter.unusedSimpArgs false
set_option linter.unusedVariables false

theorem bulk_part {H : Type} {d : DataW H} {l : List (DataW H)} (h : d ∈ l) : Rows.uptoBulk d ≤ Rows.uptoBulkAll l := by
  induction l with
  | nil => cases h
  | cons x r ih =>
    simp only [Rows.uptoBulkAll]
    rcases List.mem_cons.1 h with e | e
    · subst e; omega
    · have := ih e; omega
theorem bulk_arg {H : Type} {d : DataW H} {l : List (DataW H)} (hk : Rows.uptoSmall H l = true) (h : d ∈ l) : Rows.uptoBulk d ≤ 1048576 :=
  Nat.le_trans (bulk_part h) (of_decide_eq_true hk)
section
variable {H : Type} {enc : TypeId × Value → H} {P : Program} {w : World} {base : Nat} {spare : Nat → Bool} {held : Bool}
theorem bulk_field {t : TypeId} {fs : Array Field} {fuel : Nat} {cs : List Value} {x : DataW H × List MemPlace} (ht : P.underlying t = some (.struct fs)) (h : DataW.trod enc P w base spare held fuel t cs = some x) (i : Nat) (f : Field) (hi : fs[i]? = some f) :
    ∃ n y, DataW.trod enc P w base spare held n f.type ((cs.drop f.offset).take (P.cellsOf f.type)) = some y ∧ Rows.uptoBulk y.1 ≤ Rows.uptoBulk x.1 := by
  obtain ⟨xs, n, _, rfl, _, hl, hf⟩ := DataW.trod_struct ht h
  have h1 := hf i f hi
  have hlt : i < xs.length := by rw [hl]; exact (Array.getElem?_eq_some_iff.1 hi).1
  rw [List.getElem?_eq_getElem hlt] at h1
  refine ⟨n, _, h1, ?_⟩
  have : Rows.uptoBulk (xs[i]'hlt).1 ≤ Rows.uptoBulkAll (xs.map (·.1)) := bulk_part (List.mem_map_of_mem (List.getElem_mem hlt))
  simp only [Rows.uptoBulk]
  omega
theorem bulk_string {t : TypeId} {fuel : Nat} {l : List UInt8} {x : DataW H × List MemPlace} (ht : P.underlying t = some .string) (h : DataW.trod enc P w base spare held fuel t [.string ⟨l.toArray⟩] = some x) : l.length ≤ Rows.uptoBulk x.1 := by
  obtain ⟨s, hs, rfl, _⟩ := DataW.trod_string ht h
  simp only [List.cons.injEq, Value.string.injEq, and_true] at hs
  subst hs
  simp [Rows.uptoBulk]
/-- A slice among the arguments: its elements as data, and what the bulk says of each. -/
theorem open_sliceU {α : Type} (c : Cod α) (Q : List Value → Nat → Prop) (hQm : ∀ u n m, Q u n → n ≤ m → Q u m) {v : Value} {x : DataW H × List MemPlace} {fuel : Nat} {r : Reach} {b : Nat} (hc : Tryz.prog.cellsOf c.E = c.sz)
    (he : ∀ (fuel : Nat) (cs : List Value) (y : DataW H × List MemPlace), DataW.trod enc Tryz.prog w base spare held fuel c.E cs = some y → ∃ u : α, cs = c.enc u ∧ Q cs (Rows.uptoBulk y.1))
    (hv : Value.okWide Tryz.prog w r b c.S v) (h : DataW.trod enc Tryz.prog w base spare held fuel c.S v.cells.toList = some x) :
    ∃ (a : Option Addr) (xs : List α) (cap : Nat), v = .slice a xs.length cap ∧ xs.length ≤ cap ∧ cap ≤ maxLen ∧ ListIn c w a xs 0 ∧ ∀ u ∈ xs, Q (c.enc u) (Rows.uptoBulk x.1) := by
  obtain ⟨a, xs, cap, h1, h2, h3, h4, _⟩ := open_slice c (fun _ => True) hc (fun f cs y hy => by obtain ⟨u, h1, _⟩ := he f cs y hy; exact ⟨u, h1, trivial⟩) hv h
  refine ⟨a, xs, cap, h1, h2, h3, h4, ?_⟩
  subst h1
  have e0 : (Value.slice a xs.length cap).cells.toList = [.slice a xs.length cap] := rfl
  rw [e0] at h
  intro u hu
  obtain ⟨i, hi, hiu⟩ := List.mem_iff_getElem.1 hu
  rcases DataW.trod_slice c.und h with ⟨g1, _⟩ | ⟨a', len, cap', elems, rest, n, _, g1, rfl, _, hl, hm, hlen, hel, _, _⟩
  · have g2 : a = none ∧ xs.length = 0 ∧ cap = 0 := by simpa using g1
    rw [g2.2.1] at hi; exact absurd hi (Nat.not_lt_zero _)
  · obtain ⟨rfl, e1, rfl⟩ : a = some a' ∧ xs.length = len ∧ cap = cap' := by simpa using g1
    have h5 := hel i (by omega)
    rw [hc, List.getElem?_eq_getElem (by omega), Option.bind_eq_some_iff] at h5
    obtain ⟨cs, hcs, hy⟩ := h5
    obtain ⟨u', rfl, hq⟩ := he _ _ _ hy
    have hcell := (World.cells?_some hcs).2.2
    have hb : Rows.uptoBulk (elems[i]'(by omega)).1 ≤ Rows.uptoBulkAll (elems.map (·.1)) := bulk_part (List.mem_map_of_mem (List.getElem_mem (by omega)))
    have he' : c.enc u' = c.enc u := by
      rcases h4 with h4 | ⟨b', o', h6, h7, h8, h9⟩
      · subst h4; cases hu
      · obtain rfl : a' = ⟨b', o', none⟩ := Option.some.inj h6
        apply List.ext_getElem?
        intro j
        by_cases hj : j < c.sz
        · rw [← hcell j hj]
          have h10 := c.encs_get xs i hi j hj
          rw [hiu] at h10
          have h11 : (c.enc u)[j]? = some ((c.enc u)[j]'(by rw [c.len]; exact hj)) := List.getElem?_eq_getElem _
          rw [h11] at h10 ⊢
          have := h9 _ _ h10
          rw [add_mk, add_mk, Nat.add_assoc]
          exact this
        · rw [List.getElem?_eq_none (by rw [c.len]; omega), List.getElem?_eq_none (by rw [c.len]; omega)]
    have huu : Q (c.enc u') (Rows.uptoBulk (DataW.slice (H := H) (elems.map (·.1)) (rest.map (·.1)))) := hQm _ _ _ hq (by simp only [Rows.uptoBulk]; omega)
    rw [he'] at huu
    exact huu
end
end

section
open Go Go.RowKit Go.WideShapes Go.ChangeShapes
set_option maxRecDepth 20000
set_option linter.unusedSimpArgs false
set_option linter.unusedVariables false

section
variable {H : Type} {enc : TypeId × Value → H} {w : World} {base : Nat} {spare : Nat → Bool} {held : Bool}
theorem trod_pat {fuel : Nat} {cs : List Value} {x : DataW H × List MemPlace} (h : DataW.trod enc Tryz.prog w base spare held fuel 34 cs = some x) : RowFits Tryz.prog w .any 0 patT cs := by
  have := struct_fit [[4], hostT, [4], [4], [9]] Tryz.underlying34 (by kernel_rfl) (by kernel_rfl) ⟨fun _ _ _ h => leaf_bool Tryz.underlying4 h, fun _ _ _ h => trod_host h, fun _ _ _ h => leaf_bool Tryz.underlying4 h, fun _ _ _ h => leaf_bool Tryz.underlying4 h, fun _ _ _ h => leaf_str Tryz.underlying9 h, trivial⟩ h
  simpa [patT] using this
theorem open_patterns {v : Value} {x : DataW H × List MemPlace} {r : Reach} {b : Nat} (hv : Value.okWide Tryz.prog w r b 23 v) (h : ∃ fuel, DataW.trod enc Tryz.prog w base spare held fuel 23 v.cells.toList = some x) :
    ∃ (a : Option Addr) (xs : List GPt) (cap : Nat), v = .slice a xs.length cap ∧ xs.length ≤ cap ∧ cap ≤ maxLen ∧ ListIn patCod w a xs 0 ∧ ∀ u ∈ xs, u.2.2.2.2.length ≤ maxLen := by
  obtain ⟨fuel, h⟩ := h
  refine open_slice patCod (fun u => u.2.2.2.2.length ≤ maxLen) (by kernel_rfl) (fun f cs y hy => ?_) hv h
  obtain ⟨u, rfl⟩ := fits_pat (trod_pat hy)
  exact ⟨(u.wild, u.host, u.plain, u.secure, u.pre), rfl, u.hpre⟩
/-- .. where the bulk is bounded: so are their texts. -/
theorem trod_pat_strings {fuel : Nat} {cs : List Value} {x : DataW H × List MemPlace} (h : DataW.trod enc Tryz.prog w base spare held fuel 34 cs = some x) : ∃ u : GPat, cs = patR u.wild u.host u.plain u.secure u.pre ∧ u.host.name.length ≤ Rows.uptoBulk x.1 ∧ u.pre.length ≤ Rows.uptoBulk x.1 := by
  obtain ⟨u, rfl⟩ := fits_pat (trod_pat h)
  refine ⟨u, rfl, ?_, ?_⟩
  · obtain ⟨n, y, hy, hle⟩ := bulk_field Tryz.underlying34 h 1 _ rfl
    obtain ⟨n2, y2, hy2, hle2⟩ := bulk_field Tryz.underlying32 hy 1 _ rfl
    have hc : (((patR u.wild u.host u.plain u.secure u.pre).drop 1).take (Tryz.prog.cellsOf 32)) = hostL u.host := by
      rw [cellsOf_host]
      show ((hostL u.host ++ _).take 18) = _
      rw [List.take_append_of_le_length (by rw [hostL_length]; exact Nat.le_refl _), List.take_of_length_le (by rw [hostL_length]; exact Nat.le_refl _)]
    have hy3 : DataW.trod enc Tryz.prog w base spare held n2 9 [.string ⟨u.host.name.toArray⟩] = some y2 := by
      have e : (((((patR u.wild u.host u.plain u.secure u.pre).drop 1).take (Tryz.prog.cellsOf 32)).drop 1).take (Tryz.prog.cellsOf 9)) = [.string ⟨u.host.name.toArray⟩] := by
        rw [hc, cellsOf_str]; rfl
      exact e ▸ hy2
    have := bulk_string Tryz.underlying9 hy3
    omega
  · obtain ⟨n, y, hy, hle⟩ := bulk_field Tryz.underlying34 h 4 _ rfl
    have hy3 : DataW.trod enc Tryz.prog w base spare held n 9 [.string ⟨u.pre.toArray⟩] = some y := by
      have e : (((patR u.wild u.host u.plain u.secure u.pre).drop 21).take (Tryz.prog.cellsOf 9)) = [.string ⟨u.pre.toArray⟩] := by
        rw [cellsOf_str]
        have e1 : (patR u.wild u.host u.plain u.secure u.pre).drop 21 = [.string ⟨u.pre.toArray⟩] := by
          simp [patR, hostL_length, List.drop_append]
        rw [e1]; rfl
      exact e ▸ hy
    have := bulk_string Tryz.underlying9 hy3
    omega
theorem open_patternsU {v : Value} {x : DataW H × List MemPlace} {r : Reach} {b : Nat} (hv : Value.okWide Tryz.prog w r b 23 v) (h : ∃ fuel, DataW.trod enc Tryz.prog w base spare held fuel 23 v.cells.toList = some x) :
    ∃ (a : Option Addr) (xs : List GPt) (cap : Nat), v = .slice a xs.length cap ∧ xs.length ≤ cap ∧ cap ≤ maxLen ∧ ListIn patCod w a xs 0 ∧ ∀ u ∈ xs, u.2.1.name.length ≤ Rows.uptoBulk x.1 ∧ u.2.2.2.2.length ≤ Rows.uptoBulk x.1 := by
  obtain ⟨fuel, h⟩ := h
  obtain ⟨a, xs, cap, h1, h2, h3, h4, h5⟩ := open_sliceU patCod (fun cs n => ∃ u : GPat, cs = patR u.wild u.host u.plain u.secure u.pre ∧ u.host.name.length ≤ n ∧ u.pre.length ≤ n) (fun _ n m ⟨u, e, p, q⟩ hnm => ⟨u, e, Nat.le_trans p hnm, Nat.le_trans q hnm⟩) (by kernel_rfl) (fun f cs y hy => by
    obtain ⟨u, rfl, p, q⟩ := trod_pat_strings hy
    exact ⟨(u.wild, u.host, u.plain, u.secure, u.pre), rfl, u, rfl, p, q⟩) hv h
  refine ⟨a, xs, cap, h1, h2, h3, h4, fun p hp => ?_⟩
  obtain ⟨u, e, hn, hq⟩ := h5 p hp
  have hV : (patV p.1 p.2.1 p.2.2.1 p.2.2.2.1 p.2.2.2.2) = patV u.wild u.host u.plain u.secure u.pre := congrArg List.toArray e
  have e2 := congrArg (fun z => z[2]?) hV
  have e21 := congrArg (fun z => z[21]?) hV
  rw [patV_2, patV_2] at e2
  rw [patV_21, patV_21] at e21
  simp at e2 e21
  rw [e2, e21]
  exact ⟨hn, hq⟩
end
end

section
open Go Go.RowKit
set_option maxRecDepth 20000
set_option linter.unusedSimpArgs false
set_option linter.unusedVariables false

theorem parseH_nameT (s : List UInt8) : (parseH s).name.length ≤ 253 := by
  unfold parseH
  split
  · split
    · exact Nat.zero_le _
    · split
      · exact Nat.zero_le _
      · unfold nameH
        split
        · assumption
        · exact Nat.zero_le _
  · exact Nat.zero_le _
theorem rightB_name {h : GHost} (hr : rightB h = true) : h.name.length ≤ 253 := by
  unfold rightB at hr
  rw [Bool.and_eq_true] at hr
  have := (hostEq_iff _ _).1 hr.2
  rw [← this]
  exact parseH_nameT _
theorem rightP_name {p : GPt} (h : rightP p = true) : p.2.1.name.length ≤ 253 := by
  unfold rightP patRight at h
  simp only [Bool.and_eq_true] at h
  exact rightB_name h.1
set_option maxRecDepth 100000 in
set_option maxHeartbeats 8000000 in
theorem topoKeeps_at (s : List UInt8) (hs : ¬ (4000 : Int) < s.length) (m : Int) (w : World) (hm : HasMax m w) (htz : HasTz w) (hd : HasDec w) :
    Calls Tryz.prog 3 #[.string ⟨s.toArray⟩] w fun e w' => e = .returned (.bool true) ∧ Below w.heap.size w w' := by
  have HP : Hid (∀ w, HasMax m w → Calls Tryz.prog 12 #[.string ⟨s.toArray⟩] w (GivesF patCod (topoFile s).1 (topoFile s).2 w)) := fun w a => topoFile_any s (by omega) m w a
  have HQ : Hid (∀ w, HasMax m w → Calls Tryz.prog 12 #[.string ⟨(35 :: 10 :: s).toArray⟩] w (GivesF patCod (topoFile s).1 (upF (topoFile s).2) w)) := fun w a => by
    have := topoFile_any (35 :: 10 :: s) (by simp; omega) m w a
    rw [topoFile_remark s (by omega)] at this
    exact this
  obtain ⟨b1, b2, b3, b4, b5⟩ := topoFile_bd s (by omega)
  obtain ⟨k1, k2⟩ := topoFile_keeps s
  have hft := topoFile_fault s
  have hf1 := wf_smallT ⟨b1.1, by omega⟩
  have hf2 := wf_smallT ⟨b2.1, by omega⟩
  have hf3 := wf_smallT ⟨b3.1, by omega⟩
  obtain ⟨⟨R, fc, fl, fk⟩, hr⟩ : ∃ x, topoFile s = x := ⟨_, rfl⟩
  rw [hr] at HP HQ hf1 hf2 hf3 b2 b4 b5 k1 k2 hft
  dsimp only at HP HQ hf1 hf2 hf3 b2 b4 b5 k1 k2 hft
  have hf2' := wf_smallT (n := fl + 1) ⟨by omega, by omega⟩
  have hwl : IntKind.i64.wrap (fl + 1) = fl + 1 := IntWalk.i64_in _ (by omega)
  clear hr b1 b3
  have g0 : (Lit.int .i64 0).wf = true := rfl
  have HOK := Lib.hid b4
  have HND := Lib.hid k1
  have HRT := Lib.hid k2
  have HFT := Lib.hid hft
  have n1 : ¬ 9223372036854775807 < 2 + s.length := by omega
  have HS := Lib.hid (fun a b ca cb la lb w (h : ListIn patCod w a R la) (h' : ListIn patCod w b R lb) => refSamePt_any R a b ca cb la lb b5 b4 w h h')
  clear b4 k1 k2 hft
  go_enter Tryz.func3, Tryz.ntmps3
  go_upto_region 5 with (go_at_call 11; refine (topoAlive_any m _ (by repeat (first | exact hm | apply HasMax.grown | apply HasMax.alloc | apply HasMax.drew))).mono ?_; rintro e w1 ⟨rfl, hb1⟩; obtain ⟨p1, rfl⟩ := grown_of hb1; clear hb1)
  go_cut [3, 4] (fun s3 s4 wx => ∃ (a : Option Addr) (c b4 lo : Nat), s3 = .slice a R.length c ∧ s4 = .pointer (some ⟨b4, 0, none⟩) ∧ Below w.heap.size w wx ∧ R.length ≤ c ∧ ListIn patCod wx a R lo ∧ Var wx b4 (faultR fc fl fk))
  case first =>
    go_wp2_with (go_at_call 12; (with_reducible refine (HP.out _ ?_).mono ?_); (exact (by repeat (first | exact hm | apply HasMax.grown | apply HasMax.alloc | apply HasMax.drew))); intro e w1 hg; obtain ⟨a1, c1, rfl, hc1, hb1, hl1⟩ := hg; obtain ⟨p1, rfl⟩ := grown_of hb1; clear hb1)
    go_meet
    exact ⟨_, _, _, _, rfl, rfl, (by repeat (first | exact Below.refl _ _ | assumption | refine below_grown ?_ (by first | omega | (simp [go_sem]; done) | (simp [go_sem] <;> omega)) _ | refine Below.alloc ?_ (by first | omega | (simp [go_sem]; done) | (simp [go_sem] <;> omega)) _ | refine below_bytesW ?_ (by first | omega | (simp [go_sem]; done) | (simp [go_sem] <;> omega)) _ | refine Below.drew ?_ | refine below_drewN ?_ _)), hc1, hl1.alloc _, Var.new _ _ _ rfl (by simp [go_sem])⟩
  case rest =>
  obtain ⟨a, c, b4, lo, rfl, rfl, hbw, hc, hin, hv4⟩ := hcut
  have hbsz := hbw.size
  have HBC := Lib.hid hbw
  have HIN := Lib.hid hin
  have HV4 := Lib.hid hv4
  clear hin hv4
  go_wp2
  go_loopw [23] (fun i wr => ∃ k : Nat, k ≤ R.length ∧ i = .int .i64 k ∧ Below wc.heap.size wc wr) (fun i _ => R.length - (intOf i).toNat)
  case atStart => exact ⟨0, Nat.zero_le _, rfl, Below.refl _ _⟩
  case round =>
    obtain ⟨k, hk, rfl, hbr⟩ := hrel
    have hrsz := hbr.size
    have HBR := Lib.hid hbr
    have hbw2 : Below w.heap.size w wr := HBC.out.trans (hbr.mono (by omega))
    have HB2 := Lib.hid hbw2
    by_cases hlt : k < R.length
    · obtain ⟨b1, o1, rfl, _, hlt1, hat1⟩ := HIN.out.resolve_left (fun h => by subst h; exact absurd hlt (Nat.not_lt_zero _))
      obtain ⟨rw1, rq1⟩ := patRow (hat1.below hbr) k hlt
      have HAT := Lib.hid hat1
      have hok := HOK.out _ (List.getElem_mem hlt)
      have hrt := HRT.out _ (List.getElem_mem hlt)
      have hnm := rightP_name hrt
      have hne : ∀ (n : Nat) (hn : n < k), ptB (R[k]'hlt) (R[n]'(by omega)) = false := fun n hn => nodup_pt R HND.out n k hn hlt
      have hkc : (k : Int) ≤ (c : Int) := by omega
      have ho1 : isOld b1 wr = true := isOld_iff.2 (by omega)
      have hi1 : (k : Int) < (R.length : Int) := by omega
      clear hat1 hbr hbw2
      obtain ⟨⟨pw, ph, pp, ps, pa⟩, hp⟩ : ∃ r, R[k]'hlt = r := ⟨_, rfl⟩
      rw [hp] at rq1 hok hrt hnm
      simp only [hp] at hne
      have HNE := Lib.hid hne
      clear hne hp
      unfold ptV at rq1
      dsimp only at rq1 hnm
      have hpa : pa.length ≤ maxLen := by have : pa.length ≤ 2048 := hok; unfold maxLen; omega
      have HRG : Hid (∀ w, HasMax m w → HasTz w → HasDec w → Calls Tryz.prog 13 #[.agg (patV pw ph pp ps pa)] w fun e w' => e = .returned (.bool true) ∧ Below w.heap.size w w') := fun w x y z => by
        have := topoRight_any pw ph pp ps pa (by omega) hpa m w x y z
        rwa [show patRight pw ph pp ps pa = true from hrt] at this
      clear hok hrt hnm
      go_upto_region 9 with fail
      have HB3 : Hid (Below wc.heap.size wc (wr.alloc (Obj.cells (patV pw ph pp ps pa) 34))) := HBR.out.alloc (by omega) _
      have HV6 : Hid (Var (wr.alloc (Obj.cells (patV pw ph pp ps pa) 34)) wr.heap.size (patR pw ph pp ps pa)) := Var.new _ _ _ rfl rfl
      have hsz3 : wr.heap.size + 1 = (wr.alloc (Obj.cells (patV pw ph pp ps pa) 34)).heap.size := by simp
      generalize (wr.alloc (Obj.cells (patV pw ph pp ps pa) 34)) = w3 at *
      have hr6 : hasRow w3 ⟨wr.heap.size, 0, none⟩ 22 = true := HV6.out.hasRow (patR_length _ _ _ _ _)
      have hq6 : rowAt w3 ⟨wr.heap.size, 0, none⟩ 22 = patV pw ph pp ps pa := HV6.out.rowAt (patR_length _ _ _ _ _)
      have hi6 : isOld wr.heap.size w3 = true := isOld_iff.2 (by omega)
      have hB3 : Below w.heap.size w w3 := HBC.out.trans (HB3.out.mono (by omega))
      have hm1 := hm.below hB3
      have htz1 := htz.below hB3
      have hd1 := hd.below hB3
      clear rw1 rq1 ho1
      go_upto_region 12 with (go_at_call 13; (with_reducible refine (HRG.out _ hm1 htz1 hd1).mono ?_); intro e w4 he; obtain ⟨rfl, hb4⟩ := he; have HB4 := Lib.hid hb4; clear hb4)
      have hs4 := HB4.out.size
      have HB5 : Hid (Below wc.heap.size wc w4) := HB3.out.trans (HB4.out.mono (by have := HB3.out.size; omega))
      have HV64 : Hid (Var w4 wr.heap.size (patR pw ph pp ps pa)) := HV6.out.below HB4.out
      clear hr6 hq6 hi6 hB3 hm1 htz1 hd1
      go_wp2
      go_loopw [35] (fun j wr' => ∃ n : Nat, n ≤ k ∧ j = .int .i64 n ∧ Below w4.heap.size w4 wr') (fun j _ => k - (intOf j).toNat)
      case atStart => exact ⟨0, Nat.zero_le _, rfl, Below.refl _ _⟩
      case round =>
        obtain ⟨n, hn, rfl, hb'⟩ := hrel
        have hsz4 := hb'.size
        have hv6 := HV64.out.below hb'
        have hB4 : Below wc.heap.size wc wr := HB5.out.trans (hb'.mono (by have := HB5.out.size; omega))
        by_cases hnl : n < k
        · obtain ⟨rw2, rq2⟩ := patRow (HAT.out.below hB4) n (by omega)
          have hok2 := HOK.out _ (List.getElem_mem (show n < R.length by omega))
          have hne2 := HNE.out n hnl
          obtain ⟨⟨qw, qh, qp, qs, qa⟩, hp⟩ : ∃ r, R[n]'(by omega) = r := ⟨_, rfl⟩
          rw [hp] at rq2 hok2
          simp only [hp] at hne2
          clear hp
          unfold ptV at rq2
          dsimp only at rq2
          have he2 : patEq pw ph pp ps pa qw qh qp qs qa = false := hne2
          have hqa : qa.length ≤ maxLen := by have : qa.length ≤ 2048 := hok2; unfold maxLen; omega
          have hr6 : hasRow wr ⟨_, 0, none⟩ 22 = true := hv6.hasRow (patR_length _ _ _ _ _)
          have hq6 : rowAt wr ⟨_, 0, none⟩ 22 = patV pw ph pp ps pa := hv6.rowAt (patR_length _ _ _ _ _)
          have hi6 := isOld_iff.2 hv6.lt
          have hi1' : isOld b1 wr = true := isOld_iff.2 (by omega)
          clear hok2 hv6 hne2
          go_wp2
          go_roundw
          case rel => exact ⟨n + 1, by omega, by go_num, (by repeat (first | exact Below.refl _ _ | assumption | refine below_grown ?_ (by first | omega | (simp [go_sem]; done) | (simp [go_sem] <;> omega)) _ | refine Below.alloc ?_ (by first | omega | (simp [go_sem]; done) | (simp [go_sem] <;> omega)) _ | refine below_bytesW ?_ (by first | omega | (simp [go_sem]; done) | (simp [go_sem] <;> omega)) _ | refine Below.drew ?_ | refine below_drewN ?_ _))⟩
          case measure => simp [intOf]; omega
        · obtain rfl : n = k := by omega
          clear hv6 hb'
          have hwsz := hB4.size
          go_wp2
          go_roundw
          case rel => first | exact ⟨n + 1, by omega, by go_num, (by repeat (first | exact Below.refl _ _ | assumption | refine below_grown ?_ (by first | omega | (simp [go_sem]; done) | (simp [go_sem] <;> omega)) _ | refine Below.alloc ?_ (by first | omega | (simp [go_sem]; done) | (simp [go_sem] <;> omega)) _ | refine below_bytesW ?_ (by first | omega | (simp [go_sem]; done) | (simp [go_sem] <;> omega)) _ | refine Below.drew ?_ | refine below_drewN ?_ _))⟩ | exact ⟨⟨n + 1, by omega, by go_num, (by repeat (first | exact Below.refl _ _ | assumption | refine below_grown ?_ (by first | omega | (simp [go_sem]; done) | (simp [go_sem] <;> omega)) _ | refine Below.alloc ?_ (by first | omega | (simp [go_sem]; done) | (simp [go_sem] <;> omega)) _ | refine below_bytesW ?_ (by first | omega | (simp [go_sem]; done) | (simp [go_sem] <;> omega)) _ | refine Below.drew ?_ | refine below_drewN ?_ _))⟩, rfl⟩ | ((repeat apply Exists.intro); exact ⟨⟨n + 1, by omega, by go_num, (by repeat (first | exact Below.refl _ _ | assumption | refine below_grown ?_ (by first | omega | (simp [go_sem]; done) | (simp [go_sem] <;> omega)) _ | refine Below.alloc ?_ (by first | omega | (simp [go_sem]; done) | (simp [go_sem] <;> omega)) _ | refine below_bytesW ?_ (by first | omega | (simp [go_sem]; done) | (simp [go_sem] <;> omega)) _ | refine Below.drew ?_ | refine below_drewN ?_ _))⟩, rfl⟩)
          case measure => simp [intOf]; omega
    · obtain rfl : k = R.length := by omega
      have hv4 := HV4.out.below hbr
      have hw2sz := hbw2.size
      have hm1 := hm.below hbw2
      have HIN2 : Hid (ListIn patCod wr a R lo) := HIN.out.below hbr
      have hin2 := HIN2.out
      have hr4 : hasRow wr ⟨b4, 0, none⟩ 3 = true := hv4.hasRow rfl
      have hq4 : rowAt wr ⟨b4, 0, none⟩ 3 = faultV fc fl fk := hv4.rowAt rfl
      have hc4 : wr.cell? ⟨b4, 0, none⟩ = some (.int .i64 fc) := hv4.cell 0 (by simp [faultR])
      have hc41 : wr.cell? ⟨b4, 1, none⟩ = some (.int .i64 fl) := hv4.cell 1 (by simp [faultR])
      have hc42 : wr.cell? ⟨b4, 2, none⟩ = some (.int .i64 fk) := hv4.cell 2 (by simp [faultR])
      have hi4 := isOld_iff.2 hv4.lt
      clear hbr HBR HB2 HIN HOK HND HRT hv4
      have hm := hm1
      rcases HFT.out with h0 | ⟨rfl, hne⟩
      · obtain ⟨z1, z0⟩ := Prod.mk.inj h0
        obtain ⟨z2, z3⟩ := Prod.mk.inj z0
        clear h0 z0
        subst z1
        subst z2
        subst z3
        have e0 : upF ((0, 0, 0) : GFl) = (0, 0, 0) := rfl
        rw [e0] at HQ
        have he0 : faultEq 0 0 0 0 0 0 = true := rfl
        have hl12 : (R.length : Int) ≤ 12 := by omega
        clear HFT HP
        go_wp2_with (first
          | (go_at_call 12; (with_reducible refine (HQ.out _ ?_).mono ?_); (exact (by repeat (first | exact hm | apply HasMax.grown | apply HasMax.alloc | apply HasMax.drew))); intro e w1 hg; obtain ⟨a2, c2, rfl, hc2, hb1, hl2⟩ := hg; obtain ⟨p1, rfl⟩ := grown_of hb1; clear hb1)
          | (go_at_call 14; refine (HS.out _ _ _ _ _ _ _ (by repeat (first | (with_reducible exact hin2) | (with_reducible exact hl2) | (with_reducible apply ListIn.grown) | (with_reducible apply ListIn.alloc))) (by repeat (first | (with_reducible exact hl2) | (with_reducible exact hin2) | (with_reducible apply ListIn.grown) | (with_reducible apply ListIn.alloc)))).mono ?_; rintro e w1 ⟨rfl, hb1⟩; obtain ⟨p1, rfl⟩ := grown_of hb1; clear hb1))
        go_ret
        exact ⟨by first | rfl | exact ret_bool (by simp), (by repeat (first | exact Below.refl _ _ | assumption | refine below_grown ?_ (by first | omega | (simp [go_sem]; done) | (simp [go_sem] <;> omega)) _ | refine Below.alloc ?_ (by first | omega | (simp [go_sem]; done) | (simp [go_sem] <;> omega)) _ | refine below_bytesW ?_ (by first | omega | (simp [go_sem]; done) | (simp [go_sem] <;> omega)) _ | refine Below.drew ?_ | refine below_drewN ?_ _))⟩
      · have e0 : upF ((fc, fl, fk) : GFl) = (fc, fl + 1, fk) := if_neg hne
        rw [e0] at HQ
        have hne1 : (fc != 0) = true := by rw [bne_iff_ne]; exact hne
        have he0 : faultEq fc (fl + 1) fk fc (fl + 1) fk = true := faultEq_iff.2 ⟨rfl, rfl, rfl⟩
        clear HFT HP hne HS
        go_wp2_with (go_at_call 12; (with_reducible refine (HQ.out _ ?_).mono ?_); (exact (by repeat (first | exact hm | apply HasMax.grown | apply HasMax.alloc | apply HasMax.drew))); intro e w1 hg; obtain ⟨a2, c2, rfl, hc2, hb1, hl2⟩ := hg; obtain ⟨p1, rfl⟩ := grown_of hb1; clear hb1)
        go_ret
        exact ⟨by first | rfl | exact ret_bool (by simp), (by repeat (first | exact Below.refl _ _ | assumption | refine below_grown ?_ (by first | omega | (simp [go_sem]; done) | (simp [go_sem] <;> omega)) _ | refine Below.alloc ?_ (by first | omega | (simp [go_sem]; done) | (simp [go_sem] <;> omega)) _ | refine below_bytesW ?_ (by first | omega | (simp [go_sem]; done) | (simp [go_sem] <;> omega)) _ | refine Below.drew ?_ | refine below_drewN ?_ _))⟩
set_option maxHeartbeats 1000000 in
theorem topoKeeps_law (s : List UInt8) (m : Int) (w : World) (hm : HasMax m w) (htz : HasTz w) (hd : HasDec w) :
    Calls Tryz.prog 3 #[.string ⟨s.toArray⟩] w fun e w' => e = .returned (.bool true) ∧ Below w.heap.size w w' := by
  by_cases h1 : (4000 : Int) < s.length
  · go_enter Tryz.func3, Tryz.ntmps3
    go_wp2_with (go_at_call 11; refine (topoAlive_any m _ (by repeat (first | exact hm | apply HasMax.grown | apply HasMax.alloc | apply HasMax.drew))).mono ?_; rintro e w1 ⟨rfl, hb1⟩; obtain ⟨p1, rfl⟩ := grown_of hb1; clear hb1)
    go_ret
    exact ⟨rfl, (by repeat (first | exact Below.refl _ _ | assumption | refine below_grown ?_ (by first | omega | (simp [go_sem]; done) | (simp [go_sem] <;> omega)) _ | refine Below.alloc ?_ (by first | omega | (simp [go_sem]; done) | (simp [go_sem] <;> omega)) _ | refine below_bytesW ?_ (by first | omega | (simp [go_sem]; done) | (simp [go_sem] <;> omega)) _ | refine Below.drew ?_ | refine below_drewN ?_ _))⟩
  · exact topoKeeps_at s h1 m w hm htz hd
end

section
open Go Go.RowKit
set_option maxRecDepth 20000
set_option linter.unusedSimpArgs false
set_option linter.unusedVariables false

theorem ptB_self (p : GPt) : ptB p p = true := ptB_iff.2 rfl
theorem take_nodup (R : List GPt) (k : Nat) (hk : k < R.length) (h : (R.take k).Nodup) (hne : ∀ n (hn : n < k), ptB (R[k]'hk) (R[n]'(by omega)) = false) : (R.take (k + 1)).Nodup := by
  rw [List.take_succ_eq_append_getElem hk, List.nodup_append]
  refine ⟨h, by simp, fun a ha b hb => ?_⟩
  rw [List.mem_singleton] at hb
  subst hb
  rintro rfl
  obtain ⟨i, hi, he⟩ := List.mem_iff_getElem.1 ha
  rw [List.length_take] at hi
  rw [List.getElem_take] at he
  have h1 := hne i (by omega)
  rw [he, ptB_self] at h1
  cases h1
theorem ptText_right {p : GPt} (h : rightP p = true) : patText p.1 p.2.1 p.2.2.1 p.2.2.2.1 p.2.2.2.2 = ptLine p := by
  unfold patText
  unfold rightP at h
  rw [if_pos h]; rfl
set_option maxRecDepth 100000 in
set_option maxHeartbeats 8000000 in
theorem topoBack_law (R : List GPt) (a : Option Addr) (c : Nat) (hc : R.length ≤ c) (hq : ∀ p ∈ R, p.2.2.2.2.length ≤ 1048576) (hqn : ∀ p ∈ R, p.2.1.name.length ≤ 1048576) (hcm : c ≤ maxLen) (m : Int) (w : World) (hin : ListIn patCod w a R 0) (hm : HasMax m w) (htz : HasTz w) (hd : HasDec w) :
    Calls Tryz.prog 10 #[.slice a R.length c] w fun e w' => e = .returned (.bool true) ∧ Below w.heap.size w w' := by
  unfold maxLen at hcm
  by_cases h12 : (12 : Int) < R.length
  · go_enter Tryz.func10, Tryz.ntmps10
    go_wp2_with (go_at_call 11; refine (topoAlive_any m _ (by repeat (first | exact hm | apply HasMax.grown | apply HasMax.alloc | apply HasMax.drew))).mono ?_; rintro e w1 ⟨rfl, hb1⟩; obtain ⟨p1, rfl⟩ := grown_of hb1; clear hb1)
    go_ret
    exact ⟨rfl, (by repeat (first | exact Below.refl _ _ | assumption | refine below_grown ?_ (by first | omega | (simp [go_sem]; done) | (simp [go_sem] <;> omega)) _ | refine Below.alloc ?_ (by first | omega | (simp [go_sem]; done) | (simp [go_sem] <;> omega)) _ | refine below_bytesW ?_ (by first | omega | (simp [go_sem]; done) | (simp [go_sem] <;> omega)) _ | refine Below.drew ?_ | refine below_drewN ?_ _))⟩
  · have HQ := Lib.hid hq
    have HQN := Lib.hid hqn
    have HIN := Lib.hid hin
    clear hq hqn hin
    go_enter Tryz.func10, Tryz.ntmps10
    go_upto_region 7 with (go_at_call 11; refine (topoAlive_any m _ (by repeat (first | exact hm | apply HasMax.grown | apply HasMax.alloc | apply HasMax.drew))).mono ?_; rintro e w1 ⟨rfl, hb1⟩; obtain ⟨p1, rfl⟩ := grown_of hb1; clear hb1)
    go_loopw [3, 17] (fun text i wr => ∃ k : Nat, k ≤ R.length ∧ i = .int .i64 k ∧ text = .string ⟨(ptFil (R.take k)).toArray⟩ ∧ Below w.heap.size w wr ∧ Hid (∀ p ∈ R.take k, rightP p = true ∧ p.2.2.2.2.length ≤ 1000) ∧ Hid ((R.take k).Nodup)) (fun _ i _ => R.length - (intOf i).toNat)
    case atStart => exact ⟨0, Nat.zero_le _, rfl, by simp [ptFil], (by repeat (first | exact Below.refl _ _ | assumption | refine below_grown ?_ (by first | omega | (simp [go_sem]; done) | (simp [go_sem] <;> omega)) _ | refine Below.alloc ?_ (by first | omega | (simp [go_sem]; done) | (simp [go_sem] <;> omega)) _ | refine below_bytesW ?_ (by first | omega | (simp [go_sem]; done) | (simp [go_sem] <;> omega)) _ | refine Below.drew ?_ | refine below_drewN ?_ _)), (fun p h => by simp at h), by show (R.take 0).Nodup; simp⟩
    case round =>
      obtain ⟨k, hk, rfl, rfl, hbr, HRT, HND⟩ := hrel
      have hrsz := hbr.size
      have HBR := Lib.hid hbr
      have hm1 := hm.below hbr
      have htz1 := htz.below hbr
      have hd1 := hd.below hbr
      by_cases hlt : k < R.length
      · obtain ⟨b1, o1, rfl, _, hlt1, hat1⟩ := HIN.out.resolve_left (fun h => by subst h; exact absurd hlt (Nat.not_lt_zero _))
        obtain ⟨rw1, rq1⟩ := patRow (hat1.below hbr) k hlt
        have HAT := Lib.hid hat1
        have hpa := HQ.out _ (List.getElem_mem hlt)
        have hnm := HQN.out _ (List.getElem_mem hlt)
        have HTK := Lib.hid (ptFil_take R k hlt)
        have HLN : Hid ((ptFil (R.take k)).length ≤ 1268 * 12) := by
          show _ ≤ _
          have := ptFil_len (R.take k) (fun r h => by have h1 := HRT.out r h; have h2 := (backP h1.1).len; omega)
          rw [List.length_take] at this
          omega
        have HND2 := Lib.hid (take_nodup R k hlt HND.out)
        have HRT2 : Hid (rightP (R[k]'hlt) = true → (R[k]'hlt).2.2.2.2.length ≤ 1000 → ∀ p ∈ R.take (k + 1), rightP p = true ∧ p.2.2.2.2.length ≤ 1000) := fun h1 h2 p hp => by
          rw [List.take_succ_eq_append_getElem hlt] at hp
          rcases List.mem_append.1 hp with hp | hp
          · exact HRT.out p hp
          · rw [List.mem_singleton] at hp; subst hp; exact ⟨h1, h2⟩
        have HPT := Lib.hid (fun h => ptText_right (p := R[k]'hlt) h)
        have HBK := Lib.hid (fun h => (backP (p := R[k]'hlt) h).len)
        have hkc : (k : Int) ≤ (c : Int) := by omega
        have ho1 : isOld b1 wr = true := isOld_iff.2 (by omega)
        have hi1 : (k : Int) < (R.length : Int) := by omega
        clear hat1 hbr
        have HNE : Hid (∀ (q : GPt), R[k]'hlt = q → (∀ n (hn : n < k), ptB q (R[n]'(by omega)) = false) → (R.take (k + 1)).Nodup) := fun q hq h => HND2.out (fun n hn => by rw [hq]; exact h n hn)
        clear HND2
        obtain ⟨q, hp⟩ : ∃ r, R[k]'hlt = r := ⟨_, rfl⟩
        have HNE2 := Lib.hid (HNE.out q hp)
        clear HNE
        rw [hp] at rq1 hpa hnm HTK HRT2 HPT HBK
        clear hp
        obtain ⟨pw, ph, pp, ps, pa⟩ := q
        unfold ptV at rq1
        dsimp only at rq1 hpa hnm HRT2 HPT HBK
        have HRG : Hid (∀ w, HasMax m w → HasTz w → HasDec w → Calls Tryz.prog 13 #[.agg (patV pw ph pp ps pa)] w fun e w' => e = .returned (.bool (rightP (pw, ph, pp, ps, pa))) ∧ Below w.heap.size w w') := fun w x y z => topoRight_any pw ph pp ps pa (by omega) (by unfold maxLen; omega) m w x y z
        have HTX : Hid (∀ w, HasMax m w → HasTz w → HasDec w → Calls Tryz.prog 22 #[.agg (patV pw ph pp ps pa)] w fun e w' => e = .returned (.string ⟨(patText pw ph pp ps pa).toArray⟩) ∧ Below w.heap.size w w') := fun w x y z => topoText_any pw ph pp ps pa (by omega) (by omega) m w x y z
        go_upto_region 9 with fail
        have HB3 : Hid (Below w.heap.size w (wr.alloc (Obj.cells (patV pw ph pp ps pa) 34))) := HBR.out.alloc (by omega) _
        have HV5 : Hid (Var (wr.alloc (Obj.cells (patV pw ph pp ps pa) 34)) wr.heap.size (patR pw ph pp ps pa)) := Var.new _ _ _ rfl rfl
        have hsz3 : wr.heap.size + 1 = (wr.alloc (Obj.cells (patV pw ph pp ps pa) 34)).heap.size := by simp
        generalize (wr.alloc (Obj.cells (patV pw ph pp ps pa) 34)) = w3 at *
        have hr5 : hasRow w3 ⟨wr.heap.size, 0, none⟩ 22 = true := HV5.out.hasRow (patR_length _ _ _ _ _)
        have hq5 : rowAt w3 ⟨wr.heap.size, 0, none⟩ 22 = patV pw ph pp ps pa := HV5.out.rowAt (patR_length _ _ _ _ _)
        have hc521 : w3.cell? ⟨wr.heap.size, 21, none⟩ = some (.string ⟨pa.toArray⟩) := HV5.out.pa21
        have hi5 : isOld wr.heap.size w3 = true := isOld_iff.2 (by omega)
        have hm3 := hm.below HB3.out
        have htz3 := htz.below HB3.out
        have hd3 := hd.below HB3.out
        clear rw1 rq1 ho1 hm1 htz1 hd1
        cases hrt : rightP (pw, ph, pp, ps, pa)
        · rw [hrt] at HRG
          go_wp2_with (go_at_call 13; (with_reducible refine (HRG.out _ hm3 htz3 hd3).mono ?_); rintro e w1 ⟨rfl, hb1⟩; obtain ⟨p1, rfl⟩ := grown_of hb1; clear hb1)
          go_ret
          have hb3 := HB3.out
          exact ⟨rfl, (by repeat (first | exact Below.refl _ _ | assumption | refine below_grown ?_ (by first | omega | (simp [go_sem]; done) | (simp [go_sem] <;> omega)) _ | refine Below.alloc ?_ (by first | omega | (simp [go_sem]; done) | (simp [go_sem] <;> omega)) _ | refine below_bytesW ?_ (by first | omega | (simp [go_sem]; done) | (simp [go_sem] <;> omega)) _ | refine Below.drew ?_ | refine below_drewN ?_ _))⟩
        · rw [hrt] at HRG
          have hnm253 := rightP_name hrt
          have HT2 := HPT.out hrt
          rw [HT2] at HTX
          have hbk := HBK.out hrt
          clear HPT HBK HT2 hnm253
          by_cases hp1 : (1000 : Int) < pa.length
          · go_wp2_with (go_at_call 13; (with_reducible refine (HRG.out _ hm3 htz3 hd3).mono ?_); rintro e w1 ⟨rfl, hb1⟩; obtain ⟨p1, rfl⟩ := grown_of hb1; clear hb1)
            go_ret
            have hb3 := HB3.out
            exact ⟨rfl, (by repeat (first | exact Below.refl _ _ | assumption | refine below_grown ?_ (by first | omega | (simp [go_sem]; done) | (simp [go_sem] <;> omega)) _ | refine Below.alloc ?_ (by first | omega | (simp [go_sem]; done) | (simp [go_sem] <;> omega)) _ | refine below_bytesW ?_ (by first | omega | (simp [go_sem]; done) | (simp [go_sem] <;> omega)) _ | refine Below.drew ?_ | refine below_drewN ?_ _))⟩
          · have HR3 := Lib.hid (HRT2.out hrt (by omega))
            have htl := HLN.out
            clear HRT2 HLN HRT HND
            generalize ptLine (pw, ph, pp, ps, pa) = tx at *
            generalize hPF : ptFil (R.take k) = T at *
            clear hPF
            have n1 : ¬ 9223372036854775807 < tx.length + 1 := by omega
            have n2 : ¬ 9223372036854775807 < T.length + (tx.length + 1) := by omega
            go_upto_region 12 with (go_at_call 13; (with_reducible refine (HRG.out _ hm3 htz3 hd3).mono ?_); intro e w4 he; obtain ⟨rfl, hb4⟩ := he; have HB4 := Lib.hid hb4; have hc521' := (HV5.out.below hb4).pa21; clear hb4)
            have hs4 := HB4.out.size
            have HB5 : Hid (Below w.heap.size w w4) := HB3.out.trans (HB4.out.mono (by have := HB3.out.size; omega))
            have HV54 : Hid (Var w4 wr.heap.size (patR pw ph pp ps pa)) := HV5.out.below HB4.out
            have HAT4 : Hid (ListAt patCod w4 b1 o1 R) := HAT.out.below HB5.out
            clear hr5 hq5 hc521 hi5 hm3 htz3 hd3 hc521'
            go_wp2
            go_loopw [35] (fun j wr' => ∃ n : Nat, n ≤ k ∧ j = .int .i64 n ∧ Below w4.heap.size w4 wr' ∧ Hid (∀ i (hi : i < n), ∀ h : i < R.length, ptB (pw, ph, pp, ps, pa) (R[i]'h) = false)) (fun j _ => k - (intOf j).toNat)
            case atStart => exact ⟨0, Nat.zero_le _, rfl, Below.refl _ _, fun i hi => absurd hi (Nat.not_lt_zero _)⟩
            case round =>
              obtain ⟨n, hn, rfl, hb', HNO⟩ := hrel
              have hsz4 := hb'.size
              have hv5 := HV54.out.below hb'
              have hB4 : Below w.heap.size w wr := HB5.out.trans (hb'.mono (by have := HB5.out.size; omega))
              have HB6 := Lib.hid hB4
              have hr5 : hasRow wr ⟨_, 0, none⟩ 22 = true := hv5.hasRow (patR_length _ _ _ _ _)
              have hq5 : rowAt wr ⟨_, 0, none⟩ 22 = patV pw ph pp ps pa := hv5.rowAt (patR_length _ _ _ _ _)
              have hi5 := isOld_iff.2 hv5.lt
              by_cases hnl : n < k
              · obtain ⟨rw2, rq2⟩ := patRow (HAT4.out.below hb') n (by omega)
                have hqa := HQ.out _ (List.getElem_mem (show n < R.length by omega))
                have hi1' : isOld b1 wr = true := isOld_iff.2 (by omega)
                have HNS : Hid (ptB (pw, ph, pp, ps, pa) (R[n]'(by omega)) = false → ∀ i (hi : i < n + 1), ∀ h : i < R.length, ptB (pw, ph, pp, ps, pa) (R[i]'h) = false) := fun h i hi h' => by
                  by_cases hin : i < n
                  · exact HNO.out i hin h'
                  · obtain rfl : i = n := by omega
                    exact h
                obtain ⟨⟨qw, qh, qp, qs, qa⟩, hp⟩ : ∃ r, R[n]'(by omega) = r := ⟨_, rfl⟩
                rw [hp] at rq2 hqa HNS
                clear hp hv5 hB4
                unfold ptV at rq2
                dsimp only at rq2 hqa
                have hqa1 : qa.length ≤ maxLen := by unfold maxLen; omega
                have hpa1 : pa.length ≤ maxLen := by unfold maxLen; omega
                cases he2 : patEq pw ph pp ps pa qw qh qp qs qa
                · have HNS2 := Lib.hid (HNS.out he2)
                  clear HNS
                  go_wp2
                  go_roundw
                  case rel => exact ⟨n + 1, by omega, by go_num, (by repeat (first | exact Below.refl _ _ | assumption | refine below_grown ?_ (by first | omega | (simp [go_sem]; done) | (simp [go_sem] <;> omega)) _ | refine Below.alloc ?_ (by first | omega | (simp [go_sem]; done) | (simp [go_sem] <;> omega)) _ | refine below_bytesW ?_ (by first | omega | (simp [go_sem]; done) | (simp [go_sem] <;> omega)) _ | refine Below.drew ?_ | refine below_drewN ?_ _)), HNS2.out⟩
                  case measure => simp [intOf]; omega
                · clear HNS
                  go_wp2
                  go_ret
                  have hb6 := HB6.out
                  exact ⟨rfl, (by repeat (first | exact Below.refl _ _ | assumption | refine below_grown ?_ (by first | omega | (simp [go_sem]; done) | (simp [go_sem] <;> omega)) _ | refine Below.alloc ?_ (by first | omega | (simp [go_sem]; done) | (simp [go_sem] <;> omega)) _ | refine below_bytesW ?_ (by first | omega | (simp [go_sem]; done) | (simp [go_sem] <;> omega)) _ | refine Below.drew ?_ | refine below_drewN ?_ _))⟩
              · obtain rfl : n = k := by omega
                have hwsz := hB4.size
                have HND3 := Lib.hid (HNE2.out (fun i hi => HNO.out i hi (by omega)))
                have hm4 := hm.below hB4
                have htz4 := htz.below hB4
                have hd4 := hd.below hB4
                clear hv5 hb' HNE2 HNO
                go_wp2_with (go_at_call 22; (with_reducible refine (HTX.out _ hm4 htz4 hd4).mono ?_); rintro e w1 ⟨rfl, hb1⟩; obtain ⟨p1, rfl⟩ := grown_of hb1; clear hb1)
                go_roundw
                case rel => first | exact ⟨n + 1, by omega, by go_num, by rw [HTK.out], (by repeat (first | exact Below.refl _ _ | assumption | refine below_grown ?_ (by first | omega | (simp [go_sem]; done) | (simp [go_sem] <;> omega)) _ | refine Below.alloc ?_ (by first | omega | (simp [go_sem]; done) | (simp [go_sem] <;> omega)) _ | refine below_bytesW ?_ (by first | omega | (simp [go_sem]; done) | (simp [go_sem] <;> omega)) _ | refine Below.drew ?_ | refine below_drewN ?_ _)), HR3.out, HND3.out⟩ | exact ⟨⟨n + 1, by omega, by go_num, by rw [HTK.out], (by repeat (first | exact Below.refl _ _ | assumption | refine below_grown ?_ (by first | omega | (simp [go_sem]; done) | (simp [go_sem] <;> omega)) _ | refine Below.alloc ?_ (by first | omega | (simp [go_sem]; done) | (simp [go_sem] <;> omega)) _ | refine below_bytesW ?_ (by first | omega | (simp [go_sem]; done) | (simp [go_sem] <;> omega)) _ | refine Below.drew ?_ | refine below_drewN ?_ _)), HR3.out, HND3.out⟩, rfl⟩ | ((repeat apply Exists.intro); exact ⟨⟨n + 1, by omega, by go_num, by rw [HTK.out], (by repeat (first | exact Below.refl _ _ | assumption | refine below_grown ?_ (by first | omega | (simp [go_sem]; done) | (simp [go_sem] <;> omega)) _ | refine Below.alloc ?_ (by first | omega | (simp [go_sem]; done) | (simp [go_sem] <;> omega)) _ | refine below_bytesW ?_ (by first | omega | (simp [go_sem]; done) | (simp [go_sem] <;> omega)) _ | refine Below.drew ?_ | refine below_drewN ?_ _)), HR3.out, HND3.out⟩, rfl⟩)
                case measure => simp [intOf]; omega
      · obtain rfl : k = R.length := by omega
        rw [List.take_length] at HRT HND
        rw [List.take_length]
        have HF : Hid (∀ w, HasMax m w → Calls Tryz.prog 12 #[.string ⟨(35 :: 32 :: 97 :: 108 :: 108 :: 10 :: 10 :: ptFil R).toArray⟩] w (GivesF patCod R (0, 0, 0) w)) := fun w a => by
          have hl := ptFil_len R (fun r h => by have h1 := HRT.out r h; have h2 := (backP h1.1).len; omega)
          have := topoFile_any (headT ++ ptFil R) (by rw [List.length_append]; have h7 : headT.length = 7 := rfl; omega) m w a
          rw [file_pts R (fun r h => (HRT.out r h).1) HND.out (by omega) (fun r h => (HRT.out r h).2)] at this
          exact this
        have HLN : (ptFil R).length ≤ 1268 * 12 := by
          have := ptFil_len R (fun r h => by have h1 := HRT.out r h; have h2 := (backP h1.1).len; omega)
          omega
        have HOK : ∀ r ∈ R, okP r := fun r h => by have := (HRT.out r h).2; show _ ≤ _; omega
        have HS := Lib.hid (fun a b ca cb la lb w (h : ListIn patCod w a R la) (h' : ListIn patCod w b R lb) => refSamePt_any R a b ca cb la lb (by omega) HOK w h h')
        have HIN2 : Hid (ListIn patCod wr a R 0) := HIN.out.below hbr
        have hin2 := HIN2.out
        clear HRT HND HOK HIN HIN2
        generalize ptFil R = T at *
        have n1 : ¬ 9223372036854775807 < 7 + T.length := by omega
        have g0 : (Lit.int .i64 0).wf = true := rfl
        have he0 : faultEq 0 0 0 0 0 0 = true := rfl
        have hm := hm1
        go_wp2_with (first
          | (go_at_call 12; (with_reducible refine (HF.out _ ?_).mono ?_); (exact (by repeat (first | exact hm | apply HasMax.grown | apply HasMax.alloc | apply HasMax.drew))); intro e w1 hg; obtain ⟨a2, c2, rfl, hc2, hb1, hl2⟩ := hg; obtain ⟨p1, rfl⟩ := grown_of hb1; clear hb1)
          | (go_at_call 14; refine (HS.out _ _ _ _ _ _ _ (by repeat (first | (with_reducible exact hin2) | (with_reducible exact hl2) | (with_reducible apply ListIn.grown) | (with_reducible apply ListIn.alloc))) (by repeat (first | (with_reducible exact hl2) | (with_reducible exact hin2) | (with_reducible apply ListIn.grown) | (with_reducible apply ListIn.alloc)))).mono ?_; rintro e w1 ⟨rfl, hb1⟩; obtain ⟨p1, rfl⟩ := grown_of hb1; clear hb1))
        go_ret
        exact ⟨by first | rfl | exact ret_bool (by simp), (by repeat (first | exact Below.refl _ _ | assumption | refine below_grown ?_ (by first | omega | (simp [go_sem]; done) | (simp [go_sem] <;> omega)) _ | refine Below.alloc ?_ (by first | omega | (simp [go_sem]; done) | (simp [go_sem] <;> omega)) _ | refine below_bytesW ?_ (by first | omega | (simp [go_sem]; done) | (simp [go_sem] <;> omega)) _ | refine Below.drew ?_ | refine below_drewN ?_ _))⟩
end
end Go.Proofs.YthklfbakffaioaaGreatDoor
