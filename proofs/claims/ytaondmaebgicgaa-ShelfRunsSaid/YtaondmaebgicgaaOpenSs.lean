/- Slices of structs among the arguments: their elements as data. -/
import Derived.Test.YtaondmaebgicgaaCook
import Derived.Test.YtaondmaebgicgaaCod

import Derived.OpenShut
import Derived.ChangeSlices
namespace Go.Proofs.Ytaondmaebgicgaa
open Go Go.RowKit Go.WideShapes Go.ChangeShapes
set_option maxRecDepth 20000
set_option linter.unusedSimpArgs false
set_option linter.unusedVariables false

section
variable {H : Type} {enc : TypeId × Value → H} {P : Program} {w : World} {base : Nat} {spare : Nat → Bool} {held : Bool}
theorem rowFits_append {r : Reach} {b : Nat} : ∀ {ts us : List TypeId} {a c : List Value}, RowFits P w r b ts a → RowFits P w r b us c → RowFits P w r b (ts ++ us) (a ++ c)
  | [], us, a, c, h1, h2 => by rw [rowFits_nil h1]; exact h2
  | t :: ts, us, a, c, h1, h2 => by
    obtain ⟨v, x, rfl, h3, h4⟩ := rowFits_cons h1
    exact ⟨h3, rowFits_append h4 h2⟩
theorem leaf_bool {t : TypeId} {fuel : Nat} {cs : List Value} {x : DataW H × List MemPlace} (ht : P.underlying t = some .bool) (h : DataW.trod enc P w base spare held fuel t cs = some x) : RowFits P w .any 0 [t] cs := by
  obtain ⟨b, rfl, _⟩ := DataW.trod_bool ht h
  refine ⟨?_, trivial⟩
  unfold Cell.okWide Cell.ok
  rw [ht]
  trivial
theorem leaf_int {t : TypeId} {k : IntKind} {fuel : Nat} {cs : List Value} {x : DataW H × List MemPlace} (ht : P.underlying t = some (.int k)) (h : DataW.trod enc P w base spare held fuel t cs = some x) : RowFits P w .any 0 [t] cs := by
  obtain ⟨n, rfl, _, hw⟩ := DataW.trod_int ht h
  refine ⟨?_, trivial⟩
  unfold Cell.okWide Cell.ok
  rw [ht]
  exact ⟨rfl, by simpa [Lit.wf, IntKind.has] using hw⟩
theorem leaf_str {t : TypeId} {fuel : Nat} {cs : List Value} {x : DataW H × List MemPlace} (ht : P.underlying t = some .string) (h : DataW.trod enc P w base spare held fuel t cs = some x) : RowFits P w .any 0 [t] cs := by
  obtain ⟨s, rfl, _, hw⟩ := DataW.trod_string ht h
  refine ⟨?_, trivial⟩
  unfold Cell.okWide Cell.ok
  rw [ht]
  have e : IntKind.i64.max = 9223372036854775807 := rfl
  show (s.size : Int) ≤ IntKind.i64.max
  rw [e]
  unfold maxLen at hw
  omega
theorem leaf_array {t e : TypeId} {n fuel : Nat} {cs : List Value} {x : DataW H × List MemPlace} (ht : P.underlying t = some (.array n e)) (hc : P.cellsOf e = 1) (hn : P.cellsOf t = n)
    (he : ∀ (fuel : Nat) (cs : List Value) (y : DataW H × List MemPlace), DataW.trod enc P w base spare held fuel e cs = some y → RowFits P w .any 0 [e] cs)
    (h : DataW.trod enc P w base spare held fuel t cs = some x) : RowFits P w .any 0 (List.replicate n e) cs := by
  obtain ⟨xs, m, _, _, hl, hx, hf⟩ := DataW.trod_array ht h
  rw [hn] at hl
  refine rowFits_of (by rw [List.length_replicate, hl]) (fun i v hv => ?_)
  have hi : i < n := by
    have := (List.getElem?_eq_some_iff.1 hv).1
    omega
  refine ⟨e, by simp [hi], ?_⟩
  have h1 := hf i hi
  rw [hc, Nat.mul_one, List.getElem?_eq_getElem (by omega)] at h1
  have h2 : (cs.drop i).take 1 = [v] := by
    obtain ⟨hlt, rfl⟩ := List.getElem?_eq_some_iff.1 hv
    rw [List.drop_eq_getElem_cons hlt]; rfl
  rw [h2] at h1
  exact (he _ _ _ h1).1
/-- The fields of a struct type and the leaves of each. -/
def FitsF (enc : TypeId × Value → H) (P : Program) (w : World) (base : Nat) (spare : Nat → Bool) (held : Bool) : List Field → List (List TypeId) → Prop
  | [], [] => True
  | f :: fs, ts :: tss => (∀ (fuel : Nat) (cs : List Value) (y : DataW H × List MemPlace), DataW.trod enc P w base spare held fuel f.type cs = some y → RowFits P w .any 0 ts cs) ∧ FitsF enc P w base spare held fs tss
  | _, _ => False
def lieF (P : Program) : Nat → List Field → List (List TypeId) → Bool
  | _, [], [] => true
  | o, f :: fs, ts :: tss => f.offset == o && (P.cellsOf f.type == ts.length && lieF P (o + ts.length) fs tss)
  | _, _, _ => false
theorem fields_fit {cs : List Value} {m : Nat} : ∀ (fs : List Field) (tss : List (List TypeId)) (xs : List (DataW H × List MemPlace)) (o : Nat), lieF P o fs tss = true → FitsF enc P w base spare held fs tss → fs.length = xs.length →
    (∀ (i : Nat) (f : Field), fs[i]? = some f → DataW.trod enc P w base spare held m f.type ((cs.drop f.offset).take (P.cellsOf f.type)) = xs[i]?) → RowFits P w .any 0 tss.flatten ((cs.drop o).take tss.flatten.length)
  | [], [], xs, o, _, _, _, _ => by simp [RowFits]
  | [], ts :: tss, xs, o, h, _, _, _ => by simp [lieF] at h
  | f :: fs, [], xs, o, h, _, _, _ => by simp [lieF] at h
  | f :: fs, ts :: tss, [], o, _, _, hl, _ => by simp at hl
  | f :: fs, ts :: tss, y :: xs, o, h, hF, hl, hx => by
    simp only [lieF, Bool.and_eq_true, beq_iff_eq] at h
    obtain ⟨h1, h2, h3⟩ := h
    have h0 := hx 0 f rfl
    rw [h1, h2] at h0
    have hr := hF.1 _ _ _ h0
    have ih := fields_fit fs tss xs (o + ts.length) h3 hF.2 (by simpa using hl) (fun i g hg => hx (i + 1) g hg)
    have e : (cs.drop o).take (ts :: tss).flatten.length = (cs.drop o).take ts.length ++ (cs.drop (o + ts.length)).take tss.flatten.length := by
      rw [List.flatten_cons, List.length_append, List.take_add, List.drop_drop]
    rw [e, List.flatten_cons]
    exact rowFits_append hr ih
theorem struct_fit {t : TypeId} {fs : Array Field} {fuel : Nat} {cs : List Value} {x : DataW H × List MemPlace} (tss : List (List TypeId)) (ht : P.underlying t = some (.struct fs)) (hl : lieF P 0 fs.toList tss = true) (hc : P.cellsOf t = tss.flatten.length)
    (hF : FitsF enc P w base spare held fs.toList tss) (h : DataW.trod enc P w base spare held fuel t cs = some x) : RowFits P w .any 0 tss.flatten cs := by
  obtain ⟨xs, m, _, _, hcl, hx, hf⟩ := DataW.trod_struct ht h
  have := fields_fit (cs := cs) fs.toList tss xs 0 hl hF (by rw [hx]; simp) (fun i f hi => hf i f (by simpa using hi))
  rwa [List.drop_zero, ← hc, ← hcl, List.take_length] at this
end
section
variable {H : Type} {enc : TypeId × Value → H} {w : World} {base : Nat} {spare : Nat → Bool} {held : Bool}
theorem trod_addr {fuel : Nat} {cs : List Value} {x : DataW H × List MemPlace} (h : DataW.trod enc Try.prog w base spare held fuel 27 cs = some x) : RowFits Try.prog w .any 0 addrT cs :=
  leaf_array Try.underlying27 (by kernel_rfl) (by kernel_rfl) (fun _ _ _ h => leaf_int Try.underlying5 h) h
theorem trod_host {fuel : Nat} {cs : List Value} {x : DataW H × List MemPlace} (h : DataW.trod enc Try.prog w base spare held fuel 29 cs = some x) : RowFits Try.prog w .any 0 hostT cs := by
  have := struct_fit [[3], [9], addrT] Try.underlying29 (by kernel_rfl) (by kernel_rfl) ⟨fun _ _ _ h => leaf_int Try.underlying3 h, fun _ _ _ h => leaf_str Try.underlying9 h, fun _ _ _ h => trod_addr h, trivial⟩ h
  simpa [hostT] using this
/-- A slice among the arguments: its elements as data. -/
theorem open_slice {α : Type} (c : Cod α) (Q : α → Prop) {v : Value} {x : DataW H × List MemPlace} {fuel : Nat} {r : Reach} {b : Nat} (hc : Try.prog.cellsOf c.E = c.sz)
    (he : ∀ (fuel : Nat) (cs : List Value) (y : DataW H × List MemPlace), DataW.trod enc Try.prog w base spare held fuel c.E cs = some y → ∃ u : α, cs = c.enc u ∧ Q u)
    (hv : Value.okWide Try.prog w r b c.S v) (h : DataW.trod enc Try.prog w base spare held fuel c.S v.cells.toList = some x) :
    ∃ (a : Option Addr) (xs : List α) (cap : Nat), v = .slice a xs.length cap ∧ xs.length ≤ cap ∧ cap ≤ maxLen ∧ ListIn c w a xs 0 ∧ ∀ u ∈ xs, Q u := by
  obtain ⟨a0, len0, cap0, rfl⟩ := okWide_slice c.und hv
  have e0 : (Value.slice a0 len0 cap0).cells.toList = [.slice a0 len0 cap0] := rfl
  rw [e0] at h
  rcases DataW.trod_slice c.und h with ⟨h1, _⟩ | ⟨a, len, cap, elems, rest, n, _, h1, _, _, hl, hm, hlen, hel, _, _⟩
  · obtain ⟨rfl, rfl, rfl⟩ : a0 = none ∧ len0 = 0 ∧ cap0 = 0 := by simpa using h1
    exact ⟨none, [], 0, rfl, Nat.le_refl _, Nat.zero_le _, .inl rfl, fun u h => by cases h⟩
  · obtain ⟨rfl, rfl, rfl⟩ : a0 = some a ∧ len0 = len ∧ cap0 = cap := by simpa using h1
    have each : ∀ i, i < len0 → ∃ u : α, Q u ∧ ∀ j, j < c.sz → w.cell? ((a.add (i * c.sz)).add j) = (c.enc u)[j]? := by
      intro i hi
      have h2 := hel i hi
      rw [hc, List.getElem?_eq_getElem (by omega), Option.bind_eq_some_iff] at h2
      obtain ⟨cs, hcs, hy⟩ := h2
      obtain ⟨u, rfl, hq⟩ := he _ _ _ hy
      exact ⟨u, hq, (World.cells?_some hcs).2.2⟩
    have all : ∀ k, k ≤ len0 → ∃ xs : List α, xs.length = k ∧ (∀ u ∈ xs, Q u) ∧ ∀ i (hi : i < xs.length) j, j < c.sz → w.cell? ((a.add (i * c.sz)).add j) = (c.enc (xs[i]'hi))[j]? := by
      intro k
      induction k with
      | zero => exact fun _ => ⟨[], rfl, (fun u h => by cases h), fun i hi => absurd hi (Nat.not_lt_zero _)⟩
      | succ k ih =>
        intro hk
        obtain ⟨xs, hx, hQ, hxs⟩ := ih (by omega)
        obtain ⟨u, hq, hu⟩ := each k (by omega)
        refine ⟨xs ++ [u], by simp [hx], (fun y hy => by
          rcases List.mem_append.1 hy with hy | hy
          · exact hQ y hy
          · rw [List.mem_singleton] at hy; subst hy; exact hq), fun i hi j hj => ?_⟩
        by_cases hik : i < xs.length
        · rw [List.getElem_append_left hik]; exact hxs i hik j hj
        · have : i = xs.length := by simp at hi; omega
          subst this
          rw [List.getElem_append_right (Nat.le_refl _)]
          simp only [Nat.sub_self, List.getElem_cons_zero]
          rw [hx]; exact hu j hj
    obtain ⟨xs, hx, hQ, hxs⟩ := all len0 (Nat.le_refl _)
    refine ⟨some a, xs, cap0, by rw [hx], by omega, hm, ?_, hQ⟩
    by_cases h0 : len0 = 0
    · exact .inl (List.length_eq_zero_iff.1 (by omega))
    · right
      have hp := c.pos
      have hf := hxs 0 (by omega) 0 hp
      rw [Nat.zero_mul] at hf
      have ea : (a.add 0).add 0 = a := rfl
      rw [ea, List.getElem?_eq_getElem (by rw [c.len]; exact hp)] at hf
      obtain ⟨blk, off, spot⟩ := a
      have hs : spot = none ∧ blk < w.heap.size := by
        unfold World.cell? at hf
        simp only at hf
        split at hf
        · rename_i hh
          have hlt := (Array.getElem?_eq_some_iff.1 hh).1
          cases spot
          · exact ⟨rfl, hlt⟩
          · simp at hf
        · cases hf
      obtain ⟨rfl, hlt⟩ := hs
      refine ⟨blk, off, rfl, Nat.zero_le _, hlt, fun j u hj => ?_⟩
      have hjl : j < (c.encs xs).length := (List.getElem?_eq_some_iff.1 hj).1
      rw [c.encs_length] at hjl
      have hi : j / c.sz < xs.length := Nat.div_lt_of_lt_mul (by rw [Nat.mul_comm]; exact hjl)
      have hm2 := Nat.mod_lt j hp
      have hdm : j / c.sz * c.sz + j % c.sz = j := by rw [Nat.mul_comm]; exact Nat.div_add_mod j c.sz
      have h3 := hxs (j / c.sz) hi (j % c.sz) hm2
      have h4 := c.encs_get xs (j / c.sz) hi (j % c.sz) hm2
      rw [hdm, hj] at h4
      rw [← h4, add_mk, add_mk, Nat.add_assoc, hdm] at h3
      exact h3
end
end Go.Proofs.Ytaondmaebgicgaa
