/- Merged: Bulk, OpenStrU. -/
import Derived.Test.YtmfjabpmhkechaaGreatDoorSufAllB
import Derived.Test.YtmfjabpmhkechaaGreatDoorRows
import Derived.Test.YtmfjabpmhkechaaGreatDoorOpenB
namespace Go.Proofs.YtmfjabpmhkechaaGreatDoor
section
open Go Go.RowKit Go.WideShapes Go.ChangeShapes
set_option maxRecDepth 20000
set_option linter.unusedSimpArgs false
set_option linter.unusedVariables false

theorem bulk_part {H : Type} {d : DataW H} {l : List (DataW H)} (h : d ∈ l) : Rows.uptoBulk d ≤ Rows.uptoBulkAll l := by
  induction l with
  | nil => cases h
  | cons x r ih =>
    simp only [Rows.uptoBulkAll]
    rcases List.mem_cons.1 h with e | e
    · subst e; omega
    · have := ih e; omega
theorem bulk_arg {H : Type} {d : DataW H} {l : List (DataW H)} (hk : Rows.uptoSmall H l = true) (h : d ∈ l) : Rows.uptoBulk d ≤ 1048576 :=
  Nat.le_trans (bulk_part h) (of_decide_eq_true hk)
section
variable {H : Type} {enc : TypeId × Value → H} {P : Program} {w : World} {base : Nat} {spare : Nat → Bool} {held : Bool}
theorem bulk_field {t : TypeId} {fs : Array Field} {fuel : Nat} {cs : List Value} {x : DataW H × List MemPlace} (ht : P.underlying t = some (.struct fs)) (h : DataW.trod enc P w base spare held fuel t cs = some x) (i : Nat) (f : Field) (hi : fs[i]? = some f) :
    ∃ n y, DataW.trod enc P w base spare held n f.type ((cs.drop f.offset).take (P.cellsOf f.type)) = some y ∧ Rows.uptoBulk y.1 ≤ Rows.uptoBulk x.1 := by
  obtain ⟨xs, n, _, rfl, _, hl, hf⟩ := DataW.trod_struct ht h
  have h1 := hf i f hi
  have hlt : i < xs.length := by rw [hl]; exact (Array.getElem?_eq_some_iff.1 hi).1
  rw [List.getElem?_eq_getElem hlt] at h1
  refine ⟨n, _, h1, ?_⟩
  have : Rows.uptoBulk (xs[i]'hlt).1 ≤ Rows.uptoBulkAll (xs.map (·.1)) := bulk_part (List.mem_map_of_mem (List.getElem_mem hlt))
  simp only [Rows.uptoBulk]
  omega
theorem bulk_string {t : TypeId} {fuel : Nat} {l : List UInt8} {x : DataW H × List MemPlace} (ht : P.underlying t = some .string) (h : DataW.trod enc P w base spare held fuel t [.string ⟨l.toArray⟩] = some x) : l.length ≤ Rows.uptoBulk x.1 := by
  obtain ⟨s, hs, rfl, _⟩ := DataW.trod_string ht h
  simp only [List.cons.injEq, Value.string.injEq, and_true] at hs
  subst hs
  simp [Rows.uptoBulk]
/-- A slice among the arguments: its elements as data, and what the bulk says of each. -/
theorem open_sliceU {α : Type} (c : Cod α) (Q : List Value → Nat → Prop) (hQm : ∀ u n m, Q u n → n ≤ m → Q u m) {v : Value} {x : DataW H × List MemPlace} {fuel : Nat} {r : Reach} {b : Nat} (hc : Tryz.prog.cellsOf c.E = c.sz)
    (he : ∀ (fuel : Nat) (cs : List Value) (y : DataW H × List MemPlace), DataW.trod enc Tryz.prog w base spare held fuel c.E cs = some y → ∃ u : α, cs = c.enc u ∧ Q cs (Rows.uptoBulk y.1))
    (hv : Value.okWide Tryz.prog w r b c.S v) (h : DataW.trod enc Tryz.prog w base spare held fuel c.S v.cells.toList = some x) :
    ∃ (a : Option Addr) (xs : List α) (cap : Nat), v = .slice a xs.length cap ∧ xs.length ≤ cap ∧ cap ≤ maxLen ∧ ListIn c w a xs 0 ∧ ∀ u ∈ xs, Q (c.enc u) (Rows.uptoBulk x.1) := by
  obtain ⟨a, xs, cap, h1, h2, h3, h4, _⟩ := open_slice c (fun _ => True) hc (fun f cs y hy => by obtain ⟨u, h1, _⟩ := he f cs y hy; exact ⟨u, h1, trivial⟩) hv h
  refine ⟨a, xs, cap, h1, h2, h3, h4, ?_⟩
  subst h1
  have e0 : (Value.slice a xs.length cap).cells.toList = [.slice a xs.length cap] := rfl
  rw [e0] at h
  intro u hu
  obtain ⟨i, hi, hiu⟩ := List.mem_iff_getElem.1 hu
  rcases DataW.trod_slice c.und h with ⟨g1, _⟩ | ⟨a', len, cap', elems, rest, n, _, g1, rfl, _, hl, hm, hlen, hel, _, _⟩
  · have g2 : a = none ∧ xs.length = 0 ∧ cap = 0 := by simpa using g1
    rw [g2.2.1] at hi; exact absurd hi (Nat.not_lt_zero _)
  · obtain ⟨rfl, e1, rfl⟩ : a = some a' ∧ xs.length = len ∧ cap = cap' := by simpa using g1
    have h5 := hel i (by omega)
    rw [hc, List.getElem?_eq_getElem (by omega), Option.bind_eq_some_iff] at h5
    obtain ⟨cs, hcs, hy⟩ := h5
    obtain ⟨u', rfl, hq⟩ := he _ _ _ hy
    have hcell := (World.cells?_some hcs).2.2
    have hb : Rows.uptoBulk (elems[i]'(by omega)).1 ≤ Rows.uptoBulkAll (elems.map (·.1)) := bulk_part (List.mem_map_of_mem (List.getElem_mem (by omega)))
    have he' : c.enc u' = c.enc u := by
      rcases h4 with h4 | ⟨b', o', h6, h7, h8, h9⟩
      · subst h4; cases hu
      · obtain rfl : a' = ⟨b', o', none⟩ := Option.some.inj h6
        apply List.ext_getElem?
        intro j
        by_cases hj : j < c.sz
        · rw [← hcell j hj]
          have h10 := c.encs_get xs i hi j hj
          rw [hiu] at h10
          have h11 : (c.enc u)[j]? = some ((c.enc u)[j]'(by rw [c.len]; exact hj)) := List.getElem?_eq_getElem _
          rw [h11] at h10 ⊢
          have := h9 _ _ h10
          rw [add_mk, add_mk, Nat.add_assoc]
          exact this
        · rw [List.getElem?_eq_none (by rw [c.len]; omega), List.getElem?_eq_none (by rw [c.len]; omega)]
    have huu : Q (c.enc u') (Rows.uptoBulk (DataW.slice (H := H) (elems.map (·.1)) (rest.map (·.1)))) := hQm _ _ _ hq (by simp only [Rows.uptoBulk]; omega)
    rw [he'] at huu
    exact huu
end
end

section
open Go Go.RowKit Go.WideShapes Go.ChangeShapes
set_option maxRecDepth 20000
set_option linter.unusedSimpArgs false
set_option linter.unusedVariables false

section
variable {H : Type} {enc : TypeId × Value → H} {w : World} {base : Nat} {spare : Nat → Bool} {held : Bool}
theorem open_strU {v : Value} {x : DataW H × List MemPlace} {r : Reach} {b : Nat} (hv : Value.okWide Tryz.prog w r b 9 v) (h : ∃ fuel, DataW.trod enc Tryz.prog w base spare held fuel 9 v.cells.toList = some x) :
    ∃ l : List UInt8, v = .string ⟨l.toArray⟩ ∧ l.length ≤ Rows.uptoBulk x.1 := by
  obtain ⟨l, rfl, _⟩ := open_str hv
  obtain ⟨fuel, h⟩ := h
  exact ⟨l, rfl, bulk_string Tryz.underlying9 h⟩
end
end
end Go.Proofs.YtmfjabpmhkechaaGreatDoor
