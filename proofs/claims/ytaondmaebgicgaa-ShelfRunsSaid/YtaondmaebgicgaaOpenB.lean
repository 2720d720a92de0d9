/- Opening values: what a well-formed row of cells looks like; texts, numbers, bools. -/
import Derived.Test.YtaondmaebgicgaaProg
import Derived.Test.YtaondmaebgicgaaBase
import Derived.ProofKit
namespace Go.Proofs.Ytaondmaebgicgaa
open Go Go.RowKit
set_option maxRecDepth 20000

def RowFits (P : Program) (w : World) (r : Reach) (base : Nat) : List TypeId → List Value → Prop
  | [], [] => True
  | t :: ts, v :: vs => Cell.okWide P w r base t v ∧ RowFits P w r base ts vs
  | _, _ => False
section
variable {P : Program} {w : World} {r : Reach} {base : Nat}
theorem rowFits_of {ts : List TypeId} : ∀ {vs : List Value}, vs.length = ts.length → (∀ (i : Nat) (v : Value), vs[i]? = some v → ∃ u, ts[i]? = some u ∧ Cell.okWide P w r base u v) → RowFits P w r base ts vs := by
  induction ts with
  | nil =>
    intro vs hl _
    rcases vs with _ | ⟨v, vs⟩
    · exact trivial
    · simp at hl
  | cons t ts ih =>
    intro vs hl h
    rcases vs with _ | ⟨v, vs⟩
    · simp at hl
    · obtain ⟨u, hu, hc⟩ := h 0 v rfl
      obtain rfl : t = u := by simpa using hu
      exact ⟨hc, ih (by simpa using hl) (fun i x hx => h (i + 1) x hx)⟩
theorem rowFits_row {t : TypeId} {ts : List TypeId} {cs : Array Value} (ht : P.cellTypes P.depth t = some ts) (hs : cs.size = ts.length) (h : Row.okWide P w r base t cs) : RowFits P w r base ts cs.toList := by
  obtain ⟨us, hu, _, hc⟩ := h
  obtain rfl : ts = us := by rw [ht] at hu; exact Option.some.inj hu
  refine rowFits_of (by simpa using hs) fun i v hv => ?_
  have hi : i < ts.length := by
    rw [← hs]
    rw [← Array.length_toList]
    exact (List.getElem?_eq_some_iff.1 hv).1
  obtain ⟨u, hu, hc'⟩ := hc i v (by rw [← Array.getElem?_toList]; exact hv)
  rw [Nat.mod_eq_of_lt hi] at hu
  exact ⟨u, hu, hc'⟩
theorem rowFits_split : ∀ {ts us : List TypeId} {vs : List Value}, RowFits P w r base (ts ++ us) vs → ∃ a b, vs = a ++ b ∧ RowFits P w r base ts a ∧ RowFits P w r base us b
  | [], us, vs, h => ⟨[], vs, rfl, trivial, h⟩
  | t :: ts, us, [], h => by simp [RowFits] at h
  | t :: ts, us, v :: vs, h => by
    obtain ⟨h1, h2⟩ := h
    obtain ⟨a, b, e, ha, hb⟩ := rowFits_split h2
    exact ⟨v :: a, b, by rw [e]; rfl, ⟨h1, ha⟩, hb⟩
theorem rowFits_cons {t : TypeId} {ts : List TypeId} {vs : List Value} (h : RowFits P w r base (t :: ts) vs) : ∃ v b, vs = v :: b ∧ Cell.okWide P w r base t v ∧ RowFits P w r base ts b := by
  rcases vs with _ | ⟨v, vs⟩
  · simp [RowFits] at h
  · exact ⟨v, vs, rfl, h.1, h.2⟩
theorem rowFits_nil {vs : List Value} (h : RowFits P w r base [] vs) : vs = [] := by
  rcases vs with _ | ⟨v, vs⟩
  · rfl
  · simp [RowFits] at h

theorem cell_str {t : TypeId} {v : Value} (ht : P.underlying t = some .string) (h : Cell.okWide P w r base t v) : ∃ s : List UInt8, v = .string ⟨s.toArray⟩ ∧ s.length ≤ maxLen := by
  unfold Cell.okWide Cell.ok at h
  rw [ht] at h
  cases v <;> simp at h
  rename_i s
  refine ⟨s.data.toList, by cases s; rfl, ?_⟩
  have : s.data.toList.length = s.size := by cases s; rfl
  unfold maxLen
  omega
theorem cell_bool {t : TypeId} {v : Value} (ht : P.underlying t = some .bool) (h : Cell.okWide P w r base t v) : ∃ b : Bool, v = .bool b := by
  unfold Cell.okWide Cell.ok at h
  rw [ht] at h
  cases v <;> simp at h
  exact ⟨_, rfl⟩
theorem cell_int {t : TypeId} {k : IntKind} {v : Value} (ht : P.underlying t = some (.int k)) (h : Cell.okWide P w r base t v) : ∃ n : Int, v = .int k n ∧ (Lit.int k n).wf = true := by
  unfold Cell.okWide Cell.ok at h
  rw [ht] at h
  cases v <;> simp at h
  obtain ⟨rfl, h⟩ := h
  exact ⟨_, rfl, by simpa [Lit.wf, IntKind.has] using h⟩
theorem cell_u8 {t : TypeId} {v : Value} (ht : P.underlying t = some (.int .u8)) (h : Cell.okWide P w r base t v) : ∃ x : UInt8, v = .int .u8 (x.toNat : Int) := by
  obtain ⟨n, rfl, hw⟩ := cell_int ht h
  simp [Lit.wf, IntKind.min, IntKind.max, IntKind.signed, IntKind.bits] at hw
  refine ⟨UInt8.ofNat n.toNat, ?_⟩
  have : (UInt8.ofNat n.toNat).toNat = n.toNat := by
    rw [UInt8.toNat_ofNat']; omega
  rw [this]
  congr 1
  omega
theorem rowFits_u8 {t : TypeId} (ht : P.underlying t = some (.int .u8)) : ∀ {n : Nat} {vs : List Value}, RowFits P w r base (List.replicate n t) vs → ∃ l : List UInt8, l.length = n ∧ vs = l.map fun x => .int .u8 (x.toNat : Int)
  | 0, vs, h => ⟨[], rfl, by rw [rowFits_nil h]; rfl⟩
  | n + 1, vs, h => by
    rw [List.replicate_succ] at h
    obtain ⟨v, b, rfl, h1, h2⟩ := rowFits_cons h
    obtain ⟨x, rfl⟩ := cell_u8 ht h1
    obtain ⟨l, hl, rfl⟩ := rowFits_u8 ht h2
    exact ⟨x :: l, by simp [hl], rfl⟩
end

section
variable {w : World} {r : Reach} {base : Nat}
theorem open_str {v : Value} (h : Value.okWide Try.prog w r base 9 v) : ∃ s : List UInt8, v = .string ⟨s.toArray⟩ ∧ s.length ≤ maxLen := by
  unfold Value.okWide at h
  rw [Try.underlying9] at h
  exact cell_str Try.underlying9 h
theorem open_boolv {v : Value} (h : Value.okWide Try.prog w r base 4 v) : ∃ b : Bool, v = .bool b := by
  unfold Value.okWide at h
  rw [Try.underlying4] at h
  exact cell_bool Try.underlying4 h
theorem open_u8v {v : Value} (h : Value.okWide Try.prog w r base 5 v) : ∃ x : UInt8, v = .int .u8 (x.toNat : Int) := by
  unfold Value.okWide at h
  rw [Try.underlying5] at h
  exact cell_u8 Try.underlying5 h
theorem open_int64 {v : Value} (h : Value.okWide Try.prog w r base 3 v) : ∃ n : Int, v = .int .i64 n ∧ (Lit.int .i64 n).wf = true := by
  unfold Value.okWide at h
  rw [Try.underlying3] at h
  exact cell_int Try.underlying3 h
theorem open_int64' {v : Value} (h : Value.okWide Try.prog w r base 2 v) : ∃ n : Int, v = .int .i64 n ∧ (Lit.int .i64 n).wf = true := by
  unfold Value.okWide at h
  rw [Try.underlying2] at h
  exact cell_int Try.underlying2 h
end
end Go.Proofs.Ytaondmaebgicgaa
