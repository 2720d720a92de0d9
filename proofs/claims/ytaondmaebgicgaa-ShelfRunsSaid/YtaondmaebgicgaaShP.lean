/- The shelf, plain: the document's list; what the program's maps are of it; the shelf in memory. -/
import Derived.Test.YtaondmaebgicgaaShD
namespace Go.Proofs.Ytaondmaebgicgaa
open Go Go.RowKit
set_option maxRecDepth 20000
set_option linter.unusedSimpArgs false
set_option linter.unusedVariables false

def findW (W : List GKept) (c : GCookie) : Option GKept := W.find? (fun k => samePl k.1 c)
def countW (W : List GKept) (s : List UInt8) : Nat := (W.filter (fun k => k.2 == s)).length
def zeroAd : GAddr := ⟨List.replicate 16 0, rfl⟩
def zeroHo : GHost := ⟨0, [], zeroAd, rfl, by decide⟩
def zeroCk : GCookie := ⟨[], [], zeroHo, false, [], false, false, 0, 0, 0, 0, 0, by decide, by decide, by decide, rfl, rfl, rfl, rfl, rfl⟩
def zeroKt : GKept := (zeroCk, [])
def allF (W : List GKept) (kl : Lit) : Option Value := (W.find? (fun k => (placeLit k.1).sameKey kl)).map (fun k => .agg (keptV k))
def sitesF (W : List GKept) : Lit → Option Value
  | .string s => if 0 < countW W s then some (.int .i64 (countW W s : Nat)) else none
  | _ => none
/-- No two stand in one place. -/
def Apart (W : List GKept) : Prop := W.Pairwise (fun a b => samePl a.1 b.1 = false)
theorem samePl_refl (c : GCookie) : samePl c c = true := samePl_iff.2 ⟨rfl, rfl, rfl, rfl⟩
theorem samePl_symm {c d : GCookie} : samePl c d = samePl d c := by
  rw [Bool.eq_iff_iff, samePl_iff, samePl_iff]
  constructor <;> rintro ⟨a, b, c, d⟩ <;> exact ⟨a.symm, b.symm, c.symm, d.symm⟩
theorem samePl_trans {a b c : GCookie} (h : samePl a b = true) : samePl a c = samePl b c := by
  obtain ⟨h1, h2, h3, h4⟩ := samePl_iff.1 h
  unfold samePl
  rw [h1, h2, h3, h4]
theorem allF_at (W : List GKept) (c : GCookie) : allF W (placeLit c) = (findW W c).map (fun k => .agg (keptV k)) := by
  unfold allF findW
  congr 1
  congr 1
  funext k
  rw [placeLit_same]
theorem countW_le (W : List GKept) (s : List UInt8) : countW W s ≤ W.length := List.length_filter_le _ _
/-- The shelf in memory. -/
def ShR (w : World) (bs ba bi : Nat) (W : List GKept) (last B : Nat) : Prop :=
  Var w bs [.map (some ba), .map (some bi), .int .i64 (last : Int)] ∧ MapF Try.prog 62 w ba (allF W) W.length ∧ (∃ n, n ≤ B ∧ MapF Try.prog 9 w bi (sitesF W) n) ∧ bs ≠ ba ∧ bs ≠ bi ∧ ba ≠ bi
theorem ShR.below {w w' : World} {bs ba bi : Nat} {W : List GKept} {last B : Nat} (h : ShR w bs ba bi W last B) (hb : Below w.heap.size w w') : ShR w' bs ba bi W last B := by
  obtain ⟨h1, h2, ⟨n, h3, h4⟩, h5⟩ := h
  exact ⟨h1.below hb, h2.old (hb.block _ h2.lt), ⟨n, h3, h4.old (hb.block _ h4.lt)⟩, h5⟩
theorem zeroKept (w : World) : (zeroValue 59).run Try.prog w = .ok (.agg (keptV zeroKt)) w := by kernel_rfl
theorem zeroInt (w : World) : (zeroValue 3).run Try.prog w = .ok (.int .i64 0) w := by kernel_rfl
/-- What stands at a cookie's place. -/
theorem ShR.look {w : World} {bs ba bi : Nat} {W : List GKept} {last B : Nat} (h : ShR w bs ba bi W last B) (c : GCookie) :
    (Instr.lookup 54 (.map (some ba)) (.agg (placeV c)) true).run Try.prog w = .ok (.tuple #[.agg (keptV ((findW W c).getD zeroKt)), .bool (findW W c).isSome]) w := by
  have := (h.2.1.look placeLaw allTy (zeroKept w) (placeKey c)).1
  rw [allF_at] at this
  rw [this]
  cases findW W c <;> rfl
theorem ShR.count {w : World} {bs ba bi : Nat} {W : List GKept} {last B : Nat} (h : ShR w bs ba bi W last B) (s : List UInt8) (hs : s.length ≤ maxLen) :
    (Instr.lookup 55 (.map (some bi)) (.string ⟨s.toArray⟩) false).run Try.prog w = .ok (.int .i64 (countW W s : Nat)) w := by
  obtain ⟨n, _, h4⟩ := h.2.2.1
  have hk : keyOf Try.prog 9 (.string ⟨s.toArray⟩) = some (.string s) := Go.WideMaps.keyOf_string_mk Try.underlying9 (by simpa [ByteArray.size] using hs)
  have := (h4.look siteLaw sitesTy (zeroInt w) hk).2
  rw [this]
  by_cases h0 : 0 < countW W s
  · simp [sitesF, h0]
  · have h1 : countW W s = 0 := by omega
    simp [sitesF, h1]
/-! ### what a map's block holds, as the walk asks it -/
noncomputable def mapB (w : World) (b : Nat) (es : Array MapEntry) (k : Nat) : Bool := @decide (w.heap[b]? = some (.map es k)) (Classical.propDecidable _)
theorem mapB_iff {w : World} {b : Nat} {es : Array MapEntry} {k : Nat} : mapB w b es k = true ↔ w.heap[b]? = some (.map es k) := by
  unfold mapB
  exact @decide_eq_true_iff _ (Classical.propDecidable _)
theorem mapB_congr {w w' : World} {b : Nat} {es : Array MapEntry} {k : Nat} (h : w'.heap[b]? = w.heap[b]?) : mapB w' b es k = mapB w b es k := by
  rw [Bool.eq_iff_iff, mapB_iff, mapB_iff, h]
@[go_sem] theorem mapB_past (w : World) (ob : Obj) (b : Nat) (es : Array MapEntry) (k : Nat) (hb : isOld b w = true) : mapB (w.alloc ob) b es k = mapB w b es k := mapB_congr (((Below.refl w.heap.size w).alloc (Nat.le_refl _) ob).block b (isOld_iff.1 hb))
@[go_sem] theorem mapB_drew (w : World) (b : Nat) (es : Array MapEntry) (k : Nat) : mapB w.drew b es k = mapB w b es k := rfl
@[go_sem] theorem mapB_drewN (w : World) (j b : Nat) (es : Array MapEntry) (k : Nat) : mapB (w.drewN j) b es k = mapB w b es k := mapB_congr (by simp)
@[go_sem] theorem mapB_grown (w : World) (p : Regrown) (b : Nat) (es : Array MapEntry) (k : Nat) (hb : isOld b w = true) : mapB (grown w p) b es k = mapB w b es k := mapB_congr ((below_grown' w p).block b (isOld_iff.1 hb))
@[go_sem] theorem mapB_setRow (w : World) (g : Nat) (cs : Array Value) (b : Nat) (es : Array MapEntry) (k : Nat) : mapB (w.setRow g cs) b es k = mapB w b es k := by
  rw [Bool.eq_iff_iff, mapB_iff, mapB_iff]
  by_cases h : b = g
  · subst h
    simp only [World.setRow, Array.getElem?_modify, if_true]
    cases hh : w.heap[b]? with
    | none => simp
    | some o => cases o <;> simp
  · rw [setRow_other w g b cs h]
@[go_sem] theorem mapB_setCell (w : World) (a : Addr) (v : Value) (b : Nat) (es : Array MapEntry) (k : Nat) : mapB (w.setCell a v) b es k = mapB w b es k := by
  rw [Bool.eq_iff_iff, mapB_iff, mapB_iff]
  by_cases h : b = a.block
  · subst h
    simp only [World.setCell, Array.getElem?_modify, if_true]
    cases hh : w.heap[a.block]? with
    | none => simp
    | some o => cases o <;> simp
  · rw [setCell_other' w a v b h]
theorem MapF.block {P : Program} {K : TypeId} {w : World} {b n : Nat} {f : Lit → Option Value} (h : MapF P K w b f n) : ∃ es k, mapB w b es k = true ∧ ∀ W', mapB W' b es k = true → MapF P K W' b f n := by
  have h2 := h
  obtain ⟨D, ⟨es, clock, hb, r⟩, _⟩ := h
  exact ⟨es, clock, mapB_iff.2 hb, fun W' h' => h2.old ((mapB_iff.1 h').trans hb.symm)⟩
theorem ShR.looks {w : World} {bs ba bi : Nat} {W : List GKept} {last B : Nat} (h : ShR w bs ba bi W last B) : ∃ es k, mapB w ba es k = true ∧ ∀ c W', mapB W' ba es k = true →
    (Instr.lookup 54 (.map (some ba)) (.agg (placeV c)) true).run Try.prog W' = .ok (.tuple #[.agg (keptV ((findW W c).getD zeroKt)), .bool (findW W c).isSome]) W' := by
  obtain ⟨es, k, h1, h2⟩ := h.2.1.block
  refine ⟨es, k, h1, fun c W' h' => ?_⟩
  have := ((h2 W' h').look placeLaw allTy (zeroKept W') (placeKey c)).1
  rw [allF_at] at this
  rw [this]
  cases findW W c <;> rfl
end Go.Proofs.Ytaondmaebgicgaa
