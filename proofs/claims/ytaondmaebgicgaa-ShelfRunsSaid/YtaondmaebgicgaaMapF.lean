/- Maps in memory as functions: from keys' data to values. No program in sight. -/
import Derived.Maps.RangeWalk
import Derived.Maps.OwnSet
namespace Go.Proofs.Ytaondmaebgicgaa
open Go Go.RowKit
open Go.Maps (Keyed)
set_option linter.unusedSimpArgs false
set_option linter.unusedVariables false

def RH (v : Value) : Option (DataW Value × List MemPlace) := some (.held v, [])
def valAt (D : DataW Value) (kl : Lit) : Value := match D.atKey kl .nil with
  | .held v => v
  | _ => undef
def funOf (D : DataW Value) (kl : Lit) : Option Value := if Maps.has D kl = true then some (valAt D kl) else none
/-- Block b is a map of n entries that is this function. -/
def MapF (P : Program) (K : TypeId) (w : World) (b : Nat) (f : Lit → Option Value) (n : Nat) : Prop := ∃ D : DataW Value, w.ownsMap P K RH b n D ∧ Maps.size D = n ∧ f = funOf D
theorem atKey_any {D : DataW Value} {kl : Lit} (h : Maps.has D kl = true) (z z' : DataW Value) : D.atKey kl z = D.atKey kl z' := by
  cases D with
  | map es =>
    rw [Maps.has_eq] at h
    have : (es.find? fun p => p.1.sameKey kl).isSome = true := by
      rw [List.find?_isSome]
      obtain ⟨p, hp, hk⟩ := List.any_eq_true.1 h
      exact ⟨p, hp, hk⟩
    obtain ⟨p, hp⟩ := Option.isSome_iff_exists.1 this
    simp [DataW.atKey, hp]
  | _ => cases h
variable {P : Program} {K : TypeId} {w : World} {b n : Nat} {f : Lit → Option Value}
theorem owns_tight {D : DataW Value} (h : w.ownsMap P K RH b n D) : w.ownsMap P K RH b (Maps.size D) D := by
  obtain ⟨es, clock, hb, F, _, hD⟩ := h
  refine ⟨es, clock, hb, F, ?_, hD⟩
  have : Maps.size D = es.size := by rw [hD]; simp [Maps.size, length_sorted]
  rw [this]; exact Nat.le_refl _
theorem MapF.made (w : World) : MapF P K (w.alloc (.map #[] 0)) w.heap.size (fun _ => none) 0 :=
  ⟨.map [], World.ownsMap_made w P K RH, rfl, by funext kl; rfl⟩
theorem MapF.old {w' : World} (h : MapF P K w b f n) (he : w'.heap[b]? = w.heap[b]?) : MapF P K w' b f n := by
  obtain ⟨D, ⟨es, clock, hb, r⟩, h2⟩ := h
  exact ⟨D, ⟨es, clock, he.trans hb, r⟩, h2⟩
theorem MapF.lt (h : MapF P K w b f n) : b < w.heap.size := by
  obtain ⟨D, h1, _⟩ := h
  exact h1.lt
theorem MapF.look {t e : TypeId} {z key : Value} {kl : Lit} (h : MapF P K w b f n) (Kd : Keyed P K) (ht : P.underlying t = some (.map K e)) (hz : (zeroValue e).run P w = .ok z w) (hkey : keyOf P K key = some kl) :
    (Instr.lookup t (.map (some b)) key true).run P w = .ok (.tuple #[(f kl).getD z, .bool (f kl).isSome]) w ∧ (Instr.lookup t (.map (some b)) key false).run P w = .ok ((f kl).getD z) w := by
  obtain ⟨D, h1, h2, rfl⟩ := h
  obtain ⟨v, ps, hrun, hv⟩ := h1.look_ok Kd ht hz (zd := .held z) (zp := []) rfl hkey
  obtain ⟨v', ps', hrun', hv'⟩ := h1.lookup Kd ht hz (zd := .held z) (zp := []) rfl hkey
  have e1 : D.atKey kl (.held z) = .held v := by simp [RH] at hv; exact hv.1.symm
  have e2 : D.atKey kl (.held z) = .held v' := by simp [RH] at hv'; exact hv'.1.symm
  have e3 : v' = v := by rw [e1] at e2; simpa using e2.symm
  subst e3
  have key2 : (funOf D kl).getD z = v' ∧ (funOf D kl).isSome = Maps.has D kl := by
    unfold funOf
    cases hh : Maps.has D kl
    · rw [if_neg (by simp)]
      have := Maps.atKey_of_not_has hh (.held z)
      rw [e1] at this
      exact ⟨by simpa using this.symm, rfl⟩
    · rw [if_pos rfl]
      refine ⟨?_, rfl⟩
      show valAt D kl = v'
      unfold valAt
      rw [atKey_any hh .nil (.held z), e1]
  rw [key2.1, key2.2]
  exact ⟨hrun, hrun'⟩
theorem held_of {D : DataW Value} {t e : TypeId} {z key : Value} {kl : Lit} (h : w.ownsMap P K RH b n D) (Kd : Keyed P K) (hh : Maps.has D kl = true) {d : DataW Value} (hd : ∀ zd, D.atKey kl zd = d) {v : Value} (hv : d = .held v) : funOf D kl = some v := by
  unfold funOf
  rw [if_pos hh]
  unfold valAt
  rw [hd, hv]
theorem MapF.put {t e : TypeId} {key : Value} {kl : Lit} (h : MapF P K w b f n) (Kd : Keyed P K) (ht : P.underlying t = some (.map K e)) (hkey : keyOf P K key = some kl) (hn : n < maxLen) (v : Value) :
    ∃ w', (Instr.mapUpdate t (.map (some b)) key v).run P w = .ok () w' ∧ MapF P K w' b (fun k => if k.sameKey kl = true then some v else f k) (if (f kl).isSome = true then n else n + 1) ∧ w.grownBy w' (some b) := by
  obtain ⟨D, h1, h2, rfl⟩ := h
  obtain ⟨w', hrun, hown, hg⟩ := h1.update Kd ht hn hkey (val := v) (d := .held v) (ps := []) rfl
  have hT := h1.tidy Kd
  have hkl := Kd.key hkey
  have hs := Maps.size_put (k := kl) hT (DataW.held v)
  have hs2 : Maps.size (D.put kl (.held v)) = if (funOf D kl).isSome = true then n else n + 1 := by
    rw [hs, h2]
    unfold funOf
    cases hh : Maps.has D kl <;> simp
  refine ⟨w', hrun, ⟨_, ?_, hs2, ?_⟩, hg⟩
  · rw [← hs2]; exact owns_tight hown
  · funext k
    by_cases hk : k = kl
    · subst hk
      rw [if_pos (Go.WideAt.sameKey_self hkl)]
      unfold funOf
      rw [if_pos (Maps.has_put_same hT.isMap hkl _)]
      unfold valAt
      rw [Maps.atKey_put_same hT.isMap hkl]
    · rw [if_neg (by rw [Maps.sameKey_ne hk]; decide)]
      unfold funOf valAt
      rw [Maps.has_put_other hk, Maps.atKey_put_other hk]
theorem MapF.del {t e ty : TypeId} {key : Value} {kl : Lit} (h : MapF P K w b f n) (Kd : Keyed P K) (ht : P.underlying t = some (.map K e)) (hkey : keyOf P K key = some kl) :
    ∃ w', (Builtin.delete_ #[t, K] ty #[.map (some b), key]).run P w = .ok (.tuple #[]) w' ∧ MapF P K w' b (fun k => if k.sameKey kl = true then none else f k) (if (f kl).isSome = true then n - 1 else n) ∧ w.grownBy w' (some b) := by
  obtain ⟨D, h1, h2, rfl⟩ := h
  obtain ⟨w', hrun, hown, hg⟩ := h1.drop Kd ht hkey ty
  have hT := h1.tidy Kd
  have hkl := Kd.key hkey
  have hs := Maps.size_del (k := kl) hT
  have hs2 : Maps.size (D.del kl) = if (funOf D kl).isSome = true then n - 1 else n := by
    unfold funOf
    cases hh : Maps.has D kl
    · rw [hh] at hs; simp at hs; simp; omega
    · rw [hh] at hs; simp at hs; simp; omega
  refine ⟨w', hrun, ⟨_, ?_, hs2, ?_⟩, hg.grown⟩
  · rw [← hs2]; exact owns_tight hown
  · funext k
    by_cases hk : k = kl
    · subst hk
      rw [if_pos (Go.WideAt.sameKey_self hkl)]
      unfold funOf
      rw [if_neg (by rw [Maps.has_del_same]; decide)]
    · rw [if_neg (by rw [Maps.sameKey_ne hk]; decide)]
      unfold funOf valAt
      rw [Maps.has_del_other hk, Maps.atKey_del_other hk]
theorem MapF.len {t e ty : TypeId} (h : MapF P K w b f n) (ht : P.underlying t = some (.map K e)) : (Builtin.len_ #[t] ty #[.map (some b)]).run P w = .ok (.int .i64 (n : Int)) w := by
  obtain ⟨D, h1, h2, rfl⟩ := h
  have := h1.len ht ty
  rw [h2] at this
  exact this
/-! ### ranging over it -/
def RangeF (P : Program) (K : TypeId) (w : World) (b r : Nat) (f : Lit → Option Value) (n : Nat) (left : Lit → Bool) (cnt : Nat) : Prop := ∃ D : DataW Value, w.ranges P K RH b r n D left cnt ∧ Maps.size D = n ∧ f = funOf D
theorem RangeF.map {r : Nat} {left : Lit → Bool} {cnt : Nat} (h : RangeF P K w b r f n left cnt) : MapF P K w b f n := by
  obtain ⟨D, h1, h2, h3⟩ := h
  exact ⟨D, h1.owns, h2, h3⟩
theorem RangeF.kept {w' : World} {r : Nat} {left : Lit → Bool} {cnt : Nat} {row : Option Nat} (h : RangeF P K w b r f n left cnt) (hg : w.grownBy w' row) (hb : some b ≠ row) (hr : some r ≠ row) : RangeF P K w' b r f n left cnt := by
  obtain ⟨D, h1, h2, h3⟩ := h
  exact ⟨D, h1.kept hg hb hr, h2, h3⟩
theorem RangeF.left_eq {r : Nat} {left : Lit → Bool} {cnt : Nat} (h : RangeF P K w b r f n left cnt) : w.rangeLeft b r = cnt := by
  obtain ⟨D, h1, _⟩ := h
  exact h1.left_eq
theorem RangeF.ne {r : Nat} {left : Lit → Bool} {cnt : Nat} (h : RangeF P K w b r f n left cnt) : r ≠ b ∧ r < w.heap.size := by
  obtain ⟨D, h1, _⟩ := h
  exact ⟨h1.ne, h1.lt⟩
theorem MapF.range {t e : TypeId} (h : MapF P K w b f n) (Kd : Keyed P K) (ht : P.underlying t = some (.map K e)) :
    ∃ w', (Instr.range t (.map (some b))).run P w = .ok (.pointer (some ⟨w.heap.size, 0, none⟩)) w' ∧ RangeF P K w' b w.heap.size f n (fun kl => (f kl).isSome) n ∧ w.grownBy w' none ∧ w'.heap.size = w.heap.size + 1 := by
  obtain ⟨D, h1, h2, rfl⟩ := h
  obtain ⟨w', hrun, hr, hg, hs⟩ := h1.range Kd ht
  have e : Maps.has D = fun kl => (funOf D kl).isSome := by
    funext kl
    unfold funOf
    cases hh : Maps.has D kl <;> rfl
  rw [e, h2] at hr
  exact ⟨w', hrun, ⟨D, hr, h2, rfl⟩, hg, hs⟩
theorem RangeF.next {r cnt : Nat} {left : Lit → Bool} (h : RangeF P K w b r f n left cnt) (Kd : Keyed P K) (ty : TypeId) (hl : ∀ kl, left kl = true → (f kl).isSome = true) :
    (cnt = 0 ∧ (∀ kl, left kl = false) ∧ (Instr.next (.pointer (some ⟨r, 0, none⟩)) false ty).run P w = .ok (.tuple #[.bool false]) w) ∨
    ∃ key v kl w' cnt', keyOf P K key = some kl ∧ left kl = true ∧ f kl = some v ∧ (Instr.next (.pointer (some ⟨r, 0, none⟩)) false ty).run P w = .ok (.tuple #[.bool true, key, v]) w' ∧
      RangeF P K w' b r f n (fun x => left x && !x.sameKey kl) cnt' ∧ cnt' < cnt ∧ w.grownBy w' (some r) ∧ w'.heap.size = w.heap.size ∧ (Instr.entry (.pointer (some ⟨r, 0, none⟩))).run P w' = .ok (.tuple #[key, v]) w' := by
  obtain ⟨D, h1, h2, rfl⟩ := h
  rcases h1.next Kd ty with h3 | ⟨key, v, kl, y, w', cnt', a1, a2, a3, a4, a5, a6, a7, a8, a9, a10⟩
  · exact .inl h3
  · right
    have hy : y.1 = .held v := by simp [RH] at a3; rw [← a3]
    have hh : Maps.has D kl = true := by
      have := hl kl a2
      unfold funOf at this
      cases hh : Maps.has D kl
      · rw [hh] at this; simp at this
      · rfl
    refine ⟨key, v, kl, w', cnt', a1, a2, ?_, a5, ⟨D, a6, h2, rfl⟩, a7, a8, a9, a10⟩
    unfold funOf
    rw [if_pos hh]
    unfold valAt
    rw [a4, hy]
end Go.Proofs.Ytaondmaebgicgaa
