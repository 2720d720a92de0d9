/- Lists that a call gathers for itself, of any element type: how they lie in memory, appending to them, reading them. -/
import Derived.Test.YtaondmaebgicgaaProg
import Derived.Test.YtaondmaebgicgaaAgg
import Derived.Deep.RegionLaw
import Derived.KernelRfl
namespace Go.Proofs.Ytaondmaebgicgaa
open Go Go.RowKit
set_option linter.unusedSimpArgs false
set_option linter.unusedVariables false

/-- How the values of an element type lie in cells, and the slice type over it. -/
structure Cod (α : Type) where
  E : TypeId
  S : TypeId
  sz : Nat
  bys : Nat
  z : Value
  enc : α → List Value
  und : Try.prog.underlying S = some (.slice E)
  info : (Try.prog.info? E).map (fun i => (i.zero, i.size, i.bytes)) = some (some z, sz, bys)
  zsz : z.cells.size = sz
  pos : 0 < sz
  len : ∀ x, (enc x).length = sz
  one : ∀ x, ∀ v ∈ enc x, v.oneCell' = true

section
variable {α : Type} (c : Cod α)
def Cod.encs (xs : List α) : List Value := xs.flatMap c.enc
theorem Cod.encs_length (xs : List α) : (c.encs xs).length = xs.length * c.sz := by
  induction xs with
  | nil => simp [Cod.encs]
  | cons x xs ih =>
    have : c.encs (x :: xs) = c.enc x ++ c.encs xs := by simp [Cod.encs]
    rw [this, List.length_append, c.len, ih, List.length_cons, Nat.succ_mul, Nat.add_comm]
theorem Cod.encs_append (xs ys : List α) : c.encs (xs ++ ys) = c.encs xs ++ c.encs ys := by simp [Cod.encs]
theorem Cod.encs_one (xs : List α) : ∀ v ∈ c.encs xs, v.oneCell' = true := by
  intro v hv
  simp only [Cod.encs, List.mem_flatMap] at hv
  obtain ⟨x, _, hx⟩ := hv
  exact c.one x v hx
theorem Cod.encs_get (xs : List α) (i : Nat) (h : i < xs.length) (j : Nat) (hj : j < c.sz) : (c.encs xs)[i * c.sz + j]? = (c.enc (xs[i]'h))[j]? := by
  induction xs generalizing i with
  | nil => simp at h
  | cons x xs ih =>
    have e : c.encs (x :: xs) = c.enc x ++ c.encs xs := by simp [Cod.encs]
    rw [e]
    cases i with
    | zero => rw [Nat.zero_mul, Nat.zero_add, List.getElem?_append_left (by rw [c.len]; exact hj)]; rfl
    | succ i =>
      rw [List.getElem?_append_right (by rw [c.len, Nat.succ_mul]; omega), c.len, show (i + 1) * c.sz + j - c.sz = i * c.sz + j by rw [Nat.succ_mul]; omega, ih i (by simpa using h)]
      rfl
/-- From an address on lie these values. -/
def ListAt (w : World) (b o : Nat) (xs : List α) : Prop := ∀ j u, (c.encs xs)[j]? = some u → w.cell? ⟨b, o + j, none⟩ = some u
/-- A slice value stands for these values, in memory from a block on. -/
def ListIn (w : World) (a : Option Addr) (xs : List α) (lo : Nat) : Prop :=
  xs = [] ∨ ∃ b o, a = some ⟨b, o, none⟩ ∧ lo ≤ b ∧ b < w.heap.size ∧ ListAt c w b o xs
/-- A call hands back a slice of these values, in memory of its own. -/
def Gives (xs : List α) (w : World) (e : Ending) (w' : World) : Prop :=
  ∃ a cap, e = .returned (.slice a xs.length cap) ∧ xs.length ≤ cap ∧ Below w.heap.size w w' ∧ ListIn c w' a xs w.heap.size
/-- .. and a bool. -/
def Gives2 (xs : List α) (ok : Bool) (w : World) (e : Ending) (w' : World) : Prop :=
  ∃ a cap, e = .returned (.tuple #[.slice a xs.length cap, .bool ok]) ∧ xs.length ≤ cap ∧ Below w.heap.size w w' ∧ ListIn c w' a xs w.heap.size
variable {c}
theorem ListAt.below {w w' : World} {b o : Nat} {xs : List α} (h : ListAt c w b o xs) (hb : Below w.heap.size w w') : ListAt c w' b o xs := fun j u hj => by
  have := h j u hj
  rw [hb.cell (p := ⟨b, o + j, none⟩) (block_lt_of_cell this)]
  exact this
theorem ListAt.get {w : World} {b o : Nat} {xs : List α} (h : ListAt c w b o xs) (i : Nat) (hi : i < xs.length) (j : Nat) (u : Value) (hj : (c.enc (xs[i]'hi))[j]? = some u) : w.cell? ⟨b, o + (i * c.sz + j), none⟩ = some u := by
  have hl : j < c.sz := by
    have := (List.getElem?_eq_some_iff.1 hj).1
    rwa [c.len] at this
  exact h _ u (by rw [c.encs_get xs i hi j hl]; exact hj)
theorem ListAt.drop {w : World} {b o : Nat} {xs : List α} (h : ListAt c w b o xs) (k : Nat) (hk : k ≤ xs.length) : ListAt c w b (o + k * c.sz) (xs.drop k) := fun j u hj => by
  have e : c.encs xs = c.encs (xs.take k) ++ c.encs (xs.drop k) := by rw [← c.encs_append, List.take_append_drop]
  have := h (k * c.sz + j) u (by
    have hl : (c.encs (xs.take k)).length = k * c.sz := by rw [c.encs_length, List.length_take, Nat.min_eq_left hk]
    rw [e, List.getElem?_append_right (by omega), hl, Nat.add_sub_cancel_left]
    exact hj)
  rw [show o + k * c.sz + j = o + (k * c.sz + j) by omega]
  exact this
theorem ListAt.take {w : World} {b o : Nat} {xs : List α} (h : ListAt c w b o xs) (k : Nat) : ListAt c w b o (xs.take k) := fun j u hj => by
  refine h j u ?_
  have e : c.encs xs = c.encs (xs.take k) ++ c.encs (xs.drop k) := by rw [← c.encs_append, List.take_append_drop]
  rw [e, List.getElem?_append_left (List.getElem?_eq_some_iff.1 hj).1]
  exact hj
theorem ListIn.below {w w' : World} {a : Option Addr} {xs : List α} {lo : Nat} (h : ListIn c w a xs lo) (hb : Below w.heap.size w w') : ListIn c w' a xs lo := by
  rcases h with h | ⟨b, o, h1, h2, h3, h4⟩
  · exact .inl h
  · exact .inr ⟨b, o, h1, h2, Nat.lt_of_lt_of_le h3 hb.size, h4.below hb⟩
theorem ListIn.grown {w : World} {a : Option Addr} {xs : List α} {lo : Nat} (h : ListIn c w a xs lo) (p : Regrown) : ListIn c (grown w p) a xs lo := h.below (below_grown' w p)
theorem ListIn.mono {w : World} {a : Option Addr} {xs : List α} {lo lo' : Nat} (h : ListIn c w a xs lo) (hl : lo' ≤ lo) : ListIn c w a xs lo' := by
  rcases h with h | ⟨b, o, h1, h2, h3, h4⟩
  · exact .inl h
  · exact .inr ⟨b, o, h1, Nat.le_trans hl h2, h3, h4⟩
theorem Gives.of_below {xs : List α} {w wr w' : World} {e : Ending} (hb : Below w.heap.size w wr) (h : Gives c xs wr e w') : Gives c xs w e w' := by
  obtain ⟨a, cap, he, hc, hb2, hs⟩ := h
  exact ⟨a, cap, he, hc, hb.trans (hb2.mono hb.size), hs.mono hb.size⟩
theorem Gives2.of_below {xs : List α} {ok : Bool} {w wr w' : World} {e : Ending} (hb : Below w.heap.size w wr) (h : Gives2 c xs ok wr e w') : Gives2 c xs ok w e w' := by
  obtain ⟨a, cap, he, hc, hb2, hs⟩ := h
  exact ⟨a, cap, he, hc, hb.trans (hb2.mono hb.size), hs.mono hb.size⟩
/-- A world in which at most blocks of a kind, and new ones, are others. -/
structure Keeps (Q : Nat → Prop) (w w' : World) : Prop where
  os : w'.os = w.os
  tape : w'.tape = w.tape
  output : w'.output = w.output
  size : w.heap.size ≤ w'.heap.size
  block : ∀ k, k < w.heap.size → ¬ Q k → w'.heap[k]? = w.heap[k]?
theorem Keeps.refl (Q : Nat → Prop) (w : World) : Keeps Q w w := ⟨rfl, rfl, rfl, Nat.le_refl _, fun _ _ _ => rfl⟩
theorem Keeps.trans {Q : Nat → Prop} {w w1 w2 : World} (h : Keeps Q w w1) (h' : Keeps Q w1 w2) : Keeps Q w w2 :=
  ⟨h'.os.trans h.os, h'.tape.trans h.tape, h'.output.trans h.output, Nat.le_trans h.size h'.size, fun k hk hq => (h'.block k (Nat.lt_of_lt_of_le hk h.size) hq).trans (h.block k hk hq)⟩
theorem Keeps.of_below {Q : Nat → Prop} {w w' : World} (h : Below w.heap.size w w') : Keeps Q w w' :=
  ⟨h.os, h.tape, h.output, h.size, fun k hk _ => h.block k hk⟩
theorem Keeps.below {Q : Nat → Prop} {w w' : World} (h : Keeps Q w w') {B : Nat} (hB : ∀ k, k < B → k < w.heap.size ∧ ¬ Q k) : Below B w w' :=
  ⟨h.os, h.tape, h.output, h.size, fun k hk => h.block k (hB k hk).1 (hB k hk).2⟩
/-- The blocks from one on. -/
def From (B : Nat) : Nat → Prop := fun k => B ≤ k
/-- One block, and those from one on. -/
def Also (g B : Nat) : Nat → Prop := fun k => k = g ∨ B ≤ k
theorem Keeps.below_from {B : Nat} {w w' : World} (h : Keeps (From B) w w') (hB : B ≤ w.heap.size) : Below B w w' :=
  h.below fun k hk => ⟨Nat.lt_of_lt_of_le hk hB, Nat.not_le.2 hk⟩
theorem Keeps.below_also {g B : Nat} {w w' : World} (h : Keeps (Also g B) w w') (hg : g ≤ B) (hB : B ≤ w.heap.size) : Below g w w' :=
  h.below fun k hk => ⟨by omega, fun h => by rcases h with h | h <;> omega⟩
theorem Keeps.alloc {Q : Nat → Prop} {w w' : World} (h : Keeps Q w w') (o : Obj) : Keeps Q w (w'.alloc o) := h.trans (.of_below ((Below.refl _ _).alloc (Nat.le_refl _) o))
theorem Keeps.drew {Q : Nat → Prop} {w w' : World} (h : Keeps Q w w') : Keeps Q w w'.drew := h.trans (.of_below ⟨rfl, rfl, rfl, Nat.le_refl _, fun _ _ => rfl⟩)
theorem Keeps.grown {Q : Nat → Prop} {w w' : World} (h : Keeps Q w w') (p : Regrown) : Keeps Q w (grown w' p) := h.trans (.of_below (below_grown' w' p))
theorem Keeps.bel {Q : Nat → Prop} {w w' w2 : World} (h : Keeps Q w w') (hb : Below w'.heap.size w' w2) : Keeps Q w w2 := h.trans (.of_below hb)
theorem ListAt.keeps {Q : Nat → Prop} {w w' : World} {b o : Nat} {xs : List α} (h : ListAt c w b o xs) (hk : Keeps Q w w') (hb : b < w.heap.size) (hq : ¬ Q b) : ListAt c w' b o xs := fun j u hj => by
  have := h j u hj
  rw [World.cell?_of_block (a := ⟨b, o + j, none⟩) (hk.block b hb hq)]
  exact this
theorem ListIn.keeps {Q : Nat → Prop} {w w' : World} {a : Option Addr} {xs : List α} {lo : Nat} (h : ListIn c w a xs lo) (hk : Keeps Q w w') (hq : ∀ k, lo ≤ k → k < w.heap.size → ¬ Q k) : ListIn c w' a xs lo := by
  rcases h with h | ⟨b, o, h1, h2, h3, h4⟩
  · exact .inl h
  · exact .inr ⟨b, o, h1, h2, Nat.lt_of_lt_of_le h3 hk.size, h4.keeps hk h3 (hq b h2 h3)⟩
variable (c)
/-- A slice of one's own, in a block of a kind, holds these values. -/
def Own (Q : Nat → Prop) (w : World) (v : Value) (xs : List α) : Prop := w.ownsRow 0 c.E c.sz v xs.length (c.encs xs) ∧ ∀ g, v.ownBlock = some g → Q g
variable {c}
theorem Own.nil (Q : Nat → Prop) (w : World) : Own c Q w (.slice none 0 0) [] := ⟨World.ownsRow_nil w 0 _ _, fun g h => by cases h⟩
theorem Own.made0 {Q : Nat → Prop} {w : World} (h : Q w.heap.size) {t : TypeId} (ht : t = c.E) : Own c Q (w.alloc (.cells #[] t)) (.slice (some ⟨w.heap.size, 0, none⟩) 0 0) [] := by
  subst ht
  exact ⟨World.ownsRow_made w #[] 0 (Nat.zero_le _) (Nat.zero_le _) (by simp), fun g hg => by cases hg; exact h⟩
theorem Own.sub {Q Q' : Nat → Prop} {w : World} {v : Value} {xs : List α} (h : Own c Q w v xs) (hq : ∀ k, Q k → Q' k) : Own c Q' w v xs := ⟨h.1, fun g hg => hq g (h.2 g hg)⟩
theorem Own.blocks {Q : Nat → Prop} {w w' : World} {v : Value} {xs : List α} (h : Own c Q w v xs) (hb : ∀ g, v.ownBlock = some g → g < w.heap.size → w'.heap[g]? = w.heap[g]?) : Own c Q w' v xs := by
  obtain ⟨⟨h1, h2⟩, hq⟩ := h
  refine ⟨⟨h1, ?_⟩, hq⟩
  rcases h2 with h2 | ⟨g, cap, cur, hv, hg, hh, r⟩
  · exact .inl h2
  · refine .inr ⟨g, cap, cur, hv, hg, ?_, r⟩
    rw [hb g (by rw [hv]; rfl) ?_]; exact hh
    rcases Nat.lt_or_ge g w.heap.size with h' | h'
    · exact h'
    · rw [Array.getElem?_eq_none h'] at hh; cases hh
theorem Own.below {Q : Nat → Prop} {w w' : World} {v : Value} {xs : List α} (h : Own c Q w v xs) (hb : Below w.heap.size w w') : Own c Q w' v xs := h.blocks fun g _ hg => hb.block g hg
theorem Own.keeps {Q Q' : Nat → Prop} {w w' : World} {v : Value} {xs : List α} (h : Own c Q w v xs) (hb : Keeps Q' w w') (hd : ∀ g, Q g → g < w.heap.size → ¬ Q' g) : Own c Q w' v xs := h.blocks fun g hv hg => hb.block g hg (hd g (h.2 g hv) hg)
theorem Own.alloc {Q : Nat → Prop} {w : World} {v : Value} {xs : List α} (h : Own c Q w v xs) (o : Obj) : Own c Q (w.alloc o) v xs := h.below ((Below.refl _ _).alloc (Nat.le_refl _) o)
theorem Own.drew {Q : Nat → Prop} {w : World} {v : Value} {xs : List α} (h : Own c Q w v xs) : Own c Q w.drew v xs := h
theorem Own.grown {Q : Nat → Prop} {w : World} {v : Value} {xs : List α} (h : Own c Q w v xs) (p : Regrown) : Own c Q (grown w p) v xs := h.below (below_grown' w p)
theorem Own.form {Q : Nat → Prop} {w : World} {v : Value} {xs : List α} (h : Own c Q w v xs) : (v = .slice none 0 0 ∧ xs = []) ∨ ∃ g cap, v = .slice (some ⟨g, 0, none⟩) xs.length cap ∧ xs.length ≤ cap ∧ Q g ∧ g < w.heap.size ∧ ListAt c w g 0 xs ∧ ∀ j, w.frozen? ⟨g, j, none⟩ = false := by
  obtain ⟨⟨h1, ⟨hv, h0⟩ | ⟨g, cap, cur, hv, hg, hh, hnc, _, hcur, hx⟩⟩, hq⟩ := h
  · exact .inl ⟨hv, List.length_eq_zero_iff.1 h0⟩
  · refine .inr ⟨g, cap, hv, hnc, hq g (by rw [hv]; rfl), ?_, fun j u hj => ?_, fun j => ?_⟩
    · rcases Nat.lt_or_ge g w.heap.size with h' | h'
      · exact h'
      · rw [Array.getElem?_eq_none h'] at hh; cases hh
    · rw [← hx] at hj
      rw [List.getElem?_take] at hj
      split at hj
      · simp only [World.cell?, hh, Nat.zero_add]
        rw [← Array.getElem?_toList]
        exact hj
      · cases hj
    · simp [World.frozen?, hh]
/-- What a slice of one's own is good for. -/
theorem Own.slice {Q : Nat → Prop} {w : World} {v : Value} {xs : List α} (h : Own c Q w v xs) {B : Nat} (hB : ∀ k, Q k → B ≤ k) : ∃ a cap, v = .slice a xs.length cap ∧ xs.length ≤ cap ∧ ListIn c w a xs B := by
  rcases h.form with ⟨rfl, rfl⟩ | ⟨g, cap, rfl, hc, h1, h2, h3, _⟩
  · exact ⟨none, 0, rfl, Nat.le_refl _, .inl rfl⟩
  · exact ⟨_, cap, rfl, hc, .inr ⟨g, 0, rfl, hB g h1, h2, h3⟩⟩
theorem Own.gives {Q : Nat → Prop} {w w' : World} {v : Value} {xs : List α} (h : Own c Q w' v xs) (hQ : ∀ k, Q k → w.heap.size ≤ k) (hb : Below w.heap.size w w') : Gives c xs w (.returned v) w' := by
  obtain ⟨a, cap, rfl, hc, hl⟩ := h.slice hQ
  exact ⟨a, cap, rfl, hc, hb, hl⟩
theorem from_le {B k : Nat} (h : From B k) : B ≤ k := h
theorem also_le {g B k : Nat} (hg : g ≤ B) (h : Also g B k) : g ≤ k := by rcases h with h | h <;> omega
theorem listAt_new (w : World) (cs : Array Value) (xs : List α) (t : TypeId) (h : cs.toList = c.encs xs) {b : Nat} (hb : b = w.heap.size) : ListAt c (w.alloc (.cells cs t)) b 0 xs := by
  subst hb
  intro j u hj
  rw [← h, Array.getElem?_toList] at hj
  rw [World.cell?_alloc_at _ _ _ _ rfl, Nat.zero_add]
  exact hj
theorem ListAt.drew {w : World} {b o : Nat} {xs : List α} (h : ListAt c w b o xs) : ListAt c w.drew b o xs := h
/-- Where the slice lies that an append hands back: where the old one lay, or in a new block. -/
theorem append_block {w : World} {t ty e : TypeId} {i : TypeInfo} {z : Value} {size bytes : Nat} (ht : Try.prog.underlying t = some (.slice e)) (hi : Try.prog.info? e = some i) (hz : i.zero = some z)
    (hsize : i.size = size) (hby : i.bytes = bytes) (hsz : 0 < size) {v : Value} {n : Nat} {xs : List Value} (hown : w.ownsRow 0 e size v n xs)
    {a : Addr} {m k : Nat} {news : List Value} (hl : news.length = m * size) (hnews : ∀ j u, news[j]? = some u → w.cell? (a.add j) = some u) (h1 : ∀ u ∈ news, u.oneCell' = true)
    (h63 : n + m ≤ maxLen) (hbytes : (n + m) * bytes ≤ 140737488355328) {v' : Value} {w' : World} (hr : (Builtin.append_ #[t, t] ty #[v, .slice (some a) m k]).run Try.prog w = .ok v' w') : v'.ownBlock = v.ownBlock ∨ v'.ownBlock = some w.heap.size := by
  subst hsize hby
  have hx := hown.1
  unfold maxLen at h63
  rcases hown.2 with ⟨rfl, rfl⟩ | ⟨g, cap, cur, rfl, -, hg, hnc, -, hcs, htake⟩
  · by_cases hm : m = 0
    · subst hm
      obtain rfl : news = [] := List.eq_nil_of_length_eq_zero (by simpa using hl)
      have : (Builtin.append_ #[t, t] ty #[.slice none 0 0, .slice (some a) 0 k]).run Try.prog w = .ok (.slice none 0 0) w := by
        simp [Builtin.append_, run_underlying ht, sizeOf, typeInfo, hi, Builtin.lenOf, Builtin.firstCells, loadCells, loadCellsFrom]
      rw [this] at hr
      cases hr
      exact .inl rfl
    · have := run_append_nil (P := Try.prog) w t ty e i z ht hi hz a m k news hl hnews (by omega) (by omega) (by rw [Nat.zero_add] at hbytes; omega)
      rw [this] at hr
      cases hr
      exact .inr rfl
  · by_cases hroom : n + m ≤ cap
    · have := run_append_room (P := Try.prog) w t ty e i ht hi g n cap cur hg a m k news hl hnews h1 hroom (by rw [hl, hcs, ← Nat.add_mul]; exact Nat.mul_le_mul_right _ hroom)
      rw [this] at hr
      cases hr
      exact .inl rfl
    · have := run_append_grow (P := Try.prog) w t ty e i z ht hi hz ⟨g, 0, none⟩ n cap xs hx (hown.cells (g := g) rfl) a m k news hl hnews (by omega) (by omega) (growslice_fits (by omega) hbytes)
      rw [this] at hr
      cases hr
      exact .inr rfl
theorem wp_append_list {o : Oper} {a : Act} {K : Act → World → Prop} {Z : Exit → Act → World → Prop} (c : Cod α) (s x : Operand) (t : TypeId)
    (ho : o.op = .call { callee := .builtin .append, args := #[s, x], argTypes := #[t, t] }) (ht : t = c.S) (Q : Nat → Prop) (w : World) (v : Value) (xs : List α) (hs : a.eval s = v) (hown : Own c Q w v xs)
    (b off n cap : Nat) (news : List α) (hx : a.eval x = .slice (some ⟨b, off, none⟩) n cap) (hn : n = news.length) (hnew : ListAt c w b off news) (hlen : (xs.length + news.length) * c.bys ≤ 140737488355328) (hl2 : xs.length + news.length ≤ 140737488355328) (hQ : Q w.heap.size)
    (h : ∀ v' w', Own c Q w' v' (xs ++ news) → Keeps Q w w' → K (a.put o.dst v') w') : Oper.wp Try.prog o a w K Z := by
  subst ht
  subst hn
  have hi0 := c.info
  cases hi : Try.prog.info? c.E with
  | none => rw [hi] at hi0; cases hi0
  | some i0 =>
    rw [hi] at hi0
    simp only [Option.map_some, Option.some.injEq, Prod.mk.injEq] at hi0
    obtain ⟨hz, hsz, hby⟩ := hi0
    have hnews : ∀ j u, (c.encs news)[j]? = some u → w.cell? ((⟨b, off, none⟩ : Addr).add j) = some u := fun j u hu => by rw [add_mk]; exact hnew j u hu
    obtain ⟨v', w', hr, h2, h3, _⟩ := run_append_own (P := Try.prog) w 0 c.S o.type c.E i0 c.z c.sz c.bys c.und hi hz hsz hby c.zsz c.pos v xs.length (c.encs xs) hown.1 ⟨b, off, none⟩ news.length cap (c.encs news) (c.encs_length news) hnews (c.encs_one news) (by unfold maxLen; omega) hlen (Nat.zero_le _)
    have hblk := append_block c.und hi hz hsz hby c.pos hown.1 (c.encs_length news) hnews (c.encs_one news) (by unfold maxLen; omega) hlen hr
    unfold Oper.wp execOp
    simp only [ho, resolve, invoke, builtin, Sem.run_bind, Sem.run_pure, Result.andThen_ok, List.map_toArray, List.map_cons, List.map_nil, hs, hx, hr]
    refine h v' w' ⟨?_, fun g hg => ?_⟩ ⟨h3.os, h3.tape, h3.output, h3.size, fun k hk hq => h3.block k hk fun e => hq (hown.2 k e.symm)⟩
    · rw [← c.encs_append] at h2
      show w'.ownsRow 0 c.E c.sz v' (xs ++ news).length (c.encs (xs ++ news))
      rwa [List.length_append]
    · rcases hblk with e | e
      · exact hown.2 g (e ▸ hg)
      · rw [e] at hg; cases hg; exact hQ
theorem step_append_list {ops : Array Oper} {o : Oper} {a : Act} {K : Act → World → Prop} {Z : Exit → Act → World → Prop} {F : Prop} (hgd : o.guard = none) (c : Cod α) (s x : Operand) (t : TypeId)
    (ho : o.op = .call { callee := .builtin .append, args := #[s, x], argTypes := #[t, t] }) (ht : t = c.S) (Q : Nat → Prop) (w : World) (v : Value) (xs : List α) (hs : a.eval s = v) (hown : Own c Q w v xs)
    (b off n cap : Nat) (news : List α) (hx : a.eval x = .slice (some ⟨b, off, none⟩) n cap) (hn : n = news.length) (hnew : ListAt c w b off news) (hlen : (xs.length + news.length) * c.bys ≤ 140737488355328) (hl2 : xs.length + news.length ≤ 140737488355328) (hQ : Q w.heap.size)
    (h : ∀ v' w', Own c Q w' v' (xs ++ news) → Keeps Q w w' → K (a.put o.dst v') w') : if Region.wanted o (yielded ops a.tmps) = true then Oper.wp Try.prog o a w K Z else F := by
  have hw : Region.wanted o (yielded ops a.tmps) = true := by simp [Region.wanted, hgd]
  rw [if_pos hw]
  exact wp_append_list c s x t ho ht Q w v xs hs hown b off n cap news hx hn hnew hlen hl2 hQ h
theorem wpList_append_list {ops : Array Oper} {rest : List Oper} {o : Oper} {a : Act} {Z : Exit → Act → World → Prop} (hgd : o.guard = none) (c : Cod α) (s x : Operand) (t : TypeId)
    (ho : o.op = .call { callee := .builtin .append, args := #[s, x], argTypes := #[t, t] }) (ht : t = c.S) (Q : Nat → Prop) (w : World) (v : Value) (xs : List α) (hs : a.eval s = v) (hown : Own c Q w v xs)
    (b off n cap : Nat) (news : List α) (hx : a.eval x = .slice (some ⟨b, off, none⟩) n cap) (hn : n = news.length) (hnew : ListAt c w b off news) (hlen : (xs.length + news.length) * c.bys ≤ 140737488355328) (hl2 : xs.length + news.length ≤ 140737488355328) (hQ : Q w.heap.size)
    (h : ∀ v' w', Own c Q w' v' (xs ++ news) → Keeps Q w w' → wpList Try.prog ops Z rest (a.put o.dst v') w') : wpList Try.prog ops Z (o :: rest) a w :=
  wpList_plain hgd fun _ hK => wp_append_list c s x t ho ht Q w v xs hs hown b off n cap news hx hn hnew hlen hl2 hQ fun v' w' h1 h2 => hK _ _ (h v' w' h1 h2)
end

/-! ### texts -/
theorem strCod_one : ∀ (x : List UInt8), ∀ v ∈ [Value.string ⟨x.toArray⟩], v.oneCell' = true := by
  intro x v hv
  simp only [List.mem_singleton] at hv
  subst hv; rfl
def strCod : Cod (List UInt8) where
  E := 9
  S := 46
  sz := 1
  bys := 16
  z := .string ByteArray.empty
  enc := fun x => [.string ⟨x.toArray⟩]
  und := Try.underlying46
  info := by kernel_rfl
  zsz := rfl
  pos := by decide
  len := fun _ => rfl
  one := strCod_one
theorem strAt {w : World} {b o : Nat} {xs : List (List UInt8)} (h : ListAt strCod w b o xs) (i : Nat) (hi : i < xs.length) : w.cell? ⟨b, o + i, none⟩ = some (.string ⟨(xs[i]'hi).toArray⟩) := by
  have := h.get i hi 0 _ rfl
  rwa [show o + (i * strCod.sz + 0) = o + i by show o + (i * 1 + 0) = _; omega] at this
theorem strEncs : ∀ xs : List (List UInt8), strCod.encs xs = xs.map fun x => Value.string ⟨x.toArray⟩
  | [] => rfl
  | x :: xs => by
    have ih := strEncs xs
    show [Value.string ⟨x.toArray⟩] ++ strCod.encs xs = _
    rw [ih]; rfl
theorem strAt_of {w : World} {b o : Nat} {xs : List (List UInt8)} (h : ∀ i (hi : i < xs.length), w.cell? ⟨b, o + i, none⟩ = some (.string ⟨(xs[i]'hi).toArray⟩)) : ListAt strCod w b o xs := fun j u hj => by
  rw [strEncs, List.getElem?_map, Option.map_eq_some_iff] at hj
  obtain ⟨x, hx, rfl⟩ := hj
  obtain ⟨hl, rfl⟩ := List.getElem?_eq_some_iff.1 hx
  exact h j hl
end Go.Proofs.Ytaondmaebgicgaa
