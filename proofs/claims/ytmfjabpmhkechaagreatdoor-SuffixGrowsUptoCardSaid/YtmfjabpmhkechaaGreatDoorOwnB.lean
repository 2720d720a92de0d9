/- Bytes that a call gathers for itself: appending to them. -/
import Derived.Test.YtmfjabpmhkechaaGreatDoorBytes
import Derived.Deep.RegionLaw
namespace Go.Proofs.YtmfjabpmhkechaaGreatDoor
open Go Go.RowKit

def u8s (l : List UInt8) : List Value := l.map fun x => .int .u8 (x.toNat : Int)
/-- A slice of bytes of one's own, in blocks from B on, holds this text. -/
def OwnB (B : Nat) (w : World) (v : Value) (l : List UInt8) : Prop := w.ownsRow B 5 1 v l.length (u8s l)
theorem OwnB.nil (B : Nat) (w : World) : OwnB B w (.slice none 0 0) [] := World.ownsRow_nil w B _ 1
theorem OwnB.below {B : Nat} {w w' : World} {v : Value} {l : List UInt8} (h : OwnB B w v l) (hb : Below w.heap.size w w') : OwnB B w' v l := by
  obtain ⟨h1, h2⟩ := h
  refine ⟨h1, ?_⟩
  rcases h2 with h2 | ⟨g, cap, cur, hv, hg, hh, r⟩
  · exact .inl h2
  · refine .inr ⟨g, cap, cur, hv, hg, ?_, r⟩
    rw [hb.block g ?_]; exact hh
    rcases Nat.lt_or_ge g w.heap.size with h' | h'
    · exact h'
    · rw [Array.getElem?_eq_none h'] at hh; cases hh
theorem OwnB.alloc {B : Nat} {w : World} {v : Value} {l : List UInt8} (h : OwnB B w v l) (o : Obj) : OwnB B (w.alloc o) v l := h.below ((Below.refl _ _).alloc (Nat.le_refl _) o)
theorem OwnB.drew {B : Nat} {w : World} {v : Value} {l : List UInt8} (h : OwnB B w v l) : OwnB B w.drew v l := h
theorem OwnB.form {B : Nat} {w : World} {v : Value} {l : List UInt8} (h : OwnB B w v l) : (v = .slice none 0 0 ∧ l = []) ∨ ∃ g cap, v = .slice (some ⟨g, 0, none⟩) l.length cap ∧ B ≤ g ∧ g < w.heap.size ∧ bytesAt w ⟨g, 0, none⟩ l ∧ ∀ j, w.frozen? ⟨g, j, none⟩ = false := by
  obtain ⟨h1, ⟨hv, h0⟩ | ⟨g, cap, cur, hv, hg, hh, _, _, hcur, hx⟩⟩ := h
  · exact .inl ⟨hv, List.length_eq_zero_iff.1 h0⟩
  · refine .inr ⟨g, cap, hv, hg, ?_, fun j hj => ?_, fun j => ?_⟩
    · rcases Nat.lt_or_ge g w.heap.size with h' | h'
      · exact h'
      · rw [Array.getElem?_eq_none h'] at hh; cases hh
    · have e : (u8s l)[j]? = some (.int .u8 ((l[j]'hj).toNat : Int)) := by simp [u8s, hj]
      rw [← hx, Nat.mul_one, List.getElem?_take, if_pos hj, Array.getElem?_toList] at e
      rw [add_mk]
      simp only [World.cell?, hh, Nat.zero_add]
      exact e
    · simp [World.frozen?, hh]
theorem OwnB.str {B : Nat} {w : World} {v : Value} {l : List UInt8} (h : OwnB B w v l) : strOf w v = some l := by
  rcases h.form with ⟨rfl, rfl⟩ | ⟨g, cap, rfl, _, _, hb, _⟩
  · rfl
  · exact strOf_bytes hb cap
theorem bytesAt_new1 (w : World) (x : UInt8) (t : TypeId) : bytesAt (w.alloc (.cells #[.int .u8 (x.toNat : Int)] t)) ⟨w.heap.size, 0, none⟩ [x] := by
  intro j hj
  obtain rfl : j = 0 := by simpa using hj
  rw [add_mk, World.cell?_alloc_at _ _ _ _ rfl]
  rfl
theorem bytesAt_new3 (w : World) (x y z : UInt8) (t : TypeId) : bytesAt (w.alloc (.cells #[.int .u8 (x.toNat : Int), .int .u8 (y.toNat : Int), .int .u8 (z.toNat : Int)] t)) ⟨w.heap.size, 0, none⟩ [x, y, z] := by
  intro j hj
  rw [add_mk, World.cell?_alloc_at _ _ _ _ rfl]
  match j, hj with
  | 0, _ => rfl
  | 1, _ => rfl
  | 2, _ => rfl
theorem u8_info : ∃ i0, Tryz.prog.info? 5 = some i0 ∧ i0.zero = some (.int .u8 0) ∧ i0.size = 1 ∧ i0.bytes = 1 := by
  have h : (Tryz.prog.info? 5).map (fun i => (i.zero, i.size, i.bytes)) = some (some (.int .u8 0), 1, 1) := by kernel_rfl
  cases hi : Tryz.prog.info? 5 with
  | none => rw [hi] at h; cases h
  | some i0 =>
    rw [hi] at h
    simp only [Option.map_some, Option.some.injEq, Prod.mk.injEq] at h
    exact ⟨i0, rfl, h⟩
theorem wp_append_bytes {o : Oper} {a : Act} {K : Act → World → Prop} {Q : Exit → Act → World → Prop} (s x : Operand)
    (ho : o.op = .call { callee := .builtin .append, args := #[s, x], argTypes := #[84, 84] }) (B : Nat) (w : World) (v : Value) (l : List UInt8) (hs : a.eval s = v) (hown : OwnB B w v l)
    (b n c : Nat) (news : List UInt8) (hx : a.eval x = .slice (some ⟨b, 0, none⟩) n c) (hn : n = news.length) (hnew : bytesAt w ⟨b, 0, none⟩ news) (hlen : l.length + news.length ≤ 140737488355328) (hB : B ≤ w.heap.size)
    (h : ∀ v' w', OwnB B w' v' (l ++ news) → Below B w w' → K (a.put o.dst v') w') : Oper.wp Tryz.prog o a w K Q := by
  obtain ⟨i0, hi, hz, hsz, hby⟩ := u8_info
  subst hn
  refine wp_append_own w s x 84 ho B 5 i0 (.int .u8 0) 1 1 Tryz.underlying84 hi hz hsz hby rfl (by decide) v l.length (u8s l) hs hown ⟨b, 0, none⟩ news.length c (u8s news) hx (by simp [u8s]) (fun j u hu => ?_) (fun u hu => ?_) (by unfold maxLen; omega) (by omega) hB (fun v' w' h1 h2 _ => h v' w' ?_ ?_)
  · simp only [u8s, List.getElem?_map, Option.map_eq_some_iff] at hu
    obtain ⟨y, hy, rfl⟩ := hu
    obtain ⟨hj, rfl⟩ := List.getElem?_eq_some_iff.1 hy
    exact hnew j hj
  · simp only [u8s, List.mem_map] at hu
    obtain ⟨y, _, rfl⟩ := hu
    rfl
  · have e : u8s l ++ u8s news = u8s (l ++ news) := by simp [u8s]
    rw [e] at h1
    show w'.ownsRow B 5 1 v' (l ++ news).length (u8s (l ++ news))
    rwa [List.length_append]
  · exact (Below.refl B w).grown h2 hB (fun k hk => (hown.lt k hk).1)
/-- .. as one step of a region that draws its order. -/
theorem step_append_bytes {ops : Array Oper} {o : Oper} {a : Act} {K : Act → World → Prop} {Q : Exit → Act → World → Prop} {E : Prop} (hgd : o.guard = none) (s x : Operand)
    (ho : o.op = .call { callee := .builtin .append, args := #[s, x], argTypes := #[84, 84] }) (B : Nat) (w : World) (v : Value) (l : List UInt8) (hs : a.eval s = v) (hown : OwnB B w v l)
    (b n c : Nat) (news : List UInt8) (hx : a.eval x = .slice (some ⟨b, 0, none⟩) n c) (hn : n = news.length) (hnew : bytesAt w ⟨b, 0, none⟩ news) (hlen : l.length + news.length ≤ 140737488355328) (hB : B ≤ w.heap.size)
    (h : ∀ v' w', OwnB B w' v' (l ++ news) → Below B w w' → K (a.put o.dst v') w') : if Region.wanted o (yielded ops a.tmps) = true then Oper.wp Tryz.prog o a w K Q else E := by
  have hw : Region.wanted o (yielded ops a.tmps) = true := by simp [Region.wanted, hgd]
  rw [if_pos hw]
  exact wp_append_bytes s x ho B w v l hs hown b n c news hx hn hnew hlen hB h
/-- 'append(b, news...)' on bytes of one's own. -/
theorem wpList_append_bytes {ops : Array Oper} {rest : List Oper} {o : Oper} {a : Act} {Q : Exit → Act → World → Prop} (hgd : o.guard = none) (s x : Operand)
    (ho : o.op = .call { callee := .builtin .append, args := #[s, x], argTypes := #[84, 84] }) (B : Nat) (w : World) (v : Value) (l : List UInt8) (hs : a.eval s = v) (hown : OwnB B w v l)
    (b n c : Nat) (news : List UInt8) (hx : a.eval x = .slice (some ⟨b, 0, none⟩) n c) (hn : n = news.length) (hnew : bytesAt w ⟨b, 0, none⟩ news) (hlen : l.length + news.length ≤ 140737488355328) (hB : B ≤ w.heap.size)
    (h : ∀ v' w', OwnB B w' v' (l ++ news) → Below B w w' → wpList Tryz.prog ops Q rest (a.put o.dst v') w') : wpList Tryz.prog ops Q (o :: rest) a w := by
  exact wpList_plain hgd fun _ hK => wp_append_bytes s x ho B w v l hs hown b n c news hx hn hnew hlen hB fun v' w' h1 h2 => hK _ _ (h v' w' h1 h2)
end Go.Proofs.YtmfjabpmhkechaaGreatDoor
