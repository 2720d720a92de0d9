/- Merged: Open, OpenSl, SufW, SufS, SufR, SufL, OpenRu. -/
import Derived.Test.YtmfjabpmhkechaaGreatDoorHost
import Derived.Test.YtmfjabpmhkechaaGreatDoorOpenB
import Derived.Test.YtmfjabpmhkechaaGreatDoorCod
import Derived.Test.YtmfjabpmhkechaaGreatDoorHostB
import Derived.OpenShut
import Derived.ChangeSlices
import Derived.Test.YtmfjabpmhkechaaGreatDoorSufAllA
import Derived.Deep.DeepCutAuto
namespace Go.Proofs.YtmfjabpmhkechaaGreatDoor
section
open Go Go.RowKit
set_option maxRecDepth 20000

section
variable {w : World} {r : Reach} {base : Nat}
def addrT : List TypeId := List.replicate 16 5
def hostT : List TypeId := [3, 9] ++ addrT
theorem fits_addr {vs : List Value} (h : RowFits Tryz.prog w r base addrT vs) : ∃ a : GAddr, vs = addrL a := by
  obtain ⟨l, hl, rfl⟩ := rowFits_u8 Tryz.underlying5 h
  exact ⟨⟨l, hl⟩, rfl⟩
theorem fits_host {vs : List Value} (h : RowFits Tryz.prog w r base hostT vs) : ∃ a : GHost, vs = hostL a := by
  obtain ⟨v, b, rfl, h1, h⟩ := rowFits_cons h
  obtain ⟨v', b', rfl, h2, h⟩ := rowFits_cons h
  obtain ⟨a, rfl⟩ := fits_addr h
  obtain ⟨k, rfl, hk⟩ := cell_int Tryz.underlying3 h1
  obtain ⟨s, rfl, hs⟩ := cell_str Tryz.underlying9 h2
  exact ⟨⟨k, s, a, hk, hs⟩, rfl⟩
theorem open_addr {v : Value} (h : Value.okWide Tryz.prog w r base 24 v) : ∃ a : GAddr, v = .agg (addrC a) := by
  unfold Value.okWide at h
  rw [Tryz.underlying24] at h
  obtain ⟨cs, rfl, hs, hr⟩ := h
  obtain ⟨a, ha⟩ := fits_addr (rowFits_row (ts := addrT) (by kernel_rfl) (by rw [hs, cellsOf_addr]; rfl) hr)
  exact ⟨a, by rw [addrC, ← ha]⟩
theorem open_host {v : Value} (h : Value.okWide Tryz.prog w r base 26 v) : ∃ a : GHost, v = .agg (hostC a) := by
  unfold Value.okWide at h
  rw [Tryz.underlying26] at h
  obtain ⟨cs, rfl, hs, hr⟩ := h
  obtain ⟨a, ha⟩ := fits_host (rowFits_row (ts := hostT) (by kernel_rfl) (by rw [hs, cellsOf_host]; rfl) hr)
  exact ⟨a, by rw [hostC, ← ha]⟩
end
end

section
open Go Go.RowKit Go.WideShapes Go.ChangeShapes
set_option maxRecDepth 20000
set_option linter.unusedSimpArgs false
set_option linter.unusedVariables false

section
variable {H : Type} {enc : TypeId × Value → H} {P : Program} {w : World} {base : Nat} {spare : Nat → Bool} {held : Bool}
theorem rowFits_append {r : Reach} {b : Nat} : ∀ {ts us : List TypeId} {a c : List Value}, RowFits P w r b ts a → RowFits P w r b us c → RowFits P w r b (ts ++ us) (a ++ c)
  | [], us, a, c, h1, h2 => by rw [rowFits_nil h1]; exact h2
  | t :: ts, us, a, c, h1, h2 => by
    obtain ⟨v, x, rfl, h3, h4⟩ := rowFits_cons h1
    exact ⟨h3, rowFits_append h4 h2⟩
theorem leaf_bool {t : TypeId} {fuel : Nat} {cs : List Value} {x : DataW H × List MemPlace} (ht : P.underlying t = some .bool) (h : DataW.trod enc P w base spare held fuel t cs = some x) : RowFits P w .any 0 [t] cs := by
  obtain ⟨b, rfl, _⟩ := DataW.trod_bool ht h
  refine ⟨?_, trivial⟩
  unfold Cell.okWide Cell.ok
  rw [ht]
  trivial
theorem leaf_int {t : TypeId} {k : IntKind} {fuel : Nat} {cs : List Value} {x : DataW H × List MemPlace} (ht : P.underlying t = some (.int k)) (h : DataW.trod enc P w base spare held fuel t cs = some x) : RowFits P w .any 0 [t] cs := by
  obtain ⟨n, rfl, _, hw⟩ := DataW.trod_int ht h
  refine ⟨?_, trivial⟩
  unfold Cell.okWide Cell.ok
  rw [ht]
  exact ⟨rfl, by simpa [Lit.wf, IntKind.has] using hw⟩
theorem leaf_str {t : TypeId} {fuel : Nat} {cs : List Value} {x : DataW H × List MemPlace} (ht : P.underlying t = some .string) (h : DataW.trod enc P w base spare held fuel t cs = some x) : RowFits P w .any 0 [t] cs := by
  obtain ⟨s, rfl, _, hw⟩ := DataW.trod_string ht h
  refine ⟨?_, trivial⟩
  unfold Cell.okWide Cell.ok
  rw [ht]
  have e : IntKind.i64.max = 9223372036854775807 := rfl
  show (s.size : Int) ≤ IntKind.i64.max
  rw [e]
  unfold maxLen at hw
  omega
theorem leaf_array {t e : TypeId} {n fuel : Nat} {cs : List Value} {x : DataW H × List MemPlace} (ht : P.underlying t = some (.array n e)) (hc : P.cellsOf e = 1) (hn : P.cellsOf t = n)
    (he : ∀ (fuel : Nat) (cs : List Value) (y : DataW H × List MemPlace), DataW.trod enc P w base spare held fuel e cs = some y → RowFits P w .any 0 [e] cs)
    (h : DataW.trod enc P w base spare held fuel t cs = some x) : RowFits P w .any 0 (List.replicate n e) cs := by
  obtain ⟨xs, m, _, _, hl, hx, hf⟩ := DataW.trod_array ht h
  rw [hn] at hl
  refine rowFits_of (by rw [List.length_replicate, hl]) (fun i v hv => ?_)
  have hi : i < n := by
    have := (List.getElem?_eq_some_iff.1 hv).1
    omega
  refine ⟨e, by simp [hi], ?_⟩
  have h1 := hf i hi
  rw [hc, Nat.mul_one, List.getElem?_eq_getElem (by omega)] at h1
  have h2 : (cs.drop i).take 1 = [v] := by
    obtain ⟨hlt, rfl⟩ := List.getElem?_eq_some_iff.1 hv
    rw [List.drop_eq_getElem_cons hlt]; rfl
  rw [h2] at h1
  exact (he _ _ _ h1).1
/-- The fields of a struct type and the leaves of each. -/
def FitsF (enc : TypeId × Value → H) (P : Program) (w : World) (base : Nat) (spare : Nat → Bool) (held : Bool) : List Field → List (List TypeId) → Prop
  | [], [] => True
  | f :: fs, ts :: tss => (∀ (fuel : Nat) (cs : List Value) (y : DataW H × List MemPlace), DataW.trod enc P w base spare held fuel f.type cs = some y → RowFits P w .any 0 ts cs) ∧ FitsF enc P w base spare held fs tss
  | _, _ => False
def lieF (P : Program) : Nat → List Field → List (List TypeId) → Bool
  | _, [], [] => true
  | o, f :: fs, ts :: tss => f.offset == o && (P.cellsOf f.type == ts.length && lieF P (o + ts.length) fs tss)
  | _, _, _ => false
theorem fields_fit {cs : List Value} {m : Nat} : ∀ (fs : List Field) (tss : List (List TypeId)) (xs : List (DataW H × List MemPlace)) (o : Nat), lieF P o fs tss = true → FitsF enc P w base spare held fs tss → fs.length = xs.length →
    (∀ (i : Nat) (f : Field), fs[i]? = some f → DataW.trod enc P w base spare held m f.type ((cs.drop f.offset).take (P.cellsOf f.type)) = xs[i]?) → RowFits P w .any 0 tss.flatten ((cs.drop o).take tss.flatten.length)
  | [], [], xs, o, _, _, _, _ => by simp [RowFits]
  | [], ts :: tss, xs, o, h, _, _, _ => by simp [lieF] at h
  | f :: fs, [], xs, o, h, _, _, _ => by simp [lieF] at h
  | f :: fs, ts :: tss, [], o, _, _, hl, _ => by simp at hl
  | f :: fs, ts :: tss, y :: xs, o, h, hF, hl, hx => by
    simp only [lieF, Bool.and_eq_true, beq_iff_eq] at h
    obtain ⟨h1, h2, h3⟩ := h
    have h0 := hx 0 f rfl
    rw [h1, h2] at h0
    have hr := hF.1 _ _ _ h0
    have ih := fields_fit fs tss xs (o + ts.length) h3 hF.2 (by simpa using hl) (fun i g hg => hx (i + 1) g hg)
    have e : (cs.drop o).take (ts :: tss).flatten.length = (cs.drop o).take ts.length ++ (cs.drop (o + ts.length)).take tss.flatten.length := by
      rw [List.flatten_cons, List.length_append, List.take_add, List.drop_drop]
    rw [e, List.flatten_cons]
    exact rowFits_append hr ih
theorem struct_fit {t : TypeId} {fs : Array Field} {fuel : Nat} {cs : List Value} {x : DataW H × List MemPlace} (tss : List (List TypeId)) (ht : P.underlying t = some (.struct fs)) (hl : lieF P 0 fs.toList tss = true) (hc : P.cellsOf t = tss.flatten.length)
    (hF : FitsF enc P w base spare held fs.toList tss) (h : DataW.trod enc P w base spare held fuel t cs = some x) : RowFits P w .any 0 tss.flatten cs := by
  obtain ⟨xs, m, _, _, hcl, hx, hf⟩ := DataW.trod_struct ht h
  have := fields_fit (cs := cs) fs.toList tss xs 0 hl hF (by rw [hx]; simp) (fun i f hi => hf i f (by simpa using hi))
  rwa [List.drop_zero, ← hc, ← hcl, List.take_length] at this
end
section
variable {H : Type} {enc : TypeId × Value → H} {w : World} {base : Nat} {spare : Nat → Bool} {held : Bool}
theorem trod_addr {fuel : Nat} {cs : List Value} {x : DataW H × List MemPlace} (h : DataW.trod enc Tryz.prog w base spare held fuel 24 cs = some x) : RowFits Tryz.prog w .any 0 addrT cs :=
  leaf_array Tryz.underlying24 (by kernel_rfl) (by kernel_rfl) (fun _ _ _ h => leaf_int Tryz.underlying5 h) h
theorem trod_host {fuel : Nat} {cs : List Value} {x : DataW H × List MemPlace} (h : DataW.trod enc Tryz.prog w base spare held fuel 26 cs = some x) : RowFits Tryz.prog w .any 0 hostT cs := by
  have := struct_fit [[3], [9], addrT] Tryz.underlying26 (by kernel_rfl) (by kernel_rfl) ⟨fun _ _ _ h => leaf_int Tryz.underlying3 h, fun _ _ _ h => leaf_str Tryz.underlying9 h, fun _ _ _ h => trod_addr h, trivial⟩ h
  simpa [hostT] using this
/-- A slice among the arguments: its elements as data. -/
theorem open_slice {α : Type} (c : Cod α) (Q : α → Prop) {v : Value} {x : DataW H × List MemPlace} {fuel : Nat} {r : Reach} {b : Nat} (hc : Tryz.prog.cellsOf c.E = c.sz)
    (he : ∀ (fuel : Nat) (cs : List Value) (y : DataW H × List MemPlace), DataW.trod enc Tryz.prog w base spare held fuel c.E cs = some y → ∃ u : α, cs = c.enc u ∧ Q u)
    (hv : Value.okWide Tryz.prog w r b c.S v) (h : DataW.trod enc Tryz.prog w base spare held fuel c.S v.cells.toList = some x) :
    ∃ (a : Option Addr) (xs : List α) (cap : Nat), v = .slice a xs.length cap ∧ xs.length ≤ cap ∧ cap ≤ maxLen ∧ ListIn c w a xs 0 ∧ ∀ u ∈ xs, Q u := by
  obtain ⟨a0, len0, cap0, rfl⟩ := okWide_slice c.und hv
  have e0 : (Value.slice a0 len0 cap0).cells.toList = [.slice a0 len0 cap0] := rfl
  rw [e0] at h
  rcases DataW.trod_slice c.und h with ⟨h1, _⟩ | ⟨a, len, cap, elems, rest, n, _, h1, _, _, hl, hm, hlen, hel, _, _⟩
  · obtain ⟨rfl, rfl, rfl⟩ : a0 = none ∧ len0 = 0 ∧ cap0 = 0 := by simpa using h1
    exact ⟨none, [], 0, rfl, Nat.le_refl _, Nat.zero_le _, .inl rfl, fun u h => by cases h⟩
  · obtain ⟨rfl, rfl, rfl⟩ : a0 = some a ∧ len0 = len ∧ cap0 = cap := by simpa using h1
    have each : ∀ i, i < len0 → ∃ u : α, Q u ∧ ∀ j, j < c.sz → w.cell? ((a.add (i * c.sz)).add j) = (c.enc u)[j]? := by
      intro i hi
      have h2 := hel i hi
      rw [hc, List.getElem?_eq_getElem (by omega), Option.bind_eq_some_iff] at h2
      obtain ⟨cs, hcs, hy⟩ := h2
      obtain ⟨u, rfl, hq⟩ := he _ _ _ hy
      exact ⟨u, hq, (World.cells?_some hcs).2.2⟩
    have all : ∀ k, k ≤ len0 → ∃ xs : List α, xs.length = k ∧ (∀ u ∈ xs, Q u) ∧ ∀ i (hi : i < xs.length) j, j < c.sz → w.cell? ((a.add (i * c.sz)).add j) = (c.enc (xs[i]'hi))[j]? := by
      intro k
      induction k with
      | zero => exact fun _ => ⟨[], rfl, (fun u h => by cases h), fun i hi => absurd hi (Nat.not_lt_zero _)⟩
      | succ k ih =>
        intro hk
        obtain ⟨xs, hx, hQ, hxs⟩ := ih (by omega)
        obtain ⟨u, hq, hu⟩ := each k (by omega)
        refine ⟨xs ++ [u], by simp [hx], (fun y hy => by
          rcases List.mem_append.1 hy with hy | hy
          · exact hQ y hy
          · rw [List.mem_singleton] at hy; subst hy; exact hq), fun i hi j hj => ?_⟩
        by_cases hik : i < xs.length
        · rw [List.getElem_append_left hik]; exact hxs i hik j hj
        · have : i = xs.length := by simp at hi; omega
          subst this
          rw [List.getElem_append_right (Nat.le_refl _)]
          simp only [Nat.sub_self, List.getElem_cons_zero]
          rw [hx]; exact hu j hj
    obtain ⟨xs, hx, hQ, hxs⟩ := all len0 (Nat.le_refl _)
    refine ⟨some a, xs, cap0, by rw [hx], by omega, hm, ?_, hQ⟩
    by_cases h0 : len0 = 0
    · exact .inl (List.length_eq_zero_iff.1 (by omega))
    · right
      have hp := c.pos
      have hf := hxs 0 (by omega) 0 hp
      rw [Nat.zero_mul] at hf
      have ea : (a.add 0).add 0 = a := rfl
      rw [ea, List.getElem?_eq_getElem (by rw [c.len]; exact hp)] at hf
      obtain ⟨blk, off, spot⟩ := a
      have hs : spot = none ∧ blk < w.heap.size := by
        unfold World.cell? at hf
        simp only at hf
        split at hf
        · rename_i hh
          have hlt := (Array.getElem?_eq_some_iff.1 hh).1
          cases spot
          · exact ⟨rfl, hlt⟩
          · simp at hf
        · cases hf
      obtain ⟨rfl, hlt⟩ := hs
      refine ⟨blk, off, rfl, Nat.zero_le _, hlt, fun j u hj => ?_⟩
      have hjl : j < (c.encs xs).length := (List.getElem?_eq_some_iff.1 hj).1
      rw [c.encs_length] at hjl
      have hi : j / c.sz < xs.length := Nat.div_lt_of_lt_mul (by rw [Nat.mul_comm]; exact hjl)
      have hm2 := Nat.mod_lt j hp
      have hdm : j / c.sz * c.sz + j % c.sz = j := by rw [Nat.mul_comm]; exact Nat.div_add_mod j c.sz
      have h3 := hxs (j / c.sz) hi (j % c.sz) hm2
      have h4 := c.encs_get xs (j / c.sz) hi (j % c.sz) hm2
      rw [hdm, hj] at h4
      rw [← h4, add_mk, add_mk, Nat.add_assoc, hdm] at h3
      exact h3
end
end

section
open Go Go.RowKit
set_option maxRecDepth 20000
set_option linter.unusedSimpArgs false
set_option linter.unusedVariables false

theorem sufGo_at (T : Tree) (P : List Lab) (f n most exc : Nat) : sufGo T P (f + 1) n most exc =
    if hasB T (P.take (n + 1)) = true then
      sufGo T P f (n + 1) (if endAt (endOf T (P.take (n + 1))) 1 = true then n + 1 else (if endAt (endOf T (P.take n)) 2 = true then n + 1 else most)) (if endAt (endOf T (P.take (n + 1))) 3 = true then n else exc)
    else ((if endAt (endOf T (P.take n)) 2 = true then n + 1 else most), exc) := rfl
theorem idx_root {T : Tree} {G : List Rl} (h : TreeOf T G) : idx T [] = 0 ∧ has T [] := by
  obtain ⟨e, M, rfl⟩ := h.root
  exact ⟨by simp [idx, List.findIdx_cons], ⟨e, List.mem_cons_self⟩⟩
set_option maxRecDepth 100000 in
set_option maxHeartbeats 4000000 in
theorem suffix_any (Q : Nat → Prop) (T : Tree) (G : List Rl) (hT : TreeOf T G) (hT2 : T.length ≤ 100000) (h : GHost) (hn : h.name.length ≤ 4294960000) (bt bm : Nat) (ends : Value) (m : Int) (w : World) (ht : TabR Q w bt bm ends T) (hm : HasMax m w) (htz : HasTz w) (hd : HasDec w) :
    Calls Tryz.prog 11 #[.pointer (some ⟨bt, 0, none⟩), .agg (hostC h)] w fun e w' => e = .returned (.int .i64 (sufP T (pathH h) : Nat)) ∧ Below w.heap.size w w' := by
  have HL : Hid (∀ w, HasMax m w → HasTz w → HasDec w → Calls Tryz.prog 26 #[.agg (hostC h)] w (Gives strCod (labelsL h) w)) := fun w a b c => labels_any h hn m w a b c
  have hl254 := labels_len hn
  have HPL : Hid (∀ x ∈ labelsL h, x.length ≤ maxLen) := fun x hx => by
    have h1 : ∀ x ∈ labelsL h, x.length ≤ h.name.length := by
      unfold labelsL
      split
      · exact splitL_piece_le 46 h.name
      · intro x hx; cases hx
    have := h1 x hx
    unfold maxLen; omega
  have HTR := Lib.hid hT
  obtain ⟨hroot, hhas0⟩ := idx_root hT
  obtain ⟨RES, hres⟩ : ∃ RES, sufGo T (pathH h) (labelsL h).length 0 (min 1 (labelsL h).length) 0 = RES := ⟨_, rfl⟩
  have HRES := Lib.hid hres
  have hfin : sufP T (pathH h) = if 0 < RES.2 then RES.2 else RES.1 := by
    unfold sufP
    rw [pathH_len, hres]
  rw [hfin]
  obtain ⟨V, hV⟩ : ∃ V, (if 0 < RES.2 then RES.2 else RES.1) = V := ⟨_, rfl⟩
  rw [hV]
  have HVV := Lib.hid hV
  clear hfin hres hT hV
  have HPH : Hid (pathH h = (labelsL h).reverse) := rfl
  generalize pathH h = P at *
  generalize labelsL h = L at *
  have HTB := Lib.hid ht
  obtain ⟨be, cap, rfl, hcap, _, hbe, _, _⟩ := ht.form HTR.out
  have hbt := ht.1.lt
  clear ht
  go_enter Tryz.func11, Tryz.ntmps11
  go_upto_region 2 with (go_at_call 26; (with_reducible refine (HL.out _ ?_ ?_ ?_).mono ?_); (exact (by repeat (first | exact hm | apply HasMax.grown | apply HasMax.alloc | apply HasMax.drew))); (exact (by repeat (first | exact htz | apply HasTz.grown | apply HasTz.alloc | apply HasTz.drew))); (exact (by repeat (first | exact hd | apply HasDec.grown | apply HasDec.alloc | apply HasDec.drew))); intro e w1 hg; obtain ⟨a1, c1, rfl, hc1, hb1, hl1⟩ := hg; have HB1 := Lib.hid hb1; have HL1 := Lib.hid hl1; clear hb1 hl1)
  have HBW : Hid (Below w.heap.size w w1) := ((Below.refl _ _).alloc (Nat.le_refl _) _).trans (HB1.out.mono (by simp))
  have hs1 := HBW.out.size
  have HTB1 := Lib.hid (HTB.out.below HBW.out)
  have hbe1 : be < w1.heap.size := by omega
  by_cases hL0 : L.length = 0
  · obtain rfl := List.length_eq_zero_iff.1 hL0
    have hR : RES = (0, 0) := HRES.out.symm
    subst hR
    have hv0 : V = 0 := HVV.out.symm
    subst hv0
    clear hL0 HPL HPH HL1
    go_upto_region 4 with fail
    go_loopw [6, 7, 8, 9] (fun node most exc n wr => node = .int .i64 0 ∧ most = .int .i64 0 ∧ exc = .int .i64 0 ∧ n = .int .i64 1 ∧ Below w1.heap.size w1 wr) (fun _ _ _ _ _ => 0)
    case atStart => exact ⟨rfl, rfl, rfl, rfl, Below.refl _ _⟩
    case round =>
      obtain ⟨rfl, rfl, rfl, rfl, hbr⟩ := hrel
      have hbw : Below w.heap.size w wr := HBW.out.trans (hbr.mono hs1)
      go_wp2
      go_ret
      exact ⟨rfl, (by repeat (first | exact Below.refl _ _ | assumption | refine below_grown ?_ (by first | omega | (simp [go_sem]; done) | (simp [go_sem] <;> omega)) _ | refine Below.alloc ?_ (by first | omega | (simp [go_sem]; done) | (simp [go_sem] <;> omega)) _ | refine below_bytesW ?_ (by first | omega | (simp [go_sem]; done) | (simp [go_sem] <;> omega)) _ | refine Below.drew ?_ | refine below_drewN ?_ _))⟩
  · have hPl : P.length = L.length := by rw [HPH.out, List.length_reverse]
    have hm1 : min 1 L.length = 1 := by omega
    rw [hm1] at HRES
    clear hm1
    go_upto_region 4 with fail
    go_loopw [6, 7, 8, 9] (fun node most exc n wr => ∃ k mo ex : Nat, k ≤ L.length ∧ mo ≤ 1000 ∧ ex ≤ 1000 ∧ node = .int .i64 (idx T (P.take k) : Nat) ∧ most = .int .i64 mo ∧ exc = .int .i64 ex ∧ n = .int .i64 ((k : Int) + 1) ∧ Below w1.heap.size w1 wr ∧ Hid (has T (P.take k)) ∧ Hid (sufGo T P (L.length - k) k mo ex = RES)) (fun _ _ _ n _ => L.length + 1 - (intOf n).toNat)
    case atStart => exact ⟨0, 1, 0, Nat.zero_le _, by omega, by omega, by rw [List.take_zero, hroot]; rfl, congrArg (Value.int .i64) (by omega), rfl, rfl, Below.refl _ _, by rw [List.take_zero]; exact hhas0, by rw [Nat.sub_zero]; exact HRES.out⟩
    case round =>
      obtain ⟨k, mo, ex, hk, hmo, hex, rfl, rfl, rfl, rfl, hbr, HH, HI⟩ := hrel
      have hrs := hbr.size
      have HBR := Lib.hid hbr
      have HBE : Hid (Below w.heap.size w wr) := HBW.out.trans (hbr.mono hs1)
      by_cases hlt : k < L.length
      · have HTR2 := Lib.hid (HTB1.out.below hbr)
        obtain ⟨b1, o1, rfl, _, hlt1, hat1⟩ := HL1.out.resolve_left (fun h => by subst h; exact absurd hlt (Nat.not_lt_zero _))
        have hj : L.length - (k + 1) < L.length := by omega
        have hcell := strAt (hat1.below hbr) (L.length - (k + 1)) hj
        have hlab := HPL.out _ (List.getElem_mem hj)
        have hPk : P[k]'(by omega) = L[L.length - (k + 1)]'hj := by
          simp only [HPH.out, List.getElem_reverse]
          congr 1
          omega
        have htk : P.take (k + 1) = P.take k ++ [L[L.length - (k + 1)]'hj] := by rw [← hPk, List.take_succ_eq_append_getElem (by omega)]
        obtain ⟨hcb, hcv⟩ := child_idx HH.out (L[L.length - (k + 1)]'hj)
        rw [← htk] at hcb hcv
        have hil := idx_lt HH.out
        obtain ⟨hlk1, hlk2⟩ := HTR2.out.2.1.look (idx T (P.take k)) (L[L.length - (k + 1)]'hj) (by omega) hlab
        obtain ⟨hlk1d, _⟩ := (HTR2.out.2.1.old (w' := wr.drew) rfl).look (idx T (P.take k)) (L[L.length - (k + 1)]'hj) (by omega) hlab
        rw [hcb] at hlk1 hlk1d
        obtain ⟨g, cap', hge, hcap', _, hg, hatE, _⟩ := HTR2.out.form HTR.out
        have hge2 : be = g ∧ cap = cap' := by simpa using hge
        obtain ⟨rfl, rfl⟩ := hge2
        have hil2 : idx T (P.take k) < (T.map Prod.snd).length := by rw [List.length_map]; exact hil
        obtain ⟨_, _, hc2, _⟩ := endCell hatE (idx T (P.take k)) hil2
        rw [endOf_at HH.out hil2] at hc2
        have HST := Lib.hid (HI.out.symm.trans (by rw [show L.length - k = (L.length - (k + 1)) + 1 by omega, sufGo_at]))
        have HC : Hid (hasB T (P.take (k + 1)) = true → has T (P.take (k + 1)) ∧ childV T (idx T (P.take k)) (L[L.length - (k + 1)]'hj) = (idx T (P.take (k + 1)) : Nat) ∧ idx T (P.take (k + 1)) < T.length ∧ wr.cell? ⟨be, idx T (P.take (k + 1)) * 4 + 1, none⟩ = some (.bool (endAt (endOf T (P.take (k + 1))) 1)) ∧ wr.cell? ⟨be, idx T (P.take (k + 1)) * 4 + 3, none⟩ = some (.bool (endAt (endOf T (P.take (k + 1))) 3))) := fun hb => by
          have hh := hasB_iff.1 hb
          have hil := idx_lt hh
          have hil3 : idx T (P.take (k + 1)) < (T.map Prod.snd).length := by rw [List.length_map]; exact hil
          obtain ⟨_, h1, _, h3⟩ := endCell hatE (idx T (P.take (k + 1))) hil3
          rw [endOf_at hh hil3] at h1 h3
          exact ⟨hh, hcv hb, hil, h1, h3⟩
        have hv := HTR2.out.1
        have hct0 : wr.cell? ⟨bt, 0, none⟩ = some (.map (some bm)) := hv.cell 0 (by simp)
        have hct1 : wr.cell? ⟨bt, 1, none⟩ = some (.slice (some ⟨be, 0, none⟩) T.length cap) := hv.cell 1 (by simp)
        have hibt : isOld bt wr = true := isOld_iff.2 hv.lt
        have hibe : isOld be wr = true := isOld_iff.2 hg
        have hib1 : isOld b1 wr = true := isOld_iff.2 (by omega)
        have hwk : IntKind.i64.wrap ((k : Int) + 1 + 1) = (k : Int) + 1 + 1 := IntWalk.i64_in _ (by omega)
        have hwk1 : IntKind.i64.wrap ((k : Int) + 1 - 1) = (k : Int) := by rw [show (k : Int) + 1 - 1 = (k : Int) by omega]; exact IntWalk.i64_in _ (by omega)
        have hsb : (L.length : Int) - ((k : Int) + 1) = ((L.length - (k + 1) : Nat) : Int) := by omega
        have hwj : IntKind.i64.wrap ((L.length - (k + 1) : Nat) : Int) = ((L.length - (k + 1) : Nat) : Int) := IntWalk.i64_in _ (by omega)
        have hji : ((L.length - (k + 1) : Nat) : Int) < (L.length : Int) := by omega
        have hle1 : (k : Int) + 1 ≤ (L.length : Int) := by omega
        clear hat1 hv hge hcv hlk2 hcb hPk htk HI hbr hhas0 hroot
        generalize L[L.length - (k + 1)]'hj = lab at *
        generalize hjE : L.length - (k + 1) = j at *
        have HJE := Lib.hid hjE
        clear hjE
        generalize hi0 : idx T (P.take k) = i at *
        generalize endOf T (P.take k) = E0 at *
        generalize endOf T (P.take (k + 1)) = E1 at *
        have hii : (i : Int) < (T.length : Int) := by omega
        obtain ⟨d2, hd2⟩ : ∃ d, endAt E0 2 = d := ⟨_, rfl⟩
        rw [hd2] at hc2 HST
        cases hb : hasB T (P.take (k + 1))
        · rw [hb] at hlk1 hlk1d HST
          have HS2 : Hid (RES = ((if d2 = true then k + 1 else mo), ex)) := HST.out
          clear HST HC
          cases d2
          all_goals
            by_cases he : (0 : Int) < (ex : Int)
            all_goals
              go_upto_region 8 with fail
              go_region
              go_wp2
              go_ret
              have hbe := HBE.out
              first
                | exact ⟨by (have hv : V = ex := by rw [← HVV.out, HS2.out]; exact if_pos (show 0 < ex by omega)); rw [hv]; rfl, (by repeat (first | exact Below.refl _ _ | assumption | refine below_grown ?_ (by first | omega | (simp [go_sem]; done) | (simp [go_sem] <;> omega)) _ | refine Below.alloc ?_ (by first | omega | (simp [go_sem]; done) | (simp [go_sem] <;> omega)) _ | refine below_bytesW ?_ (by first | omega | (simp [go_sem]; done) | (simp [go_sem] <;> omega)) _ | refine Below.drew ?_ | refine below_drewN ?_ _))⟩
                | exact ⟨by (have hv : V = k + 1 := by rw [← HVV.out, HS2.out]; exact if_neg (show ¬ 0 < ex by omega)); rw [hv]; rfl, (by repeat (first | exact Below.refl _ _ | assumption | refine below_grown ?_ (by first | omega | (simp [go_sem]; done) | (simp [go_sem] <;> omega)) _ | refine Below.alloc ?_ (by first | omega | (simp [go_sem]; done) | (simp [go_sem] <;> omega)) _ | refine below_bytesW ?_ (by first | omega | (simp [go_sem]; done) | (simp [go_sem] <;> omega)) _ | refine Below.drew ?_ | refine below_drewN ?_ _))⟩
                | exact ⟨by (have hv : V = mo := by rw [← HVV.out, HS2.out]; exact if_neg (show ¬ 0 < ex by omega)); rw [hv]; rfl, (by repeat (first | exact Below.refl _ _ | assumption | refine below_grown ?_ (by first | omega | (simp [go_sem]; done) | (simp [go_sem] <;> omega)) _ | refine Below.alloc ?_ (by first | omega | (simp [go_sem]; done) | (simp [go_sem] <;> omega)) _ | refine below_bytesW ?_ (by first | omega | (simp [go_sem]; done) | (simp [go_sem] <;> omega)) _ | refine Below.drew ?_ | refine below_drewN ?_ _))⟩
        · rw [hb] at hlk1 hlk1d HST
          obtain ⟨hh1, hcv1, hil1, hcc1, hcc3⟩ := HC.out hb
          rw [hcv1] at hlk1 hlk1d
          clear HC hcv1
          have HH1 := Lib.hid hh1
          clear hh1
          generalize hi1 : idx T (P.take (k + 1)) = i1 at *
          have hii1 : (i1 : Int) < (T.length : Int) := by omega
          obtain ⟨d1, hd1⟩ : ∃ d, endAt E1 1 = d := ⟨_, rfl⟩
          obtain ⟨d3, hd3⟩ : ∃ d, endAt E1 3 = d := ⟨_, rfl⟩
          rw [hd1, hd3] at HST
          rw [hd1] at hcc1
          rw [hd3] at hcc3
          have HS2 : Hid (sufGo T P j (k + 1) (if d1 = true then k + 1 else if d2 = true then k + 1 else mo) (if d3 = true then k else ex) = RES) := HST.out.symm
          clear HST hd1 hd2 hd3
          cases d2 <;> cases d1 <;> cases d3
          all_goals
            go_upto_region 8 with fail
            go_region
            go_wp2
            go_roundw
            case rel =>
              have hbe := HBE.out
              have hbr := HBR.out
              first
                | exact ⟨k + 1, mo, ex, by omega, by omega, by omega, by rw [hi1], by first | rfl | go_num, by first | rfl | go_num, by go_num, (by repeat (first | exact Below.refl _ _ | assumption | refine below_grown ?_ (by first | omega | (simp [go_sem]; done) | (simp [go_sem] <;> omega)) _ | refine Below.alloc ?_ (by first | omega | (simp [go_sem]; done) | (simp [go_sem] <;> omega)) _ | refine below_bytesW ?_ (by first | omega | (simp [go_sem]; done) | (simp [go_sem] <;> omega)) _ | refine Below.drew ?_ | refine below_drewN ?_ _)), HH1.out, by show _ = _; rw [HJE.out]; simpa using HS2.out⟩
                | exact ⟨k + 1, mo, k, by omega, by omega, by omega, by rw [hi1], by first | rfl | go_num, by first | rfl | go_num, by go_num, (by repeat (first | exact Below.refl _ _ | assumption | refine below_grown ?_ (by first | omega | (simp [go_sem]; done) | (simp [go_sem] <;> omega)) _ | refine Below.alloc ?_ (by first | omega | (simp [go_sem]; done) | (simp [go_sem] <;> omega)) _ | refine below_bytesW ?_ (by first | omega | (simp [go_sem]; done) | (simp [go_sem] <;> omega)) _ | refine Below.drew ?_ | refine below_drewN ?_ _)), HH1.out, by show _ = _; rw [HJE.out]; simpa using HS2.out⟩
                | exact ⟨k + 1, (k + 1), ex, by omega, by omega, by omega, by rw [hi1], by first | rfl | go_num, by first | rfl | go_num, by go_num, (by repeat (first | exact Below.refl _ _ | assumption | refine below_grown ?_ (by first | omega | (simp [go_sem]; done) | (simp [go_sem] <;> omega)) _ | refine Below.alloc ?_ (by first | omega | (simp [go_sem]; done) | (simp [go_sem] <;> omega)) _ | refine below_bytesW ?_ (by first | omega | (simp [go_sem]; done) | (simp [go_sem] <;> omega)) _ | refine Below.drew ?_ | refine below_drewN ?_ _)), HH1.out, by show _ = _; rw [HJE.out]; simpa using HS2.out⟩
                | exact ⟨k + 1, (k + 1), k, by omega, by omega, by omega, by rw [hi1], by first | rfl | go_num, by first | rfl | go_num, by go_num, (by repeat (first | exact Below.refl _ _ | assumption | refine below_grown ?_ (by first | omega | (simp [go_sem]; done) | (simp [go_sem] <;> omega)) _ | refine Below.alloc ?_ (by first | omega | (simp [go_sem]; done) | (simp [go_sem] <;> omega)) _ | refine below_bytesW ?_ (by first | omega | (simp [go_sem]; done) | (simp [go_sem] <;> omega)) _ | refine Below.drew ?_ | refine below_drewN ?_ _)), HH1.out, by show _ = _; rw [HJE.out]; simpa using HS2.out⟩
            case measure => simp [intOf]; omega
      · obtain rfl : k = L.length := by omega
        have HS2 : Hid (RES = (mo, ex)) := by
          have := HI.out
          rw [Nat.sub_self] at this
          exact this.symm
        clear HI
        by_cases he : (0 : Int) < (ex : Int)
        all_goals
          go_wp2
          go_ret
          have hbe := HBE.out
          first
            | exact ⟨by (have hv : V = ex := by rw [← HVV.out, HS2.out]; exact if_pos (show 0 < ex by omega)); rw [hv]; rfl, (by repeat (first | exact Below.refl _ _ | assumption | refine below_grown ?_ (by first | omega | (simp [go_sem]; done) | (simp [go_sem] <;> omega)) _ | refine Below.alloc ?_ (by first | omega | (simp [go_sem]; done) | (simp [go_sem] <;> omega)) _ | refine below_bytesW ?_ (by first | omega | (simp [go_sem]; done) | (simp [go_sem] <;> omega)) _ | refine Below.drew ?_ | refine below_drewN ?_ _))⟩
            | exact ⟨by (have hv : V = mo := by rw [← HVV.out, HS2.out]; exact if_neg (show ¬ 0 < ex by omega)); rw [hv]; rfl, (by repeat (first | exact Below.refl _ _ | assumption | refine below_grown ?_ (by first | omega | (simp [go_sem]; done) | (simp [go_sem] <;> omega)) _ | refine Below.alloc ?_ (by first | omega | (simp [go_sem]; done) | (simp [go_sem] <;> omega)) _ | refine below_bytesW ?_ (by first | omega | (simp [go_sem]; done) | (simp [go_sem] <;> omega)) _ | refine Below.drew ?_ | refine below_drewN ?_ _))⟩
end

section
open Go Go.RowKit
set_option maxRecDepth 20000
set_option linter.unusedSimpArgs false
set_option linter.unusedVariables false

/-- A table of rules lies at a block. -/
def TabOk (R : List GRule) (bt : Nat) (w : World) : Prop := ∃ (T : Tree) (bm : Nat) (ends : Value) (Q : Nat → Prop), TreeOf T (goodG R) ∧ T.length ≤ 100000 ∧ TabR Q w bt bm ends T
theorem TabOk.below {R : List GRule} {bt : Nat} {w w' : World} (h : TabOk R bt w) (hb : Below w.heap.size w w') : TabOk R bt w' := by
  obtain ⟨T, bm, ends, Q, h1, h2, h3⟩ := h
  exact ⟨T, bm, ends, Q, h1, h2, h3.below hb⟩
theorem TabOk.grown {R : List GRule} {bt : Nat} {w : World} (h : TabOk R bt w) (p : Regrown) : TabOk R bt (grown w p) := h.below (below_grown' w p)
theorem TabOk.lt {R : List GRule} {bt : Nat} {w : World} (h : TabOk R bt w) : bt < w.heap.size := by
  obtain ⟨T, bm, ends, Q, h1, h2, h3⟩ := h
  exact h3.1.lt
theorem suffix_tab (R : List GRule) (h : GHost) (hn : h.name.length ≤ 4294960000) (bt : Nat) (m : Int) (w : World) (ht : TabOk R bt w) (hm : HasMax m w) (htz : HasTz w) (hd : HasDec w) :
    Calls Tryz.prog 11 #[.pointer (some ⟨bt, 0, none⟩), .agg (hostC h)] w fun e w' => e = .returned (.int .i64 (sufN R h : Nat)) ∧ Below w.heap.size w w' := by
  obtain ⟨T, bm, ends, Q, h1, h2, h3⟩ := ht
  have := suffix_any Q T _ h1 h2 h hn bt bm ends m w h3 hm htz hd
  rw [sufP_eq h1] at this
  exact this
set_option maxHeartbeats 4000000 in
theorem public_tab (R : List GRule) (h : GHost) (hn : h.name.length ≤ 4294960000) (bt : Nat) (m : Int) (w : World) (ht : TabOk R bt w) (hm : HasMax m w) (htz : HasTz w) (hd : HasDec w) :
    Calls Tryz.prog 13 #[.pointer (some ⟨bt, 0, none⟩), .agg (hostC h)] w fun e w' => e = .returned (.bool (pubB R h)) ∧ Below w.heap.size w w' := by
  have HL : Hid (∀ w, HasMax m w → HasTz w → HasDec w → Calls Tryz.prog 26 #[.agg (hostC h)] w (Gives strCod (labelsL h) w)) := fun w a b c => labels_any h hn m w a b c
  have HS : Hid (∀ w, TabOk R bt w → HasMax m w → HasTz w → HasDec w → Calls Tryz.prog 11 #[.pointer (some ⟨bt, 0, none⟩), .agg (hostC h)] w fun e w' => e = .returned (.int .i64 (sufN R h : Nat)) ∧ Below w.heap.size w w') := fun w a b c d => suffix_tab R h hn bt m w a b c d
  have HT := Lib.hid ht
  have hl254 := labels_len hn
  have hB : pubB R h = (decide (0 < (labelsL h).length) && (sufN R h == (labelsL h).length)) := rfl
  rw [hB]
  generalize labelsL h = L at *
  generalize sufN R h = v at *
  clear ht hB
  by_cases h0 : (0 : Int) < (L.length : Int)
  · have h1 : decide (0 < L.length) = true := decide_eq_true (by omega)
    have h2 : ((v : Int) == (L.length : Int)) = (v == L.length) := by rw [Bool.eq_iff_iff, beq_iff_eq, beq_iff_eq]; omega
    rw [h1]
    clear h1
    go_enter Tryz.func13, Tryz.ntmps13
    go_wp2_with (first
      | (go_at_call 26; (with_reducible refine (HL.out _ ?_ ?_ ?_).mono ?_); (exact (by repeat (first | exact hm | apply HasMax.grown | apply HasMax.alloc | apply HasMax.drew))); (exact (by repeat (first | exact htz | apply HasTz.grown | apply HasTz.alloc | apply HasTz.drew))); (exact (by repeat (first | exact hd | apply HasDec.grown | apply HasDec.alloc | apply HasDec.drew))); intro e w1 hg; obtain ⟨a1, c1, rfl, hc1, hb1, hl1⟩ := hg; obtain ⟨p1, rfl⟩ := grown_of hb1; clear hb1)
      | (go_at_call 11; (with_reducible refine (HS.out _ ?_ ?_ ?_ ?_).mono ?_); (exact TabOk.below HT.out (by first | exact (by repeat (first | exact Below.refl _ _ | assumption | refine below_grown ?_ (by first | omega | (simp [go_sem]; done) | (simp [go_sem] <;> omega)) _ | refine Below.alloc ?_ (by first | omega | (simp [go_sem]; done) | (simp [go_sem] <;> omega)) _ | refine below_bytesW ?_ (by first | omega | (simp [go_sem]; done) | (simp [go_sem] <;> omega)) _ | refine Below.drew ?_ | refine below_drewN ?_ _)))); (exact (by repeat (first | exact hm | apply HasMax.grown | apply HasMax.alloc | apply HasMax.drew))); (exact (by repeat (first | exact htz | apply HasTz.grown | apply HasTz.alloc | apply HasTz.drew))); (exact (by repeat (first | exact hd | apply HasDec.grown | apply HasDec.alloc | apply HasDec.drew))); rintro e w1 ⟨rfl, hb1⟩; obtain ⟨p1, rfl⟩ := grown_of hb1; clear hb1))
    go_ret
    exact ⟨by first | rfl | exact ret_bool (by simp), (by repeat (first | exact Below.refl _ _ | assumption | refine below_grown ?_ (by first | omega | (simp [go_sem]; done) | (simp [go_sem] <;> omega)) _ | refine Below.alloc ?_ (by first | omega | (simp [go_sem]; done) | (simp [go_sem] <;> omega)) _ | refine below_bytesW ?_ (by first | omega | (simp [go_sem]; done) | (simp [go_sem] <;> omega)) _ | refine Below.drew ?_ | refine below_drewN ?_ _))⟩
  · have h1 : decide (0 < L.length) = false := decide_eq_false (by omega)
    rw [h1]
    clear h1
    go_enter Tryz.func13, Tryz.ntmps13
    go_wp2_with (first
      | (go_at_call 26; (with_reducible refine (HL.out _ ?_ ?_ ?_).mono ?_); (exact (by repeat (first | exact hm | apply HasMax.grown | apply HasMax.alloc | apply HasMax.drew))); (exact (by repeat (first | exact htz | apply HasTz.grown | apply HasTz.alloc | apply HasTz.drew))); (exact (by repeat (first | exact hd | apply HasDec.grown | apply HasDec.alloc | apply HasDec.drew))); intro e w1 hg; obtain ⟨a1, c1, rfl, hc1, hb1, hl1⟩ := hg; obtain ⟨p1, rfl⟩ := grown_of hb1; clear hb1))
    go_ret
    exact ⟨by first | rfl | exact ret_bool (by simp), (by repeat (first | exact Below.refl _ _ | assumption | refine below_grown ?_ (by first | omega | (simp [go_sem]; done) | (simp [go_sem] <;> omega)) _ | refine Below.alloc ?_ (by first | omega | (simp [go_sem]; done) | (simp [go_sem] <;> omega)) _ | refine below_bytesW ?_ (by first | omega | (simp [go_sem]; done) | (simp [go_sem] <;> omega)) _ | refine Below.drew ?_ | refine below_drewN ?_ _))⟩
theorem site_zero {R : List GRule} {h : GHost} (hk : nameOk h = false) : (tailH h ((sufN R h : Int) + 1)).name = [] := by
  have h1 : labelsL h = [] := by unfold labelsL; rw [hk]; rfl
  unfold tailH tailOk
  rw [h1]
  rw [if_neg (by first | (simp; done) | (simp; omega))]
  rfl
set_option maxHeartbeats 4000000 in
theorem site_tab (R : List GRule) (h : GHost) (hn : h.name.length ≤ 4294960000) (bt : Nat) (m : Int) (w : World) (ht : TabOk R bt w) (hm : HasMax m w) (htz : HasTz w) (hd : HasDec w) :
    Calls Tryz.prog 15 #[.pointer (some ⟨bt, 0, none⟩), .agg (hostC h)] w fun e w' => e = .returned (.string ⟨(siteL R h).toArray⟩) ∧ Below w.heap.size w w' := by
  have HR : Hid (∀ w, HasMax m w → HasTz w → HasDec w → Calls Tryz.prog 29 #[.agg (hostC h)] w fun e w' => e = .returned (.bool (rightB h)) ∧ Below w.heap.size w w') := fun w a b c => right_any h hn m w a b c
  have HX : Hid (∀ w, HasTz w → HasDec w → Calls Tryz.prog 30 #[.agg (hostC h)] w fun e w' => e = .returned (.string ⟨(textH h).toArray⟩) ∧ Below w.heap.size w w') := fun w b c => text_any h w b c
  have HS : Hid (∀ w, TabOk R bt w → HasMax m w → HasTz w → HasDec w → Calls Tryz.prog 11 #[.pointer (some ⟨bt, 0, none⟩), .agg (hostC h)] w fun e w' => e = .returned (.int .i64 (sufN R h : Nat)) ∧ Below w.heap.size w w') := fun w a b c d => suffix_tab R h hn bt m w a b c d
  have HA : Hid (∀ w, HasMax m w → HasTz w → HasDec w → Calls Tryz.prog 31 #[.agg (hostC h), .int .i64 ((sufN R h : Int) + 1)] w fun e w' => e = .returned (.tuple #[.agg (hostC (tailH h ((sufN R h : Int) + 1))), .bool (tailOk h ((sufN R h : Int) + 1))]) ∧ Below w.heap.size w w') := fun w a b c => tail_any h _ hn m w a b c
  have hl254 := labels_len hn
  have hle := sufN_le R h
  have hw1 : IntKind.i64.wrap ((sufN R h : Int) + 1) = (sufN R h : Int) + 1 := IntWalk.i64_in _ (by omega)
  have HT := Lib.hid ht
  by_cases hc : h.kind ≠ 1 ∧ rightB h = true
  · have hv : siteL R h = textH h := by unfold siteL; rw [if_pos hc.1, if_pos hc.2]
    rw [hv]
    have hk := hc.1
    rw [hc.2] at HR
    clear ht hv hw1 hc HS HA
    generalize textH h = tx at *
    go_enter Tryz.func15, Tryz.ntmps15
    go_wp2_with (first
      | (go_at_call 29; (with_reducible refine (HR.out _ ?_ ?_ ?_).mono ?_); (exact (by repeat (first | exact hm | apply HasMax.grown | apply HasMax.alloc | apply HasMax.drew))); (exact (by repeat (first | exact htz | apply HasTz.grown | apply HasTz.alloc | apply HasTz.drew))); (exact (by repeat (first | exact hd | apply HasDec.grown | apply HasDec.alloc | apply HasDec.drew))); rintro e w1 ⟨rfl, hb1⟩; obtain ⟨p1, rfl⟩ := grown_of hb1; clear hb1)
      | (go_at_call 30; (with_reducible refine (HX.out _ ?_ ?_).mono ?_); (exact (by repeat (first | exact htz | apply HasTz.grown | apply HasTz.alloc | apply HasTz.drew))); (exact (by repeat (first | exact hd | apply HasDec.grown | apply HasDec.alloc | apply HasDec.drew))); rintro e w1 ⟨rfl, hb1⟩; obtain ⟨p1, rfl⟩ := grown_of hb1; clear hb1))
    go_ret
    exact ⟨rfl, (by repeat (first | exact Below.refl _ _ | assumption | refine below_grown ?_ (by first | omega | (simp [go_sem]; done) | (simp [go_sem] <;> omega)) _ | refine Below.alloc ?_ (by first | omega | (simp [go_sem]; done) | (simp [go_sem] <;> omega)) _ | refine below_bytesW ?_ (by first | omega | (simp [go_sem]; done) | (simp [go_sem] <;> omega)) _ | refine Below.drew ?_ | refine below_drewN ?_ _))⟩
  · have hv : siteL R h = (tailH h ((sufN R h : Int) + 1)).name := by
      unfold siteL
      by_cases hk : h.kind = 1
      · rw [if_neg (by simp [hk])]
      · rw [if_pos hk, if_neg (fun hr => hc ⟨hk, hr⟩), site_zero (by unfold nameOk; simp [hk])]
    rw [hv]
    have hcase : h.kind = 1 ∨ (h.kind ≠ 1 ∧ rightB h = false) := by
      by_cases hk : h.kind = 1
      · exact .inl hk
      · right; exact ⟨hk, by cases hr : rightB h; rfl; exact absurd ⟨hk, hr⟩ hc⟩
    clear ht hv hc
    generalize tailH h ((sufN R h : Int) + 1) = D at *
    generalize tailOk h ((sufN R h : Int) + 1) = ok at *
    generalize sufN R h = v at *
    rcases hcase with hk | ⟨hk, hr⟩
    · go_enter Tryz.func15, Tryz.ntmps15
      go_upto_region 3 with fail
      go_region_law (first | (go_simp; (first | with_reducible refine (HS.out _ (TabOk.below HT.out (by repeat (first | exact Below.refl _ _ | assumption | refine below_grown ?_ (by first | omega | (simp [go_sem]; done) | (simp [go_sem] <;> omega)) _ | refine Below.alloc ?_ (by first | omega | (simp [go_sem]; done) | (simp [go_sem] <;> omega)) _ | refine below_bytesW ?_ (by first | omega | (simp [go_sem]; done) | (simp [go_sem] <;> omega)) _ | refine Below.drew ?_ | refine below_drewN ?_ _))) (by repeat (first | exact hm | apply HasMax.grown | apply HasMax.alloc | apply HasMax.drew)) (by repeat (first | exact htz | apply HasTz.grown | apply HasTz.alloc | apply HasTz.drew)) (by repeat (first | exact hd | apply HasDec.grown | apply HasDec.alloc | apply HasDec.drew))).mono ?_ | with_reducible refine (HA.out _ (by repeat (first | exact hm | apply HasMax.grown | apply HasMax.alloc | apply HasMax.drew)) (by repeat (first | exact htz | apply HasTz.grown | apply HasTz.alloc | apply HasTz.drew)) (by repeat (first | exact hd | apply HasDec.grown | apply HasDec.alloc | apply HasDec.drew))).mono ?_); rintro e w1 ⟨rfl, hb1⟩; obtain ⟨p1, rfl⟩ := grown_of hb1; clear hb1; dsimp only))
      all_goals
        go_wp2
        go_ret
        first | exact ⟨rfl, below_setRow (by repeat (first | exact Below.refl _ _ | assumption | refine below_grown ?_ (by first | omega | (simp [go_sem]; done) | (simp [go_sem] <;> omega)) _ | refine Below.alloc ?_ (by first | omega | (simp [go_sem]; done) | (simp [go_sem] <;> omega)) _ | refine below_bytesW ?_ (by first | omega | (simp [go_sem]; done) | (simp [go_sem] <;> omega)) _ | refine Below.drew ?_ | refine below_drewN ?_ _)) (by omega) _⟩ | exact ⟨rfl, (by repeat (first | exact Below.refl _ _ | assumption | refine below_grown ?_ (by first | omega | (simp [go_sem]; done) | (simp [go_sem] <;> omega)) _ | refine Below.alloc ?_ (by first | omega | (simp [go_sem]; done) | (simp [go_sem] <;> omega)) _ | refine below_bytesW ?_ (by first | omega | (simp [go_sem]; done) | (simp [go_sem] <;> omega)) _ | refine Below.drew ?_ | refine below_drewN ?_ _))⟩
    · rw [hr] at HR
      clear hr
      go_enter Tryz.func15, Tryz.ntmps15
      go_upto_region 3 with (go_at_call 29; (with_reducible refine (HR.out _ ?_ ?_ ?_).mono ?_); (exact (by repeat (first | exact hm | apply HasMax.grown | apply HasMax.alloc | apply HasMax.drew))); (exact (by repeat (first | exact htz | apply HasTz.grown | apply HasTz.alloc | apply HasTz.drew))); (exact (by repeat (first | exact hd | apply HasDec.grown | apply HasDec.alloc | apply HasDec.drew))); rintro e w1 ⟨rfl, hb1⟩; obtain ⟨p1, rfl⟩ := grown_of hb1; clear hb1)
      go_region_law (first | (go_simp; (first | with_reducible refine (HS.out _ (TabOk.below HT.out (by repeat (first | exact Below.refl _ _ | assumption | refine below_grown ?_ (by first | omega | (simp [go_sem]; done) | (simp [go_sem] <;> omega)) _ | refine Below.alloc ?_ (by first | omega | (simp [go_sem]; done) | (simp [go_sem] <;> omega)) _ | refine below_bytesW ?_ (by first | omega | (simp [go_sem]; done) | (simp [go_sem] <;> omega)) _ | refine Below.drew ?_ | refine below_drewN ?_ _))) (by repeat (first | exact hm | apply HasMax.grown | apply HasMax.alloc | apply HasMax.drew)) (by repeat (first | exact htz | apply HasTz.grown | apply HasTz.alloc | apply HasTz.drew)) (by repeat (first | exact hd | apply HasDec.grown | apply HasDec.alloc | apply HasDec.drew))).mono ?_ | with_reducible refine (HA.out _ (by repeat (first | exact hm | apply HasMax.grown | apply HasMax.alloc | apply HasMax.drew)) (by repeat (first | exact htz | apply HasTz.grown | apply HasTz.alloc | apply HasTz.drew)) (by repeat (first | exact hd | apply HasDec.grown | apply HasDec.alloc | apply HasDec.drew))).mono ?_); rintro e w1 ⟨rfl, hb1⟩; obtain ⟨p1, rfl⟩ := grown_of hb1; clear hb1; dsimp only))
      all_goals
        go_wp2
        go_ret
        first | exact ⟨rfl, below_setRow (by repeat (first | exact Below.refl _ _ | assumption | refine below_grown ?_ (by first | omega | (simp [go_sem]; done) | (simp [go_sem] <;> omega)) _ | refine Below.alloc ?_ (by first | omega | (simp [go_sem]; done) | (simp [go_sem] <;> omega)) _ | refine below_bytesW ?_ (by first | omega | (simp [go_sem]; done) | (simp [go_sem] <;> omega)) _ | refine Below.drew ?_ | refine below_drewN ?_ _)) (by omega) _⟩ | exact ⟨rfl, (by repeat (first | exact Below.refl _ _ | assumption | refine below_grown ?_ (by first | omega | (simp [go_sem]; done) | (simp [go_sem] <;> omega)) _ | refine Below.alloc ?_ (by first | omega | (simp [go_sem]; done) | (simp [go_sem] <;> omega)) _ | refine below_bytesW ?_ (by first | omega | (simp [go_sem]; done) | (simp [go_sem] <;> omega)) _ | refine Below.drew ?_ | refine below_drewN ?_ _))⟩
end

section
open Go Go.RowKit
set_option maxRecDepth 20000
set_option linter.unusedSimpArgs false
set_option linter.unusedVariables false

theorem hostL_len (h : GHost) : (hostL h).length = 18 := by
  have := hostC_size h
  simpa [hostC] using this
theorem labels_nonempty {h : GHost} : ∀ x ∈ labelsL h, x ≠ [] := by
  intro x hx
  have hk : nameOk h = true := labels_ne (fun e => by rw [e] at hx; cases hx)
  rw [labels_ok hk] at hx
  have := (nameOk_facts hk).2.2.1
  exact labOk_ne (List.all_eq_true.1 this x hx)
set_option maxRecDepth 100000 in
set_option maxHeartbeats 4000000 in
theorem refTail_any (h : GHost) (n : Int) (hn : h.name.length ≤ 1999990000) (w : World) :
    Calls Tryz.prog 33 #[.agg (hostC h), .int .i64 n] w fun e w' => e = .returned (.tuple #[.agg (hostC (tailH h n)), .bool (tailOk h n)]) ∧ Below w.heap.size w w' := by
  have HL : Hid (∀ w, Calls Tryz.prog 22 #[.agg (hostC h)] w (Gives strCod (labelsL h) w)) := fun w => refLabels_any h hn w
  have hl254 := labels_len (h := h) (by omega)
  rcases tailOk_cases h n with ⟨h1, h2⟩ | ⟨h1, h3, h2⟩ | ⟨h1, h3, h2⟩
  · rw [tail_no h2, h2]
    generalize labelsL h = L at *
    go_enter Tryz.func33, Tryz.ntmps33
    go_wp2_with (go_at_call 22; refine (HL.out _).mono ?_; intro e w1 hg; obtain ⟨a1, c1, rfl, hc1, hb1, hl1⟩ := hg; obtain ⟨p1, rfl⟩ := grown_of hb1; clear hb1)
    exact ret_cell_tmp (w.heap.size + 1) (hostC zeroH) (.bool false) rfl rfl rfl agg_host (by simp [go_sem]) (by simp [go_sem]) rfl ⟨rfl, below_setRow (by repeat (first | exact Below.refl _ _ | assumption | refine below_grown ?_ (by first | omega | (simp [go_sem]; done) | (simp [go_sem] <;> omega)) _ | refine Below.alloc ?_ (by first | omega | (simp [go_sem]; done) | (simp [go_sem] <;> omega)) _ | refine below_bytesW ?_ (by first | omega | (simp [go_sem]; done) | (simp [go_sem] <;> omega)) _ | refine Below.drew ?_ | refine below_drewN ?_ _)) (by omega) _⟩
  · rw [tail_no h2, h2]
    have h1' : ¬ n < 1 := by omega
    generalize labelsL h = L at *
    go_enter Tryz.func33, Tryz.ntmps33
    go_wp2_with (go_at_call 22; refine (HL.out _).mono ?_; intro e w1 hg; obtain ⟨a1, c1, rfl, hc1, hb1, hl1⟩ := hg; obtain ⟨p1, rfl⟩ := grown_of hb1; clear hb1)
    exact ret_cell_tmp (w.heap.size + 1) (hostC zeroH) (.bool false) rfl rfl rfl agg_host (by simp [go_sem]) (by simp [go_sem]) rfl ⟨rfl, below_setRow (by repeat (first | exact Below.refl _ _ | assumption | refine below_grown ?_ (by first | omega | (simp [go_sem]; done) | (simp [go_sem] <;> omega)) _ | refine Below.alloc ?_ (by first | omega | (simp [go_sem]; done) | (simp [go_sem] <;> omega)) _ | refine below_bytesW ?_ (by first | omega | (simp [go_sem]; done) | (simp [go_sem] <;> omega)) _ | refine Below.drew ?_ | refine below_drewN ?_ _)) (by omega) _⟩
  · obtain ⟨_, _, e3, e4, _, _⟩ := tail_facts h2
    rw [e3, h2, ← nameV_eq e4]
    have h1' : ¬ n < 1 := by omega
    have h3' : ¬ ((labelsL h).length : Int) < n := by omega
    obtain ⟨k, rfl⟩ : ∃ k : Nat, n = k := ⟨n.toNat, by omega⟩
    have hTN : Hid (joinL 46 ((labelsL h).drop ((labelsL h).length - k)) = tailN h k) := show _ = _ by unfold tailN; simp
    have hne : labelsL h ≠ [] := by intro e; rw [e] at h3; simp at h3; omega
    have HLN := Lib.hid (labels_nonempty (h := h))
    clear e3 h2
    generalize tailN h k = T at *
    generalize labelsL h = L at *
    have hkl : k ≤ L.length := by omega
    have hwr : IntKind.i64.wrap ((L.length : Int) - k) = (L.length : Int) - k := IntWalk.i64_in _ (by omega)
    obtain ⟨M, hM⟩ : ∃ M, L.drop (L.length - k) = M := ⟨_, rfl⟩
    have hMl : M.length = k := by rw [← hM, List.length_drop]; omega
    have HMG : Hid (∀ j (hj : j < M.length), M[j]'hj = L[L.length - k + j]'(by omega)) := fun j hj => by subst hM; simp
    have HMN : Hid (∀ x ∈ M, x ≠ []) := fun x hx => HLN.out x (by rw [← hM] at hx; exact List.mem_of_mem_drop hx)
    rw [hM] at hTN
    have HJL : Hid (∀ j, j ≤ M.length → (joinL 46 (M.take j)).length ≤ 253) := fun j hj => by
      have h1 : joinL 46 (M.take j) <+: joinL 46 M := by
        by_cases h0 : M.take j = []
        · rw [h0]; exact List.nil_prefix
        · by_cases h9 : M.drop j = []
          · have : M.take j = M := by
              have h8 := List.take_append_drop j M
              rw [h9, List.append_nil] at h8
              exact h8
            rw [this]; exact List.prefix_refl _
          · have := join_append 46 _ _ h0 h9
            rw [List.take_append_drop] at this
            rw [this]; exact List.prefix_append _ _
      have h2 := h1.length_le
      rw [hTN.out] at h2
      omega
    go_enter Tryz.func33, Tryz.ntmps33
    go_upto_region 6 with (go_at_call 22; refine (HL.out _).mono ?_; intro e w1 hg; obtain ⟨b, o, cap, rfl, hcap, hb1, hlo, hhi, hat⟩ := hg.some hne; have HBC := Lib.hid (bel_up (w := w) (by repeat (first | exact Below.refl _ _ | assumption | refine below_grown ?_ (by first | omega | (simp [go_sem]; done) | (simp [go_sem] <;> omega)) _ | refine Below.alloc ?_ (by first | omega | (simp [go_sem]; done) | (simp [go_sem] <;> omega)) _ | refine below_bytesW ?_ (by first | omega | (simp [go_sem]; done) | (simp [go_sem] <;> omega)) _ | refine Below.drew ?_ | refine below_drewN ?_ _)) hb1); have HVR := Lib.hid (Var.below (Var.new (w.alloc _) _ _ rfl (by simp [go_sem]) : Var ((w.alloc _).alloc _) (w.heap.size + 1) (hostL zeroH)) hb1); have HAT := Lib.hid hat; have hs1 := hb1.size; clear hg hb1 hat)
    simp at hs1
    go_loopw [7, 8] (fun s i wr => ∃ j : Nat, j ≤ M.length ∧ s = .string ⟨(joinL 46 (M.take j)).toArray⟩ ∧ i = .int .i64 ((L.length : Int) - k + j) ∧ Below w1.heap.size w1 wr) (fun _ i _ => L.length - (intOf i).toNat)
    case atStart => exact ⟨0, Nat.zero_le _, by rw [List.take_zero]; rfl, by go_num, Below.refl _ _⟩
    case round =>
      obtain ⟨j, hj, rfl, rfl, hbr⟩ := hrel
      have hrs := hbr.size
      have HBR := Lib.hid hbr
      have hij : (L.length : Int) - k + j = ((L.length - k + j : Nat) : Int) := by omega
      rw [hij]
      by_cases hlt : j < M.length
      · have hx := HMG.out j hlt
        have hcell := strAt (HAT.out.below hbr) (L.length - k + j) (by omega)
        rw [← hx] at hcell
        have hmn := HMN.out _ (List.getElem_mem hlt)
        have hjl := HJL.out (j + 1) (by omega)
        have hjl0 := HJL.out j (by omega)
        have HST : Hid (joinL 46 (M.take (j + 1)) = (if j = 0 then [] else joinL 46 (M.take j) ++ [46]) ++ M[j]'hlt) := by
          show _ = _
          by_cases h0 : j = 0
          · subst h0
            rw [joinL_one 46 M hlt]; rfl
          · rw [if_neg h0, joinL_take 46 M j hlt (by omega)]
        have HNE : Hid (j ≠ 0 → joinL 46 (M.take j) ≠ []) := fun h0 => joinL_ne 46 _ (fun e => by
          have h5 := congrArg List.length e
          rw [List.length_take] at h5
          have h6 : ([] : List (List UInt8)).length = 0 := rfl
          omega) (fun x hx => HMN.out x (List.mem_of_mem_take hx))
        have hnl : (M[j]'hlt).length ≤ 253 := by
          have h1 := HST.out
          rw [h1, List.length_append] at hjl
          omega
        have hwi : IntKind.i64.wrap (((L.length - k + j : Nat) : Int) + 1) = ((L.length - k + j : Nat) : Int) + 1 := IntWalk.i64_in _ (by omega)
        have hii : ((L.length - k + j : Nat) : Int) < (L.length : Int) := by omega
        have hio : isOld b wr = true := isOld_iff.2 (by omega)
        have hni : ((L.length - k + j : Nat) : Int) + 1 = (L.length : Int) - k + (j + 1 : Nat) := by omega
        have HNI := Lib.hid hni
        clear hx hni hM
        generalize M[j]'hlt = x at *
        generalize hiE : L.length - k + j = i at *
        by_cases h0 : j = 0
        · subst h0
          have hs0 : joinL 46 (M.take 0) = [] := rfl
          have HST2 : Hid (joinL 46 (M.take (0 + 1)) = x) := by show _ = _; rw [HST.out]; rfl
          rw [hs0]
          clear HST HNE hs0 hiE hij
          go_wp2
          go_roundw
          case rel => exact ⟨0 + 1, by omega, by rw [HST2.out], by rw [HNI.out], HBR.out⟩
          case measure => simp [intOf]; omega
        · have HST2 : Hid (joinL 46 (M.take (j + 1)) = joinL 46 (M.take j) ++ [46] ++ x) := by show _ = _; rw [HST.out, if_neg h0]
          have hsn := HNE.out h0
          have he1 : (joinL 46 (M.take j)).isEmpty = false := by rw [List.isEmpty_eq_false_iff]; exact hsn
          have he2 : (joinL 46 (M.take j) == []) = false := by rw [beq_eq_false_iff_ne]; exact hsn
          clear HST HNE hsn hiE hij
          generalize joinL 46 (M.take j) = s at *
          go_wp2
          go_roundw
          case rel => exact ⟨j + 1, by omega, by rw [HST2.out]; simp, by rw [HNI.out], HBR.out⟩
          case measure => simp [intOf]; omega
      · obtain rfl : j = M.length := by omega
        have hT : joinL 46 (M.take M.length) = T := by rw [List.take_length]; exact hTN.out
        rw [hT]
        have hii : ¬ ((L.length - k + M.length : Nat) : Int) < (L.length : Int) := by omega
        have hv := (HVR.out.below hbr).has (n := 18) rfl
        have hio : isOld (w.heap.size + 1) wr = true := isOld_iff.2 (by omega)
        have hbw : Below w.heap.size w wr := HBC.out.trans (hbr.mono (by omega))
        clear hij
        go_wp2
        exact ret_cell_tmp (w.heap.size + 1) (nameV T) (.bool true) rfl rfl rfl agg_host (by simp [go_sem, hv, hio]) (by simp [go_sem, hv, hio]) rfl ⟨rfl, below_setRow hbw (by omega) _⟩
set_option maxHeartbeats 4000000 in
theorem refRuleRB_any (k : Int) (n : List UInt8) (hk : (Lit.int .i64 k).wf = true) (hn : n.length ≤ 100000) (w : World) :
    Calls Tryz.prog 27 #[.agg (ruleV k n)] w fun e w' => e = .returned (.bool (ruleRB (k, n))) ∧ Below w.heap.size w w' := by
  have HRT := Lib.hid (fun w => refRuleText_any k n (by omega) w)
  have htl : (ruleTextL k n).length ≤ n.length + 2 := by
    have h1 : (markL k).length ≤ 2 := by
      unfold markL
      split
      · decide
      · split <;> decide
    unfold ruleTextL
    rw [List.length_append]
    omega
  have HRL := Lib.hid (fun w => refRuleLine_any (ruleTextL k n) (by omega) w)
  have hbd := ruleOut_bd' (ruleTextL k n)
  have hX : ruleRB (k, n) = (decide ((ruleOut (ruleTextL k n)).2.2 = 0) && ((ruleOut (ruleTextL k n)).2.1 && ruleEq (ruleOut (ruleTextL k n)).1.1 (ruleOut (ruleTextL k n)).1.2 k n)) := rfl
  rw [hX]
  clear hX
  generalize ruleTextL k n = tx at *
  obtain ⟨⟨⟨kk, nn⟩, says, er⟩, ho⟩ : ∃ x, ruleOut tx = x := ⟨_, rfl⟩
  rw [ho] at HRL hbd ⊢
  dsimp only at HRL hbd ⊢
  clear ho
  have hml2 : n.length ≤ maxLen := by unfold maxLen; omega
  have hnn : nn.length ≤ maxLen := by have := hbd.2; unfold maxLen; omega
  have hkk := wf_kind' hbd.1
  have hd : decide (er = 0) = (er == 0) := by rw [Bool.eq_iff_iff, decide_eq_true_eq, beq_iff_eq]
  rw [hd]
  go_enter Tryz.func27, Tryz.ntmps27
  cases he : (er == 0) <;> cases says
  all_goals
    go_wp2_with (first
      | (go_at_call 51; (with_reducible refine (HRT.out _).mono ?_); rintro e w1 ⟨rfl, hb1⟩; obtain ⟨p1, rfl⟩ := grown_of hb1; clear hb1)
      | (go_at_call 35; (with_reducible refine (HRL.out _).mono ?_); rintro e w1 ⟨rfl, hb1⟩; obtain ⟨p1, rfl⟩ := grown_of hb1; clear hb1))
    go_ret
    exact ⟨by first | rfl | exact ret_bool (by simp), (by repeat (first | exact Below.refl _ _ | assumption | refine below_grown ?_ (by first | omega | (simp [go_sem]; done) | (simp [go_sem] <;> omega)) _ | refine Below.alloc ?_ (by first | omega | (simp [go_sem]; done) | (simp [go_sem] <;> omega)) _ | refine below_bytesW ?_ (by first | omega | (simp [go_sem]; done) | (simp [go_sem] <;> omega)) _ | refine Below.drew ?_ | refine below_drewN ?_ _))⟩
def mostF (R : List GRule) (h : GHost) : Nat := mostD (goodG R) (pathH h)
def excF (R : List GRule) (h : GHost) : Nat := excD (goodG R) (pathH h)
theorem mostF_step (R : List GRule) (h : GHost) (k : Nat) (hk : k < R.length) : mostF (R.take (k + 1)) h = if ruleRB (R[k]'hk) = true then max (mostF (R.take k) h) (mostC (pathH h) (pathR (R[k]'hk))) else mostF (R.take k) h := by
  unfold mostF
  rw [goodG_take R k hk]
  split
  · unfold mostD; rw [List.foldl_append, List.foldl_cons, List.foldl_nil]
  · rfl
theorem excF_step (R : List GRule) (h : GHost) (k : Nat) (hk : k < R.length) : excF (R.take (k + 1)) h = if ruleRB (R[k]'hk) = true then max (excF (R.take k) h) (excC (pathH h) (pathR (R[k]'hk))) else excF (R.take k) h := by
  unfold excF
  rw [goodG_take R k hk]
  split
  · unfold excD; rw [List.foldl_append, List.foldl_cons, List.foldl_nil]
  · rfl
theorem mostF_le (R : List GRule) (h : GHost) : mostF R h ≤ max 1 (labelsL h).length := by
  unfold mostF mostD
  obtain ⟨_, _, h3⟩ := foldl_max (mostC (pathH h)) (goodG R) 1
  rcases h3 with h3 | ⟨r, _, h3⟩
  · rw [h3]; exact Nat.le_max_left _ _
  · rw [← h3, ← pathH_len]
    unfold mostC
    split
    · rename_i h1; have := h1.2.length_le; omega
    · split
      · rename_i h2; have := h2.2.2; omega
      · exact Nat.zero_le _
theorem excF_le (R : List GRule) (h : GHost) : excF R h ≤ (labelsL h).length := by
  unfold excF excD
  obtain ⟨_, _, h3⟩ := foldl_max (excC (pathH h)) (goodG R) 0
  rcases h3 with h3 | ⟨r, _, h3⟩
  · rw [h3]; exact Nat.zero_le _
  · rw [← h3, ← pathH_len]
    unfold excC
    split
    · rename_i h1; have := h1.2.length_le; omega
    · exact Nat.zero_le _
theorem nameH_eqv {n : List UInt8} (h : n.length ≤ 253) : hostC (nameH n) = nameV n := by rw [nameV_eq h]
set_option maxRecDepth 100000 in
set_option maxHeartbeats 8000000 in
theorem refSuffix_any (R : List GRule) (h : GHost) (hn : h.name.length ≤ 1999990000) (a : Option Addr) (ca la : Nat) (hR : R.length ≤ 10000) (hr : ∀ r ∈ R, r.2.length ≤ 100000 ∧ (Lit.int .i64 r.1).wf = true) (w : World) (hin : ListIn ruleCod w a R la) :
    Calls Tryz.prog 12 #[.slice a R.length ca, .agg (hostC h)] w fun e w' => e = .returned (.int .i64 (sufN R h : Nat)) ∧ Below w.heap.size w w' := by
  have HL : Hid (∀ w, Calls Tryz.prog 22 #[.agg (hostC h)] w (Gives strCod (labelsL h) w)) := fun w => refLabels_any h hn w
  have hl254 := labels_len (h := h) (by omega)
  have HIN := Lib.hid hin
  have HRR := Lib.hid hr
  clear hin hr
  by_cases h0 : (labelsL h).length = 0
  · have hv : sufN R h = 0 := by have := sufN_le R h; omega
    rw [hv]
    have hL : labelsL h = [] := List.length_eq_zero_iff.1 h0
    rw [hL] at HL
    clear h0 hv hl254 hL
    go_enter Tryz.func12, Tryz.ntmps12
    go_wp2_with (go_at_call 22; refine (HL.out _).mono ?_; intro e w1 hg; obtain ⟨a1, c1, rfl, hc1, hb1, hl1⟩ := hg; obtain ⟨p1, rfl⟩ := grown_of hb1; clear hb1)
    go_ret
    exact ⟨rfl, (by repeat (first | exact Below.refl _ _ | assumption | refine below_grown ?_ (by first | omega | (simp [go_sem]; done) | (simp [go_sem] <;> omega)) _ | refine Below.alloc ?_ (by first | omega | (simp [go_sem]; done) | (simp [go_sem] <;> omega)) _ | refine below_bytesW ?_ (by first | omega | (simp [go_sem]; done) | (simp [go_sem] <;> omega)) _ | refine Below.drew ?_ | refine below_drewN ?_ _))⟩
  · have hnok : nameOk h = true := labels_ne (fun e => h0 (by rw [e]; rfl))
    have hnl := (nameOk_facts hnok).2.1
    have HNOK := Lib.hid hnok
    have hfin : sufN R h = if 0 < excF R h then excF R h else mostF R h := by
      unfold sufN sufD
      rw [if_neg (fun e => h0 (by rw [← pathH_len, e]; rfl))]
      rfl
    have hb0 : ((labelsL h).length : Int) ≠ 0 := by omega
    have hb1 : (((labelsL h).length : Int) == 0) = false := by rw [beq_eq_false_iff_ne]; omega
    rw [hfin]
    obtain ⟨V, hV⟩ : ∃ V, (if 0 < excF R h then excF R h else mostF R h) = V := ⟨_, rfl⟩
    rw [hV]
    have HVV := Lib.hid hV
    clear hfin hV hnok
    go_enter Tryz.func12, Tryz.ntmps12
    go_upto_region 6 with (go_at_call 22; refine (HL.out _).mono ?_; intro e w1 hg; obtain ⟨a1, c1, rfl, hc1, hb1', hl1⟩ := hg; have HB1 := Lib.hid hb1'; clear hb1' hl1)
    have HBW : Hid (Below w.heap.size w w1) := ((Below.refl _ _).alloc (Nat.le_refl _) _).trans (HB1.out.mono (by simp))
    have HV3 : Hid (Var w1 w.heap.size (hostL h)) := (Var.new w _ _ rfl (by simp [go_sem])).below HB1.out
    have hs0 := HBW.out.size
    have hs1 := HB1.out.size
    simp at hs1
    go_loopw [5, 6, 18] (fun most exc i wr => ∃ k : Nat, k ≤ R.length ∧ i = .int .i64 k ∧ most = .int .i64 (mostF (R.take k) h : Nat) ∧ exc = .int .i64 (excF (R.take k) h : Nat) ∧ Below w1.heap.size w1 wr) (fun _ _ i _ => R.length - (intOf i).toNat)
    case atStart => exact ⟨0, Nat.zero_le _, rfl, rfl, rfl, Below.refl _ _⟩
    case round =>
      obtain ⟨k, hk, rfl, rfl, rfl, hbr⟩ := hrel
      have hrs := hbr.size
      have HBR := Lib.hid hbr
      have hbw : Below w.heap.size w wr := HBW.out.trans (hbr.mono hs0)
      have HBE := Lib.hid hbw
      clear hbw
      by_cases hlt : k < R.length
      · obtain ⟨b, o, rfl, hlo, hhi, hat⟩ := HIN.out.resolve_left (fun h => by subst h; exact absurd hlt (Nat.not_lt_zero _))
        obtain ⟨r1, q1⟩ := ruleRow (hat.below HBE.out) k hlt
        obtain ⟨hlen, hrwf⟩ := HRR.out _ (List.getElem_mem hlt)
        have HM := Lib.hid (mostF_step R h k hlt)
        have HE := Lib.hid (excF_step R h k hlt)
        have hml := mostF_le (R.take k) h
        have hel := excF_le (R.take k) h
        have HF := Lib.hid (fun hb => ruleRB_facts (r := R[k]'hlt) hb)
        have HMC := Lib.hid (fun hb => mostC_eq (r := R[k]'hlt) (h := h) hb HNOK.out)
        have HEC := Lib.hid (fun hb => excC_eq (r := R[k]'hlt) (h := h) hb HNOK.out)
        generalize R[k]'hlt = r at *
        obtain ⟨rk, rn⟩ := r
        dsimp only at hlen hrwf q1 HF HM HE HMC HEC
        have hio : isOld b wr = true := isOld_iff.2 (by omega)
        have hki : (k : Int) < (R.length : Int) := by omega
        have hwk : IntKind.i64.wrap ((k : Int) + 1) = (k : Int) + 1 := IntWalk.i64_in _ (by omega)
        have HRB := Lib.hid (fun w => refRuleRB_any rk rn hrwf hlen w)
        clear hat
        go_upto_region 8 with fail
        have HV8 : Hid (Var (wr.alloc (Obj.cells (ruleV rk rn) 50)) wr.heap.size (ruleR rk rn)) := Var.new _ _ _ rfl rfl
        have HA : Hid (Below wr.heap.size wr (wr.alloc (Obj.cells (ruleV rk rn) 50))) := (Below.refl _ _).alloc (Nat.le_refl _) _
        have hsa : wr.heap.size + 1 = (wr.alloc (Obj.cells (ruleV rk rn) 50)).heap.size := by simp
        have HV3a := Lib.hid ((HV3.out.below HBR.out).below HA.out)
        clear r1 q1 hio
        generalize (wr.alloc (Obj.cells (ruleV rk rn) 50)) = wa at *
        have h80 : wa.cell? ⟨wr.heap.size, 0, none⟩ = some (.int .i64 rk) := HV8.out.cell 0 (by simp [ruleR])
        have h81 : wa.cell? ⟨wr.heap.size, 1, none⟩ = some (.string ⟨rn.toArray⟩) := HV8.out.cell 1 (by simp [ruleR])
        have hr8 : hasRow wa ⟨wr.heap.size, 0, none⟩ 2 = true := HV8.out.hasRow rfl
        have hq8 : rowAt wa ⟨wr.heap.size, 0, none⟩ 2 = ruleV rk rn := HV8.out.rowAt rfl
        have hi8 : isOld wr.heap.size wa = true := isOld_iff.2 (by omega)
        have HBA : Hid (Below w1.heap.size w1 wa) := HBR.out.trans (HA.out.mono hrs)
        cases hrb : ruleRB (rk, rn)
        · rw [hrb] at HRB HM HE
          have hm2 : mostF (R.take (k + 1)) h = mostF (R.take k) h := HM.out
          have he2 : excF (R.take (k + 1)) h = excF (R.take k) h := HE.out
          have HM2 := Lib.hid hm2
          have HE2 := Lib.hid he2
          clear hm2 he2 HM HE
          go_wp2_with (go_at_call 27; (with_reducible refine (HRB.out _).mono ?_); rintro e w1 ⟨rfl, hb1⟩; obtain ⟨p1, rfl⟩ := grown_of hb1; clear hb1)
          go_roundw
          case rel => exact ⟨k + 1, by omega, by go_num, by rw [HM2.out], by rw [HE2.out], below_grown HBA.out (by omega) _⟩
          case measure => first | (simp [intOf]; done) | (simp [intOf]; omega)
        · obtain ⟨hkk, hl253, hnk⟩ := HF.out hrb
          have hmc := HMC.out hrb
          have hec := HEC.out hrb
          rw [hrb] at HRB HM HE
          have hm2 : mostF (R.take (k + 1)) h = max (mostF (R.take k) h) (mostC (pathH h) (pathR (rk, rn))) := HM.out
          have he2 : excF (R.take (k + 1)) h = max (excF (R.take k) h) (excC (pathH h) (pathR (rk, rn))) := HE.out
          rw [hmc] at hm2
          rw [hec] at he2
          have HM2 := Lib.hid hm2
          have HE2 := Lib.hid he2
          clear hm2 he2 HM HE hmc hec HMC HEC HF
          have HSP : Hid (∀ w, Calls Tryz.prog 28 #[.string ⟨rn.toArray⟩, .int .u8 46] w (Gives strCod (splitL 46 rn) w)) := fun w => refSplit_any rn 46 (by omega) w
          have HUN := Lib.hid (fun w => refUnder_any h (nameH rn) hn (by rw [(nameH_name hl253).2.1]; omega) w)
          have hsl := splitL_length_le 46 rn
          have hnv := nameV_eq hl253
          have HNV := Lib.hid hnv
          clear hnv
          obtain ⟨u, hu⟩ : ∃ u, underB h (nameH rn) = u := ⟨_, rfl⟩
          obtain ⟨q, hq⟩ : ∃ q, hostEq h (nameH rn) = q := ⟨_, rfl⟩
          rw [hu] at HUN HM2 HE2
          rw [hq] at HM2 HE2
          have HQQ := Lib.hid hq
          clear hu hq
          generalize mostF (R.take k) h = mo at *
          generalize excF (R.take k) h = ex at *
          go_upto_region 11 with (first
            | (go_at_call 27; (with_reducible refine (HRB.out _).mono ?_); intro e w2 he; obtain ⟨rfl, hb2⟩ := he; have HB2 := Lib.hid hb2; have HV82 := Lib.hid (HV8.out.below hb2); have h812 : w2.cell? ⟨wr.heap.size, 1, none⟩ = some (.string ⟨rn.toArray⟩) := HV82.out.cell 1 (by simp [ruleR]); clear hb2)
            | (go_at_call 28; (with_reducible refine (HSP.out _).mono ?_); intro e w3 hg; obtain ⟨a3, c3, rfl, hc3, hb3, hl3⟩ := hg; have HB3 := Lib.hid hb3; have HV83 := Lib.hid (HV82.out.below hb3); have h813 : w3.cell? ⟨wr.heap.size, 1, none⟩ = some (.string ⟨rn.toArray⟩) := HV83.out.cell 1 (by simp [ruleR]); clear hb3 hl3))
          have HBX : Hid (Below wa.heap.size wa w3) := HB2.out.trans (HB3.out.mono HB2.out.size)
          have hsx := HBX.out.size
          have HV10 : Hid (Var (w3.alloc (Obj.cells (nameV rn) 26)) w3.heap.size (hostL (nameH rn))) := Var.new _ _ _ (by rw [HNV.out]; rfl) rfl
          have HB4 : Hid (Below wa.heap.size wa (w3.alloc (Obj.cells (nameV rn) 26))) := HBX.out.alloc hsx _
          have hs4 : w3.heap.size + 1 = (w3.alloc (Obj.cells (nameV rn) 26)).heap.size := by simp
          have HV84 := Lib.hid (HV8.out.below HB4.out)
          have HV34 := Lib.hid (HV3a.out.below HB4.out)
          clear h80 h81 hr8 hq8 hi8 h812 h813
          generalize (w3.alloc (Obj.cells (nameV rn) 26)) = w4 at *
          have k10 : hasRow w4 ⟨w3.heap.size, 0, none⟩ 18 = true := HV10.out.hasRow (hostL_len _)
          have k11 : rowAt w4 ⟨w3.heap.size, 0, none⟩ 18 = hostC (nameH rn) := HV10.out.rowAt (hostL_len _)
          have k30 : hasRow w4 ⟨w.heap.size, 0, none⟩ 18 = true := HV34.out.hasRow (hostL_len _)
          have k31 : rowAt w4 ⟨w.heap.size, 0, none⟩ 18 = hostC h := HV34.out.rowAt (hostL_len _)
          have i10 : isOld w3.heap.size w4 = true := isOld_iff.2 (by omega)
          have i30 : isOld w.heap.size w4 = true := isOld_iff.2 (by omega)
          go_upto_region 12 with (go_at_call 21; (with_reducible refine (HUN.out _).mono ?_); intro e w5 he; obtain ⟨rfl, hb5⟩ := he; have HB5 := Lib.hid hb5; clear hb5)
          have hs5 := HB5.out.size
          have HBF : Hid (Below w1.heap.size w1 w5) := HBA.out.trans ((HB4.out.mono (by omega)).trans (HB5.out.mono (by omega)))
          clear k10 k11 k30 k31 i10 i30
          have k10 : hasRow w5 ⟨w3.heap.size, 0, none⟩ 18 = true := (HV10.out.below HB5.out).hasRow (hostL_len _)
          have k11 : rowAt w5 ⟨w3.heap.size, 0, none⟩ 18 = hostC (nameH rn) := (HV10.out.below HB5.out).rowAt (hostL_len _)
          have k30 : hasRow w5 ⟨w.heap.size, 0, none⟩ 18 = true := (HV34.out.below HB5.out).hasRow (hostL_len _)
          have k31 : rowAt w5 ⟨w.heap.size, 0, none⟩ 18 = hostC h := (HV34.out.below HB5.out).rowAt (hostL_len _)
          have h80 : w5.cell? ⟨wr.heap.size, 0, none⟩ = some (.int .i64 rk) := (HV84.out.below HB5.out).cell 0 (by simp [ruleR])
          have i10 : isOld w3.heap.size w5 = true := isOld_iff.2 (by omega)
          have i30 : isOld w.heap.size w5 = true := isOld_iff.2 (by omega)
          have i80 : isOld wr.heap.size w5 = true := isOld_iff.2 (by omega)
          have hqq := HQQ.out
          have hpos : 1 ≤ (splitL 46 rn).length := splitL_pos 46 rn
          clear HNV HSP HUN HRB hnk
          generalize (splitL 46 rn).length = n at *
          generalize nameH rn = D at *
          have hwn : IntKind.i64.wrap ((n : Int) + 1) = (n : Int) + 1 := IntWalk.i64_in _ (by omega)
          have hwn2 : IntKind.i64.wrap ((n : Int) - 1) = (n : Int) - 1 := IntWalk.i64_in _ (by omega)
          rcases hkk with rfl | rfl | rfl <;> cases u <;> cases q
          all_goals
            have hm3 := HM2.out
            have he3 := HE2.out
            simp at hm3 he3
            have HM3 := Lib.hid hm3
            have HE3 := Lib.hid he3
            clear hm3 he3 HM2 HE2
            go_wp2
            go_roundw
            case rel => exact ⟨k + 1, by omega, by go_num, by first | (rw [HM3.out]; done) | (rw [HM3.out]; rfl) | (rw [HM3.out]; congr 1; omega), by first | (rw [HE3.out]; done) | (rw [HE3.out]; rfl) | (rw [HE3.out]; congr 1; omega), HBF.out⟩
            case measure => first | (simp [intOf]; done) | (simp [intOf]; omega)
      · obtain rfl : k = R.length := by omega
        rw [List.take_length]
        generalize mostF R h = mo at *
        generalize excF R h = ex at *
        by_cases he : (0 : Int) < (ex : Int)
        all_goals
          go_wp2
          go_ret
          have hbe := HBE.out
          first
            | exact ⟨by (have hv : V = ex := by rw [← HVV.out]; exact if_pos (show 0 < ex by omega)); rw [hv]; rfl, (by repeat (first | exact Below.refl _ _ | assumption | refine below_grown ?_ (by first | omega | (simp [go_sem]; done) | (simp [go_sem] <;> omega)) _ | refine Below.alloc ?_ (by first | omega | (simp [go_sem]; done) | (simp [go_sem] <;> omega)) _ | refine below_bytesW ?_ (by first | omega | (simp [go_sem]; done) | (simp [go_sem] <;> omega)) _ | refine Below.drew ?_ | refine below_drewN ?_ _))⟩
            | exact ⟨by (have hv : V = mo := by rw [← HVV.out]; exact if_neg (show ¬ 0 < ex by omega)); rw [hv]; rfl, (by repeat (first | exact Below.refl _ _ | assumption | refine below_grown ?_ (by first | omega | (simp [go_sem]; done) | (simp [go_sem] <;> omega)) _ | refine Below.alloc ?_ (by first | omega | (simp [go_sem]; done) | (simp [go_sem] <;> omega)) _ | refine below_bytesW ?_ (by first | omega | (simp [go_sem]; done) | (simp [go_sem] <;> omega)) _ | refine Below.drew ?_ | refine below_drewN ?_ _))⟩
set_option maxHeartbeats 4000000 in
theorem refPublic_any (R : List GRule) (h : GHost) (hn : h.name.length ≤ 1999990000) (a : Option Addr) (ca la : Nat) (hR : R.length ≤ 10000) (hr : ∀ r ∈ R, r.2.length ≤ 100000 ∧ (Lit.int .i64 r.1).wf = true) (w : World) (hin : ListIn ruleCod w a R la) :
    Calls Tryz.prog 14 #[.slice a R.length ca, .agg (hostC h)] w fun e w' => e = .returned (.bool (pubB R h)) ∧ Below w.heap.size w w' := by
  have HL : Hid (∀ w, Calls Tryz.prog 22 #[.agg (hostC h)] w (Gives strCod (labelsL h) w)) := fun w => refLabels_any h hn w
  have HS : Hid (∀ w, ListIn ruleCod w a R la → Calls Tryz.prog 12 #[.slice a R.length ca, .agg (hostC h)] w fun e w' => e = .returned (.int .i64 (sufN R h : Nat)) ∧ Below w.heap.size w w') := fun w a => refSuffix_any R h hn _ ca la hR hr w a
  have HIN := Lib.hid hin
  have hl254 := labels_len (h := h) (by omega)
  have hB : pubB R h = (decide (0 < (labelsL h).length) && (sufN R h == (labelsL h).length)) := rfl
  rw [hB]
  generalize labelsL h = L at *
  generalize sufN R h = v at *
  clear hin hB hr
  by_cases h0 : (0 : Int) < (L.length : Int)
  · have h1 : decide (0 < L.length) = true := decide_eq_true (by omega)
    have h2 : ((v : Int) == (L.length : Int)) = (v == L.length) := by rw [Bool.eq_iff_iff, beq_iff_eq, beq_iff_eq]; omega
    rw [h1]
    clear h1
    go_enter Tryz.func14, Tryz.ntmps14
    go_wp2_with (first
      | (go_at_call 22; (with_reducible refine (HL.out _).mono ?_); intro e w1 hg; obtain ⟨a1, c1, rfl, hc1, hb1, hl1⟩ := hg; obtain ⟨p1, rfl⟩ := grown_of hb1; clear hb1)
      | (go_at_call 12; (with_reducible refine (HS.out _ ?_).mono ?_); (exact ListIn.below HIN.out (by repeat (first | exact Below.refl _ _ | assumption | refine below_grown ?_ (by first | omega | (simp [go_sem]; done) | (simp [go_sem] <;> omega)) _ | refine Below.alloc ?_ (by first | omega | (simp [go_sem]; done) | (simp [go_sem] <;> omega)) _ | refine below_bytesW ?_ (by first | omega | (simp [go_sem]; done) | (simp [go_sem] <;> omega)) _ | refine Below.drew ?_ | refine below_drewN ?_ _))); rintro e w1 ⟨rfl, hb1⟩; obtain ⟨p1, rfl⟩ := grown_of hb1; clear hb1))
    go_ret
    exact ⟨by first | rfl | exact ret_bool (by simp), (by repeat (first | exact Below.refl _ _ | assumption | refine below_grown ?_ (by first | omega | (simp [go_sem]; done) | (simp [go_sem] <;> omega)) _ | refine Below.alloc ?_ (by first | omega | (simp [go_sem]; done) | (simp [go_sem] <;> omega)) _ | refine below_bytesW ?_ (by first | omega | (simp [go_sem]; done) | (simp [go_sem] <;> omega)) _ | refine Below.drew ?_ | refine below_drewN ?_ _))⟩
  · have h1 : decide (0 < L.length) = false := decide_eq_false (by omega)
    rw [h1]
    clear h1
    go_enter Tryz.func14, Tryz.ntmps14
    go_wp2_with (first
      | (go_at_call 22; (with_reducible refine (HL.out _).mono ?_); intro e w1 hg; obtain ⟨a1, c1, rfl, hc1, hb1, hl1⟩ := hg; obtain ⟨p1, rfl⟩ := grown_of hb1; clear hb1))
    go_ret
    exact ⟨by first | rfl | exact ret_bool (by simp), (by repeat (first | exact Below.refl _ _ | assumption | refine below_grown ?_ (by first | omega | (simp [go_sem]; done) | (simp [go_sem] <;> omega)) _ | refine Below.alloc ?_ (by first | omega | (simp [go_sem]; done) | (simp [go_sem] <;> omega)) _ | refine below_bytesW ?_ (by first | omega | (simp [go_sem]; done) | (simp [go_sem] <;> omega)) _ | refine Below.drew ?_ | refine below_drewN ?_ _))⟩
set_option maxHeartbeats 4000000 in
theorem refSite_any (R : List GRule) (h : GHost) (hn : h.name.length ≤ 1999990000) (a : Option Addr) (ca la : Nat) (hR : R.length ≤ 10000) (hr : ∀ r ∈ R, r.2.length ≤ 100000 ∧ (Lit.int .i64 r.1).wf = true) (w : World) (hin : ListIn ruleCod w a R la) :
    Calls Tryz.prog 16 #[.slice a R.length ca, .agg (hostC h)] w fun e w' => e = .returned (.string ⟨(siteL R h).toArray⟩) ∧ Below w.heap.size w w' := by
  have HRT : Hid (∀ w, Calls Tryz.prog 32 #[.agg (hostC h)] w fun e w' => e = .returned (.bool (rightB h)) ∧ Below w.heap.size w w') := fun w => refRight_any h hn w
  have HX : Hid (∀ w, Calls Tryz.prog 19 #[.agg (hostC h)] w fun e w' => e = .returned (.string ⟨(textH h).toArray⟩) ∧ Below w.heap.size w w') := fun w => refText_any h w
  have HS : Hid (∀ w, ListIn ruleCod w a R la → Calls Tryz.prog 12 #[.slice a R.length ca, .agg (hostC h)] w fun e w' => e = .returned (.int .i64 (sufN R h : Nat)) ∧ Below w.heap.size w w') := fun w a => refSuffix_any R h hn _ ca la hR hr w a
  have HA : Hid (∀ w, Calls Tryz.prog 33 #[.agg (hostC h), .int .i64 ((sufN R h : Int) + 1)] w fun e w' => e = .returned (.tuple #[.agg (hostC (tailH h ((sufN R h : Int) + 1))), .bool (tailOk h ((sufN R h : Int) + 1))]) ∧ Below w.heap.size w w') := fun w => refTail_any h _ hn w
  have hl254 := labels_len (h := h) (by omega)
  have hle := sufN_le R h
  have hw1 : IntKind.i64.wrap ((sufN R h : Int) + 1) = (sufN R h : Int) + 1 := IntWalk.i64_in _ (by omega)
  have HIN := Lib.hid hin
  clear hin hr
  by_cases hk : h.kind = 1
  · have hv : siteL R h = (tailH h ((sufN R h : Int) + 1)).name := by
      unfold siteL
      rw [if_neg (by simp [hk])]
    rw [hv]
    clear hv
    generalize tailH h ((sufN R h : Int) + 1) = D at *
    generalize tailOk h ((sufN R h : Int) + 1) = ok at *
    generalize sufN R h = v at *
    go_enter Tryz.func16, Tryz.ntmps16
    go_upto_region 5 with fail
    go_region_law (first | (go_simp; (first | with_reducible refine (HS.out _ (ListIn.below HIN.out (by repeat (first | exact Below.refl _ _ | assumption | refine below_grown ?_ (by first | omega | (simp [go_sem]; done) | (simp [go_sem] <;> omega)) _ | refine Below.alloc ?_ (by first | omega | (simp [go_sem]; done) | (simp [go_sem] <;> omega)) _ | refine below_bytesW ?_ (by first | omega | (simp [go_sem]; done) | (simp [go_sem] <;> omega)) _ | refine Below.drew ?_ | refine below_drewN ?_ _)))).mono ?_ | with_reducible refine (HA.out _).mono ?_); rintro e w1 ⟨rfl, hb1⟩; obtain ⟨p1, rfl⟩ := grown_of hb1; clear hb1; dsimp only))
    all_goals
      go_wp2
      go_ret
      first | exact ⟨rfl, below_setRow (by repeat (first | exact Below.refl _ _ | assumption | refine below_grown ?_ (by first | omega | (simp [go_sem]; done) | (simp [go_sem] <;> omega)) _ | refine Below.alloc ?_ (by first | omega | (simp [go_sem]; done) | (simp [go_sem] <;> omega)) _ | refine below_bytesW ?_ (by first | omega | (simp [go_sem]; done) | (simp [go_sem] <;> omega)) _ | refine Below.drew ?_ | refine below_drewN ?_ _)) (by omega) _⟩ | exact ⟨rfl, (by repeat (first | exact Below.refl _ _ | assumption | refine below_grown ?_ (by first | omega | (simp [go_sem]; done) | (simp [go_sem] <;> omega)) _ | refine Below.alloc ?_ (by first | omega | (simp [go_sem]; done) | (simp [go_sem] <;> omega)) _ | refine below_bytesW ?_ (by first | omega | (simp [go_sem]; done) | (simp [go_sem] <;> omega)) _ | refine Below.drew ?_ | refine below_drewN ?_ _))⟩
  · cases hr : rightB h
    all_goals
      have hv : siteL R h = if rightB h = true then textH h else [] := by unfold siteL; rw [if_pos hk]
      rw [hv, hr]
      rw [hr] at HRT
      clear hv hw1 HS HA hr
      generalize textH h = tx at *
      go_enter Tryz.func16, Tryz.ntmps16
      go_wp2_with (first
        | (go_at_call 32; (with_reducible refine (HRT.out _).mono ?_); rintro e w1 ⟨rfl, hb1⟩; obtain ⟨p1, rfl⟩ := grown_of hb1; clear hb1)
        | (go_at_call 19; (with_reducible refine (HX.out _).mono ?_); rintro e w1 ⟨rfl, hb1⟩; obtain ⟨p1, rfl⟩ := grown_of hb1; clear hb1))
      go_ret
      exact ⟨rfl, (by repeat (first | exact Below.refl _ _ | assumption | refine below_grown ?_ (by first | omega | (simp [go_sem]; done) | (simp [go_sem] <;> omega)) _ | refine Below.alloc ?_ (by first | omega | (simp [go_sem]; done) | (simp [go_sem] <;> omega)) _ | refine below_bytesW ?_ (by first | omega | (simp [go_sem]; done) | (simp [go_sem] <;> omega)) _ | refine Below.drew ?_ | refine below_drewN ?_ _))⟩
end

section
open Go Go.RowKit
set_option maxRecDepth 20000
set_option linter.unusedSimpArgs false
set_option linter.unusedVariables false

def nmH (s : List UInt8) (h : s.length ≤ maxLen) : GHost := ⟨1, s, zeroA, rfl, h⟩
theorem nmH_name {s : List UInt8} (h : s.length ≤ 253) (h' : s.length ≤ maxLen) : nameH s = nmH s h' := nameH_eq h
theorem name_any (s : List UInt8) (h : s.length ≤ maxLen) (w : World) :
    Calls Tryz.prog 20 #[.string ⟨s.toArray⟩] w fun e w' => e = .returned (.agg (hostC (nmH s h))) ∧ Below w.heap.size w w' := by
  have hv : hostC (nmH s h) = nameV s := rfl
  rw [hv]
  go_enter Tryz.func20, Tryz.ntmps20
  go_wp2
  exact ret_cell w.heap.size (nameV s) rfl rfl agg_host (by simp [go_sem]) (by simp [go_sem]) rfl ⟨rfl, by first | exact below_setRow (by repeat (first | exact Below.refl _ _ | assumption | refine below_grown ?_ (by first | omega | (simp [go_sem]; done) | (simp [go_sem] <;> omega)) _ | refine Below.alloc ?_ (by first | omega | (simp [go_sem]; done) | (simp [go_sem] <;> omega)) _ | refine below_bytesW ?_ (by first | omega | (simp [go_sem]; done) | (simp [go_sem] <;> omega)) _ | refine Below.drew ?_ | refine below_drewN ?_ _)) (by omega) _ | exact (by repeat (first | exact Below.refl _ _ | assumption | refine below_grown ?_ (by first | omega | (simp [go_sem]; done) | (simp [go_sem] <;> omega)) _ | refine Below.alloc ?_ (by first | omega | (simp [go_sem]; done) | (simp [go_sem] <;> omega)) _ | refine below_bytesW ?_ (by first | omega | (simp [go_sem]; done) | (simp [go_sem] <;> omega)) _ | refine Below.drew ?_ | refine below_drewN ?_ _))⟩
def greatB (R : List GRule) (h : GHost) : Bool := R.any (fun r => decide (400 < r.2.length)) || (decide (60 < R.length) || decide (400 < h.name.length))
theorem great_no {R : List GRule} {h : GHost} (hg : greatB R h = false) : (∀ r ∈ R, r.2.length ≤ 400) ∧ R.length ≤ 60 ∧ h.name.length ≤ 400 := by
  unfold greatB at hg
  simp only [Bool.or_eq_false_iff, decide_eq_false_iff_not] at hg
  obtain ⟨h1, h2, h3⟩ := hg
  refine ⟨fun r hr => ?_, by omega, by omega⟩
  rw [List.any_eq_false] at h1
  have := h1 r hr
  simpa using this
set_option maxHeartbeats 4000000 in
theorem great_any (R : List GRule) (h : GHost) (a : Option Addr) (ca la : Nat) (hR : R.length ≤ 9223372036854775807) (w : World) (hin : ListIn ruleCod w a R la) :
    Calls Tryz.prog 9 #[.slice a R.length ca, .agg (hostC h)] w fun e w' => e = .returned (.bool (greatB R h)) ∧ Below w.heap.size w w' := by
  have HIN := Lib.hid hin
  clear hin
  obtain ⟨V, hV⟩ : ∃ V, greatB R h = V := ⟨_, rfl⟩
  rw [hV]
  have HVV := Lib.hid hV
  clear hV
  go_enter Tryz.func9, Tryz.ntmps9
  go_upto_region 2 with fail
  have HV3 : Hid (Var (w.alloc (Obj.cells (hostC h) 26)) w.heap.size (hostL h)) := Var.new w _ _ rfl rfl
  have HB1 : Hid (Below w.heap.size w (w.alloc (Obj.cells (hostC h) 26))) := (Below.refl _ _).alloc (Nat.le_refl _) _
  have hs1 : (w.alloc (Obj.cells (hostC h) 26)).heap.size = w.heap.size + 1 := by simp
  generalize (w.alloc (Obj.cells (hostC h) 26)) = w1 at *
  go_loopw [9] (fun i wr => ∃ k : Nat, k ≤ R.length ∧ i = .int .i64 k ∧ Below w1.heap.size w1 wr ∧ Hid (∀ r ∈ R.take k, r.2.length ≤ 400)) (fun i _ => R.length - (intOf i).toNat)
  case atStart => exact ⟨0, Nat.zero_le _, rfl, Below.refl _ _, fun r h => by cases h⟩
  case round =>
    obtain ⟨k, hk, rfl, hbr, HK⟩ := hrel
    have hrs := hbr.size
    have HBE : Hid (Below w.heap.size w wr) := HB1.out.trans (hbr.mono (by omega))
    have HBR := Lib.hid hbr
    clear hbr
    by_cases hlt : k < R.length
    · obtain ⟨b, o, rfl, hlo, hhi, hat⟩ := HIN.out.resolve_left (fun h => by subst h; exact absurd hlt (Nat.not_lt_zero _))
      obtain ⟨r1, q1⟩ := ruleRow (hat.below HBE.out) k hlt
      have HMEM := Lib.hid (List.getElem_mem hlt)
      have HTK := Lib.hid (List.take_succ_eq_append_getElem hlt)
      have hio : isOld b wr = true := isOld_iff.2 (by have := HBE.out.size; omega)
      have hki : (k : Int) < (R.length : Int) := by omega
      have hwk : IntKind.i64.wrap ((k : Int) + 1) = (k : Int) + 1 := IntWalk.i64_in _ (by omega)
      clear hat
      generalize R[k]'hlt = r at *
      obtain ⟨rk, rn⟩ := r
      dsimp only at q1
      by_cases hb : (400 : Int) < (rn.length : Int)
      · have hv : V = true := by
          rw [← HVV.out]
          unfold greatB
          rw [Bool.or_eq_true]
          left
          rw [List.any_eq_true]
          exact ⟨_, HMEM.out, by simp; omega⟩
        subst hv
        go_wp2
        go_ret
        have hbe := HBE.out
        exact ⟨rfl, (by repeat (first | exact Below.refl _ _ | assumption | refine below_grown ?_ (by first | omega | (simp [go_sem]; done) | (simp [go_sem] <;> omega)) _ | refine Below.alloc ?_ (by first | omega | (simp [go_sem]; done) | (simp [go_sem] <;> omega)) _ | refine below_bytesW ?_ (by first | omega | (simp [go_sem]; done) | (simp [go_sem] <;> omega)) _ | refine Below.drew ?_ | refine below_drewN ?_ _))⟩
      · have HK2 : Hid (∀ r ∈ R.take (k + 1), r.2.length ≤ 400) := fun r hr => by
          rw [HTK.out] at hr
          rcases List.mem_append.1 hr with hr | hr
          · exact HK.out r hr
          · rw [List.mem_singleton] at hr; subst hr; show rn.length ≤ 400; omega
        clear HTK HMEM
        go_wp2
        go_roundw
        case rel => exact ⟨k + 1, by omega, by go_num, by (have hbr := HBR.out; exact (by repeat (first | exact Below.refl _ _ | assumption | refine below_grown ?_ (by first | omega | (simp [go_sem]; done) | (simp [go_sem] <;> omega)) _ | refine Below.alloc ?_ (by first | omega | (simp [go_sem]; done) | (simp [go_sem] <;> omega)) _ | refine below_bytesW ?_ (by first | omega | (simp [go_sem]; done) | (simp [go_sem] <;> omega)) _ | refine Below.drew ?_ | refine below_drewN ?_ _))), HK2.out⟩
        case measure => first | (simp [intOf]; done) | (simp [intOf]; omega)
    · obtain rfl : k = R.length := by omega
      rw [List.take_length] at HK
      have hv : V = (decide (60 < R.length) || decide (400 < h.name.length)) := by
        rw [← HVV.out]
        unfold greatB
        have : R.any (fun r => decide (400 < r.2.length)) = false := by
          rw [List.any_eq_false]
          intro r hr
          have := HK.out r hr
          simp; omega
        rw [this]; rfl
      have h31 : wr.cell? ⟨w.heap.size, 1, none⟩ = some (.string ⟨h.name.toArray⟩) := (HV3.out.below HBR.out).cell 1 (by simp [hostL])
      by_cases h60 : (60 : Int) < (R.length : Int)
      · have hv2 : V = true := by rw [hv, decide_eq_true (by omega)]; rfl
        subst hv2
        clear hv
        go_wp2
        go_ret
        have hbe := HBE.out
        exact ⟨rfl, (by repeat (first | exact Below.refl _ _ | assumption | refine below_grown ?_ (by first | omega | (simp [go_sem]; done) | (simp [go_sem] <;> omega)) _ | refine Below.alloc ?_ (by first | omega | (simp [go_sem]; done) | (simp [go_sem] <;> omega)) _ | refine below_bytesW ?_ (by first | omega | (simp [go_sem]; done) | (simp [go_sem] <;> omega)) _ | refine Below.drew ?_ | refine below_drewN ?_ _))⟩
      · have hv2 : V = decide ((400 : Int) < (h.name.length : Int)) := by
          rw [hv, decide_eq_false (by omega), Bool.false_or, Bool.eq_iff_iff, decide_eq_true_eq, decide_eq_true_eq]; omega
        subst hv2
        clear hv
        go_wp2
        go_ret
        have hbe := HBE.out
        exact ⟨by first | rfl | exact ret_bool (by simp), (by repeat (first | exact Below.refl _ _ | assumption | refine below_grown ?_ (by first | omega | (simp [go_sem]; done) | (simp [go_sem] <;> omega)) _ | refine Below.alloc ?_ (by first | omega | (simp [go_sem]; done) | (simp [go_sem] <;> omega)) _ | refine below_bytesW ?_ (by first | omega | (simp [go_sem]; done) | (simp [go_sem] <;> omega)) _ | refine Below.drew ?_ | refine below_drewN ?_ _))⟩
def exRu : List GRule := [(1, [99, 111, 109]), (2, [99, 107]), (3, [119, 119, 119, 46, 99, 107])]
theorem ex_suf : siteL exRu (nameH [97, 46, 98, 46, 99, 111, 109]) = [98, 46, 99, 111, 109] ∧ siteL exRu (nameH [119, 119, 119, 46, 99, 107]) = [119, 119, 119, 46, 99, 107] ∧ pubB exRu (nameH [97, 46, 99, 107]) = true ∧ pubB exRu (nameH [120, 121, 122]) = true := by decide +kernel
theorem TabOk.of {R : List GRule} {w w' : World} {e : Ending} (h : TabGives R w e w') : ∃ bt, e = .returned (.pointer (some ⟨bt, 0, none⟩)) ∧ TabOk R bt w' ∧ Below w.heap.size w w' := by
  obtain ⟨T, bt, bm, ends, h1, h2, h3, h4, h5⟩ := h
  exact ⟨bt, h1, ⟨T, bm, ends, _, h2, h3, h4⟩, h5⟩
theorem exRu_at {w : World} {c : Array Value} {t : TypeId} (hc : c.toList = ruleCod.encs exRu) : ListIn ruleCod (w.alloc (.cells c t)) (some ⟨w.heap.size, 0, none⟩) exRu 0 :=
  .inr ⟨w.heap.size, 0, rfl, Nat.zero_le _, by simp, listAt_new w _ exRu _ hc rfl⟩
set_option maxRecDepth 100000 in
set_option maxHeartbeats 4000000 in
theorem sufAlive_any (m : Int) (w : World) (hm : HasMax m w) (htz : HasTz w) (hd : HasDec w) :
    Calls Tryz.prog 8 #[] w fun e w' => e = .returned (.bool true) ∧ Below w.heap.size w w' := by
  have HN : Hid (∀ w a ca, ListIn ruleCod w a exRu 0 → HasMax m w → HasTz w → HasDec w → Calls Tryz.prog 10 #[.slice a 3 ca] w (TabGives exRu w)) := fun w a ca x y z v => new_any exRu a ca 0 (by decide) (by decide) m w x y z v
  have HNM : Hid (∀ (s : List UInt8) (h : s.length ≤ 253) w, Calls Tryz.prog 20 #[.string ⟨s.toArray⟩] w fun e w' => e = .returned (.agg (hostC (nameH s))) ∧ Below w.heap.size w w') := fun s h w => by
    have h' : s.length ≤ maxLen := Nat.le_trans h (by decide)
    rw [nmH_name h h']
    exact name_any s h' w
  have HST : Hid (∀ bt (s : List UInt8) w, TabOk exRu bt w → HasMax m w → HasTz w → HasDec w → s.length ≤ 253 → Calls Tryz.prog 15 #[.pointer (some ⟨bt, 0, none⟩), .agg (hostC (nameH s))] w fun e w' => e = .returned (.string ⟨(siteL exRu (nameH s)).toArray⟩) ∧ Below w.heap.size w w') := fun bt s w x a b c hs => site_tab exRu (nameH s) (by rw [(nameH_name hs).2.1]; omega) bt m w x a b c
  have HPB : Hid (∀ bt (s : List UInt8) w, TabOk exRu bt w → HasMax m w → HasTz w → HasDec w → s.length ≤ 253 → Calls Tryz.prog 13 #[.pointer (some ⟨bt, 0, none⟩), .agg (hostC (nameH s))] w fun e w' => e = .returned (.bool (pubB exRu (nameH s))) ∧ Below w.heap.size w w') := fun bt s w x a b c hs => public_tab exRu (nameH s) (by rw [(nameH_name hs).2.1]; omega) bt m w x a b c
  obtain ⟨x1, x2, x3, x4⟩ := ex_suf
  have HS1 : Hid (∀ bt w, TabOk exRu bt w → HasMax m w → HasTz w → HasDec w → Calls Tryz.prog 15 #[.pointer (some ⟨bt, 0, none⟩), .agg (hostC (nameH [97, 46, 98, 46, 99, 111, 109]))] w fun e w' => e = .returned (.string ⟨[98, 46, 99, 111, 109].toArray⟩) ∧ Below w.heap.size w w') := fun bt w x a b c => by
    have := HST.out bt [97, 46, 98, 46, 99, 111, 109] w x a b c (by decide)
    rwa [x1] at this
  have HS2 : Hid (∀ bt w, TabOk exRu bt w → HasMax m w → HasTz w → HasDec w → Calls Tryz.prog 15 #[.pointer (some ⟨bt, 0, none⟩), .agg (hostC (nameH [119, 119, 119, 46, 99, 107]))] w fun e w' => e = .returned (.string ⟨[119, 119, 119, 46, 99, 107].toArray⟩) ∧ Below w.heap.size w w') := fun bt w x a b c => by
    have := HST.out bt [119, 119, 119, 46, 99, 107] w x a b c (by decide)
    rwa [x2] at this
  have HP1 : Hid (∀ bt w, TabOk exRu bt w → HasMax m w → HasTz w → HasDec w → Calls Tryz.prog 13 #[.pointer (some ⟨bt, 0, none⟩), .agg (hostC (nameH [97, 46, 99, 107]))] w fun e w' => e = .returned (.bool true) ∧ Below w.heap.size w w') := fun bt w x a b c => by
    have := HPB.out bt [97, 46, 99, 107] w x a b c (by decide)
    rwa [x3] at this
  have HP2 : Hid (∀ bt w, TabOk exRu bt w → HasMax m w → HasTz w → HasDec w → Calls Tryz.prog 13 #[.pointer (some ⟨bt, 0, none⟩), .agg (hostC (nameH [120, 121, 122]))] w fun e w' => e = .returned (.bool true) ∧ Below w.heap.size w w') := fun bt w x a b c => by
    have := HPB.out bt [120, 121, 122] w x a b c (by decide)
    rwa [x4] at this
  clear x1 x2 x3 x4 HST HPB
  have HM1 := Lib.hid (HNM.out [97, 46, 98, 46, 99, 111, 109] (by decide))
  have HM2 := Lib.hid (HNM.out [119, 119, 119, 46, 99, 107] (by decide))
  have HM3 := Lib.hid (HNM.out [97, 46, 99, 107] (by decide))
  have HM4 := Lib.hid (HNM.out [120, 121, 122] (by decide))
  clear HNM
  generalize hN1 : nameH [97, 46, 98, 46, 99, 111, 109] = N1 at *
  generalize hN2 : nameH [119, 119, 119, 46, 99, 107] = N2 at *
  generalize hN3 : nameH [97, 46, 99, 107] = N3 at *
  generalize hN4 : nameH [120, 121, 122] = N4 at *
  clear hN1 hN2 hN3 hN4
  go_enter Tryz.func8, Tryz.ntmps8
  go_upto_region 2 with (go_at_call 10; (with_reducible refine (HN.out _ _ _ (exRu_at (by kernel_rfl)) (by repeat (first | exact hm | apply HasMax.grown | apply HasMax.alloc | apply HasMax.drew)) (by repeat (first | exact htz | apply HasTz.grown | apply HasTz.alloc | apply HasTz.drew)) (by repeat (first | exact hd | apply HasDec.grown | apply HasDec.alloc | apply HasDec.drew))).mono ?_); intro e w2 hg; obtain ⟨bt, rfl, htab, hb2⟩ := TabOk.of hg; have HTAB := Lib.hid htab; have HBW := Lib.hid (bel_up (w := w) (by repeat (first | exact Below.refl _ _ | assumption | refine below_grown ?_ (by first | omega | (simp [go_sem]; done) | (simp [go_sem] <;> omega)) _ | refine Below.alloc ?_ (by first | omega | (simp [go_sem]; done) | (simp [go_sem] <;> omega)) _ | refine below_bytesW ?_ (by first | omega | (simp [go_sem]; done) | (simp [go_sem] <;> omega)) _ | refine Below.drew ?_ | refine below_drewN ?_ _)) hb2); clear hg htab hb2)
  have hbt := HTAB.out.lt
  have hm2 := hm.below HBW.out
  have ht2 := htz.below HBW.out
  have hd2 := hd.below HBW.out
  have hsz := HBW.out.size
  clear hm htz hd
  have hm := hm2
  have htz := ht2
  have hd := hd2
  go_wp2_with (first
    | (go_at_call 20; (first | with_reducible refine (HM1.out _).mono ?_ | with_reducible refine (HM2.out _).mono ?_ | with_reducible refine (HM3.out _).mono ?_ | with_reducible refine (HM4.out _).mono ?_); rintro e w1 ⟨rfl, hb1⟩; obtain ⟨p1, rfl⟩ := grown_of hb1; clear hb1)
    | (go_at_call 15; (first | with_reducible refine (HS1.out _ _ (TabOk.below HTAB.out (by repeat (first | exact Below.refl _ _ | assumption | refine below_grown ?_ (by first | omega | (simp [go_sem]; done) | (simp [go_sem] <;> omega)) _ | refine Below.alloc ?_ (by first | omega | (simp [go_sem]; done) | (simp [go_sem] <;> omega)) _ | refine below_bytesW ?_ (by first | omega | (simp [go_sem]; done) | (simp [go_sem] <;> omega)) _ | refine Below.drew ?_ | refine below_drewN ?_ _))) (by repeat (first | exact hm | apply HasMax.grown | apply HasMax.alloc | apply HasMax.drew)) (by repeat (first | exact htz | apply HasTz.grown | apply HasTz.alloc | apply HasTz.drew)) (by repeat (first | exact hd | apply HasDec.grown | apply HasDec.alloc | apply HasDec.drew))).mono ?_ | with_reducible refine (HS2.out _ _ (TabOk.below HTAB.out (by repeat (first | exact Below.refl _ _ | assumption | refine below_grown ?_ (by first | omega | (simp [go_sem]; done) | (simp [go_sem] <;> omega)) _ | refine Below.alloc ?_ (by first | omega | (simp [go_sem]; done) | (simp [go_sem] <;> omega)) _ | refine below_bytesW ?_ (by first | omega | (simp [go_sem]; done) | (simp [go_sem] <;> omega)) _ | refine Below.drew ?_ | refine below_drewN ?_ _))) (by repeat (first | exact hm | apply HasMax.grown | apply HasMax.alloc | apply HasMax.drew)) (by repeat (first | exact htz | apply HasTz.grown | apply HasTz.alloc | apply HasTz.drew)) (by repeat (first | exact hd | apply HasDec.grown | apply HasDec.alloc | apply HasDec.drew))).mono ?_); rintro e w1 ⟨rfl, hb1⟩; obtain ⟨p1, rfl⟩ := grown_of hb1; clear hb1)
    | (go_at_call 13; (first | with_reducible refine (HP1.out _ _ (TabOk.below HTAB.out (by repeat (first | exact Below.refl _ _ | assumption | refine below_grown ?_ (by first | omega | (simp [go_sem]; done) | (simp [go_sem] <;> omega)) _ | refine Below.alloc ?_ (by first | omega | (simp [go_sem]; done) | (simp [go_sem] <;> omega)) _ | refine below_bytesW ?_ (by first | omega | (simp [go_sem]; done) | (simp [go_sem] <;> omega)) _ | refine Below.drew ?_ | refine below_drewN ?_ _))) (by repeat (first | exact hm | apply HasMax.grown | apply HasMax.alloc | apply HasMax.drew)) (by repeat (first | exact htz | apply HasTz.grown | apply HasTz.alloc | apply HasTz.drew)) (by repeat (first | exact hd | apply HasDec.grown | apply HasDec.alloc | apply HasDec.drew))).mono ?_ | with_reducible refine (HP2.out _ _ (TabOk.below HTAB.out (by repeat (first | exact Below.refl _ _ | assumption | refine below_grown ?_ (by first | omega | (simp [go_sem]; done) | (simp [go_sem] <;> omega)) _ | refine Below.alloc ?_ (by first | omega | (simp [go_sem]; done) | (simp [go_sem] <;> omega)) _ | refine below_bytesW ?_ (by first | omega | (simp [go_sem]; done) | (simp [go_sem] <;> omega)) _ | refine Below.drew ?_ | refine below_drewN ?_ _))) (by repeat (first | exact hm | apply HasMax.grown | apply HasMax.alloc | apply HasMax.drew)) (by repeat (first | exact htz | apply HasTz.grown | apply HasTz.alloc | apply HasTz.drew)) (by repeat (first | exact hd | apply HasDec.grown | apply HasDec.alloc | apply HasDec.drew))).mono ?_); rintro e w1 ⟨rfl, hb1⟩; obtain ⟨p1, rfl⟩ := grown_of hb1; clear hb1))
  go_ret
  have hbw := HBW.out
  exact ⟨by first | rfl | exact ret_bool (by simp), (by repeat (first | exact Below.refl _ _ | assumption | refine below_grown ?_ (by first | omega | (simp [go_sem]; done) | (simp [go_sem] <;> omega)) _ | refine Below.alloc ?_ (by first | omega | (simp [go_sem]; done) | (simp [go_sem] <;> omega)) _ | refine below_bytesW ?_ (by first | omega | (simp [go_sem]; done) | (simp [go_sem] <;> omega)) _ | refine Below.drew ?_ | refine below_drewN ?_ _))⟩
end

section
open Go Go.RowKit Go.WideShapes Go.ChangeShapes
set_option maxRecDepth 20000
set_option linter.unusedSimpArgs false
set_option linter.unusedVariables false

section
variable {H : Type} {enc : TypeId × Value → H} {w : World} {base : Nat} {spare : Nat → Bool} {held : Bool}
theorem fits_rule {r : Reach} {vs : List Value} (h : RowFits Tryz.prog w r base [3, 9] vs) : ∃ u : GRule, vs = ruleR u.1 u.2 ∧ (Lit.int .i64 u.1).wf = true ∧ u.2.length ≤ maxLen := by
  obtain ⟨v0, vs, rfl, h0, h⟩ := rowFits_cons h
  obtain ⟨v1, vs, rfl, h1, h⟩ := rowFits_cons h
  obtain rfl := rowFits_nil h
  obtain ⟨k, rfl, g0⟩ := cell_int Tryz.underlying3 h0
  obtain ⟨n, rfl, g1⟩ := cell_str Tryz.underlying9 h1
  exact ⟨(k, n), rfl, g0, g1⟩
theorem trod_rule {fuel : Nat} {cs : List Value} {x : DataW H × List MemPlace} (h : DataW.trod enc Tryz.prog w base spare held fuel 50 cs = some x) : RowFits Tryz.prog w .any 0 [3, 9] cs := by
  have := struct_fit [[3], [9]] Tryz.underlying50 (by kernel_rfl) (by kernel_rfl) ⟨fun _ _ _ h => leaf_int Tryz.underlying3 h, fun _ _ _ h => leaf_str Tryz.underlying9 h, trivial⟩ h
  simpa using this
theorem open_rulesS {v : Value} {x : DataW H × List MemPlace} {r : Reach} {b : Nat} (hv : Value.okWide Tryz.prog w r b 22 v) (h : ∃ fuel, DataW.trod enc Tryz.prog w base spare held fuel 22 v.cells.toList = some x) :
    ∃ (a : Option Addr) (xs : List GRule) (cap : Nat), v = .slice a xs.length cap ∧ xs.length ≤ cap ∧ cap ≤ maxLen ∧ ListIn ruleCod w a xs 0 ∧ ∀ u ∈ xs, (Lit.int .i64 u.1).wf = true ∧ u.2.length ≤ maxLen := by
  obtain ⟨fuel, h⟩ := h
  refine open_slice ruleCod (fun u => (Lit.int .i64 u.1).wf = true ∧ u.2.length ≤ maxLen) (by kernel_rfl) (fun f cs y hy => ?_) hv h
  obtain ⟨u, rfl, h1, h2⟩ := fits_rule (trod_rule hy)
  exact ⟨u, rfl, h1, h2⟩
end
end
end Go.Proofs.YtmfjabpmhkechaaGreatDoor
