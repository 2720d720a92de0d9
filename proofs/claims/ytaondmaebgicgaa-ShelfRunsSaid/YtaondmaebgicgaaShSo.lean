/- The library's sort of cookies by their numbers. -/
import Derived.Test.YtaondmaebgicgaaShSort
import Derived.Test.YtaondmaebgicgaaShL
import Derived.Test.YtaondmaebgicgaaShW
namespace Go.Proofs.Ytaondmaebgicgaa
open Go Go.RowKit
set_option maxRecDepth 20000
set_option linter.unusedSimpArgs false
set_option linter.unusedVariables false

theorem cookie_info : (Try.prog.info? 31).map (fun i => (i.zero, i.size, i.bytes)) = some (some (.agg (cookieC zeroCk)), 29, 144) := by kernel_rfl
def cookCod : Cod GCookie where
  E := 31
  S := 38
  sz := 29
  bys := 144
  z := .agg (cookieC zeroCk)
  enc := cookieL
  und := Try.underlying38
  info := cookie_info
  zsz := by show (cookieC zeroCk).size = 29; exact cookieC_size _
  pos := by decide
  len := cookieL_length
  one := cookie_one
/-- A cookie whose number is fair. -/
abbrev SC := { c : GCookie // 0 ≤ c.seq ∧ c.seq < 4611686018427387904 }
instance : Inhabited SC := ⟨⟨zeroCk, by decide⟩⟩
def encSC (x : SC) : List Value := cookieL x.1
def cfSC (x y : SC) : Int := x.1.seq - y.1.seq
theorem ltSC (x y : SC) : ltOf cfSC x y = decide (x.1.seq < y.1.seq) := by
  have e : (cfSC x y < 0) = (x.1.seq < y.1.seq) := by apply propext; unfold cfSC; constructor <;> intro h <;> omega
  unfold ltOf
  rw [decide_eq_decide]
  rw [e]
theorem swoSC : Go.Sort.SWO (ltOf cfSC) where
  irrefl x := by rw [ltSC]; simp
  trans x y z h1 h2 := by rw [ltSC, decide_eq_true_eq] at *; omega
  ntrans x y z h1 h2 := by rw [ltSC, decide_eq_false_iff_not] at *; omega
theorem cmp_any (x y : SC) (w : World) : Calls Try.prog 23 #[.agg (cookieC x.1), .agg (cookieC y.1)] w fun e w' => e = .returned (.int .i64 (x.1.seq - y.1.seq)) ∧ ∃ q os', w' = Go.Sort.grow (w.drewN q) os' := by
  have h1 := x.2
  have h2 := y.2
  have hw : IntKind.i64.wrap (x.1.seq - y.1.seq) = x.1.seq - y.1.seq := by simp [IntKind.wrap, IntKind.bits, IntKind.signed]; omega
  go_enter Try.func23, Try.ntmps23
  go_wp2
  go_ret
  refine ⟨?_, 0, _, by rw [Go.Sort.alloc_eq_grow, Go.Sort.alloc_eq_grow, Go.Sort.grow_grow]; rfl⟩
  rfl
theorem get_some {α : Type} [Inhabited α] {a : Array α} {i : Nat} {x : α} (h : a[i]? = some x) : a[i]! = x := by
  rw [Array.getElem!_eq_getD, Array.getD_eq_getD_getElem?, h]; rfl
theorem getl_some {α : Type} [Inhabited α] {a : List α} {i : Nat} {x : α} (h : a[i]? = some x) : a[i]! = x := by
  rw [List.getElem!_eq_getElem?_getD, h]; rfl
theorem holds_of {w : World} {blk : Nat} {d : List SC} (h : ListAt cookCod w blk 0 (d.map (·.1))) (hf : ∀ j, w.frozen? ⟨blk, j, none⟩ = false) : Go.Sort.HoldsK encSC 29 w blk 0 d.toArray := by
  intro j hj
  rw [Go.Sort.size_flatK] at hj
  rw [List.size_toArray] at hj
  refine ⟨?_, hf _⟩
  have h1 : j / 29 < d.length := by omega
  have h2 : j % 29 < 29 := Nat.mod_lt _ (by decide)
  have hl : j % 29 < (cookieL (d[j / 29]'h1).1).length := by rw [cookieL_length]; exact h2
  have hg : (cookieL (d[j / 29]'h1).1)[j % 29]? = some ((cookieL (d[j / 29]'h1).1)[j % 29]'hl) := List.getElem?_eq_getElem hl
  rw [Go.Sort.get_flatK _ _ _ _ (by simpa using hj)]
  have e1 : d.toArray[j / 29]! = d[j / 29]'h1 := get_some (by simp [h1])
  rw [e1]
  show w.cell? ⟨blk, 0 + j, none⟩ = some (encSC (d[j / 29]'h1))[j % 29]!
  rw [show encSC (d[j / 29]'h1) = cookieL (d[j / 29]'h1).1 from rfl, getl_some hg]
  have := h.get (j / 29) (by simpa using h1) (j % 29) ((cookieL (d[j / 29]'h1).1)[j % 29]'hl) (by
    show (cookieL _)[j % 29]? = _
    rw [List.getElem_map]
    exact hg)
  have e2 : 0 + (j / 29 * cookCod.sz + j % 29) = 0 + j := by show 0 + (j / 29 * 29 + j % 29) = 0 + j; omega
  rw [e2] at this
  exact this
theorem of_holds {w : World} {blk : Nat} {d : List SC} (h : Go.Sort.HoldsK encSC 29 w blk 0 d.toArray) : ListAt cookCod w blk 0 (d.map (·.1)) := by
  intro j u hu
  have hl : j < (cookCod.encs (d.map (·.1))).length := (List.getElem?_eq_some_iff.1 hu).1
  rw [cookCod.encs_length, List.length_map] at hl
  have hl' : j < d.length * 29 := hl
  have h1 : j / 29 < d.length := by omega
  have h2 : j % 29 < 29 := Nat.mod_lt _ (by decide)
  have e : (cookCod.encs (d.map (·.1)))[j / 29 * 29 + j % 29]? = (cookieL (d[j / 29]'h1).1)[j % 29]? := by
    have := cookCod.encs_get (d.map (·.1)) (j / 29) (by simpa using h1) (j % 29) h2
    rw [List.getElem_map] at this
    exact this
  rw [show j / 29 * 29 + j % 29 = j by omega] at e
  rw [hu] at e
  have := (h j (by rw [Go.Sort.size_flatK, List.size_toArray]; exact hl')).1
  rw [Go.Sort.get_flatK _ _ _ _ (by simpa using hl')] at this
  have e1 : d.toArray[j / 29]! = d[j / 29]'h1 := get_some (by simp [h1])
  rw [e1, show encSC (d[j / 29]'h1) = cookieL (d[j / 29]'h1).1 from rfl, getl_some e.symm] at this
  exact this
theorem keeps_sortWorld (w : World) (blk off m : Nat) (dk : Array SC) (os : Array Obj) : Keeps (fun j => j = blk) w (sortWorldK encSC 29 w blk off m dk os) := by
  refine ⟨rfl, rfl, rfl, ?_, ?_⟩
  · simp [sortWorldK, Go.Sort.grow, Go.Sort.putRowK, Go.Sort.putRow, Go.Sort.mapBlock, Go.Sort.ahead]
  · intro k hk hn
    simp only [sortWorldK, Go.Sort.grow, Go.Sort.putRowK, Go.Sort.putRow, Go.Sort.mapBlock, Go.Sort.ahead]
    rw [Array.getElem?_append_left (by simpa using hk), Array.getElem?_modify, if_neg (fun e => hn e.symm)]
theorem sort_any (d : List SC) (blk cap : Nat) (w : World) (h : ListAt cookCod w blk 0 (d.map (·.1))) (hf : ∀ j, w.frozen? ⟨blk, j, none⟩ = false) (hblk : blk < w.heap.size) (hsz : d.length < 4611686018427387904) :
    Calls Try.prog 22 #[.slice (some ⟨blk, 0, none⟩) d.length cap, .func (.func 23) #[] #[]] w fun e w' => e = .returned (.tuple #[]) ∧ ∃ d' : List SC, d'.Perm d ∧ d'.Pairwise (fun a b => a.1.seq ≤ b.1.seq) ∧ ListAt cookCod w' blk 0 (d'.map (·.1)) ∧ Keeps (fun j => j = blk) w w' := by
  have hH := holds_of h hf
  have hcon := AnyQ.slices_SortFunc Try.sortCk 29 (fun w => (isAggT_run agg_cookie w).1) (fun w => (isAggT_run agg_cookie w).2) encSC (fun x => cookieL_length _) (fun x => cookie_one _) cfSC swoSC 23 #[] blk 0 cap d.toArray w (enters_of Try.func23 (by kernel_rfl) rfl) (fun m os dk hs x y => cmp_any x y _) hH hblk (by simpa using hsz)
  rw [List.size_toArray] at hcon
  refine Calls.mono hcon ?_
  rintro e w' ⟨he, d', n, os, hp, hs, rfl⟩
  have hsz' : d'.size = d.length := by simpa using hp.1
  refine ⟨he, d'.toList, ?_, ?_, ?_, keeps_sortWorld _ _ _ _ _ _⟩
  · have h3 := hp.2.2
    have e1 : d'.extract 0 d.length = d' := by rw [← hsz']; simp
    have e2 : d.toArray.extract 0 d.length = d.toArray := by
      have := (Array.extract_size (xs := d.toArray)); rwa [List.size_toArray] at this
    rw [e1, e2] at h3
    simpa using h3
  · rw [List.pairwise_iff_getElem]
    intro i j hi hj hij
    have h4 := hs i j (Nat.zero_le _) hij (by rw [← hsz']; simpa using hj)
    rw [ltSC, decide_eq_false_iff_not] at h4
    have g1 : d'[i]! = d'.toList[i]'hi := get_some (by rw [← Array.getElem?_toList]; exact List.getElem?_eq_getElem hi)
    have g2 : d'[j]! = d'.toList[j]'hj := get_some (by rw [← Array.getElem?_toList]; exact List.getElem?_eq_getElem hj)
    rw [g1, g2] at h4
    omega
  · exact of_holds (by simpa using holdsK_sortWorldK_c encSC 29 w blk 0 d.toArray d' n os hH hblk (by simpa using hsz'))
end Go.Proofs.Ytaondmaebgicgaa
