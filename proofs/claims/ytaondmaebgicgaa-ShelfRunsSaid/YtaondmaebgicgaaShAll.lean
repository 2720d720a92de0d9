/- The shelf's All walked. -/
import Derived.Test.YtaondmaebgicgaaShV
import Derived.Test.YtaondmaebgicgaaShSo
import Derived.Test.YtaondmaebgicgaaShOld
import Derived.Test.YtaondmaebgicgaaBuildS
namespace Go.Proofs.Ytaondmaebgicgaa
open Go Go.RowKit Go.Shelf
set_option maxRecDepth 20000
set_option linter.unusedSimpArgs false
set_option linter.unusedVariables false

theorem sorted_one : ∀ {l l' : List GCookie}, l'.Perm l → l.Pairwise (fun a b => a.seq < b.seq) → l'.Pairwise (fun a b => a.seq ≤ b.seq) → l' = l
  | [], l', hp, _, _ => hp.eq_nil
  | x :: t, [], hp, _, _ => by have := hp.length_eq; simp at this
  | x :: t, y :: s, hp, h1, h2 => by
    have g1 := List.pairwise_cons.1 h1
    have g2 := List.pairwise_cons.1 h2
    have e : y = x := by
      have hy : y ∈ x :: t := hp.subset (by simp)
      have hx : x ∈ y :: s := hp.symm.subset (by simp)
      rcases List.mem_cons.1 hy with hy | hy
      · exact hy
      · rcases List.mem_cons.1 hx with hx | hx
        · exact hx.symm
        · have a1 := g1.1 y hy
          have a2 := g2.1 x hx
          omega
    subst e
    rw [sorted_one (List.perm_cons y |>.1 hp) g1.2 g2.2]
theorem toSC (l : List GCookie) (h : ∀ c ∈ l, 0 ≤ c.seq ∧ c.seq < 4611686018427387904) : ∃ d : List SC, d.map (·.1) = l := by
  refine ⟨l.pmap (fun c hc => (⟨c, hc⟩ : SC)) h, ?_⟩
  rw [List.map_pmap]
  simp
/-- What All hands back: the list's cookies, in memory of its own. -/
def AllPost (W : List GKept) (w : World) (e : Ending) (w' : World) : Prop := Gives cookCod (W.map (·.1)) w e w'
set_option maxRecDepth 100000 in
set_option maxHeartbeats 4000000 in
theorem shAll_any (W : List GKept) (last : Nat) (hO : OkW W last) (hlast : last < 1073741824) (hW : W.length < 1073741824) (B bs ba bi : Nat) (w : World) (h : ShR w bs ba bi W last B) :
    Calls Try.prog 12 #[.pointer (some ⟨bs, 0, none⟩)] w (AllPost W w) := by
  obtain ⟨POST, hpost⟩ : ∃ POST : Ending → World → Prop, AllPost W w = POST := ⟨_, rfl⟩
  rw [hpost]
  have HPOST := Lib.hid hpost
  have hlba := h.2.1.lt
  have hlbs := h.1.lt
  have h0 : w.cell? ⟨bs, 0, none⟩ = some (.map (some ba)) := h.1.cellAt rfl
  have hbs : isOld bs w = true := isOld_iff.2 h.1.lt
  have HM := Lib.hid h.2.1
  have HO := Lib.hid hO
  clear hpost h hO
  refine (callsIn_wide (n := 3)).1 ?_
  refine callsIn_of_wp_marks Try.func12 rfl trivial ?_ rfl
  simp only [Try.ntmps12, List.size_toArray, List.length_cons, List.length_nil, Nat.reduceAdd, Nat.reduceSub, Array.replicate_succ, Array.replicate_zero, List.push_toArray, List.append_toArray, List.nil_append, List.cons_append]
  gi_wp2_with (refine ⟨trivial, ?_⟩; gi_at_call 21; refine (shVals_in _ _ trivial rfl _ _).mono ?_; rintro e w' ⟨rfl, rfl⟩)
  have bO := Boxed.new w 38 (.slice none 0 0)
  have bN := Boxed.new (w.alloc (.cells #[.slice none 0 0] 38)) 54 (.map (some ba))
  rw [World.size_alloc] at bN
  have hB0 : Below w.heap.size w ((w.alloc (.cells #[.slice none 0 0] 38)).alloc (.cells #[.map (some ba)] 54)) := ((Below.refl _ w).alloc (Nat.le_refl _) _).alloc (by simp) _
  have hM0 := HM.out.old (hB0.block _ HM.out.lt)
  obtain ⟨i0, hi, hz0, hz1, hz2⟩ := info_parts cookie_info
  refine wpIn_rangeFunc_ownH rfl (by decide) (gf := 37) (lb := #[.pointer (some ⟨w.heap.size + 1, 0, none⟩)]) rfl trivial (enters_of Try.func37 (by kernel_rfl) rfl)
    (shVals_stops W HO.out.apart Fence.wide _ trivial rfl (by decide) (w.heap.size + 1) ba _ (by simp) bN.cell hM0) walksK_t walksK_b (Below.refl _ _) (fun _ => rfl)
    (fun (pre : List GKept) wx => (∃ v, Boxed wx w.heap.size 38 v ∧ wx.ownsRow w.heap.size 31 29 v pre.length (cookCod.encs (pre.map (·.1))) ∧ True) ∧ Below w.heap.size w wx)
    (fun _ _ _ => False)
    (OwnFrom.and (Own.from (holdsRow_own w.heap.size w.heap.size 38 31 29 (fun pre : List GKept => pre.length) (fun pre : List GKept => cookCod.encs (pre.map (·.1))) (fun (pre : List GKept) v => True)) _) (ownFrom_below (Nat.le_refl _) (by simp; omega)))
    (fun _ _ _ _ _ hs _ _ => hs)
    ⟨⟨_, bO.alloc _, World.ownsRow_nil _ _ _ _, trivial⟩, hB0⟩
    (fun (k : GKept) a' wx => ∃ Bx, w.heap.size < Bx ∧ wx.heap[Bx]? = some (.cells (keptV k) 59 (0, 0)) ∧ a' = { tmps := #[.pointer (some ⟨bs, 0, none⟩), undef, .slice none 0 0, .pointer (some ⟨w.heap.size, 0, none⟩), .pointer (some ⟨Bx, 0, none⟩), .pointer (some ⟨bs, 0, none⟩), .pointer (some ⟨bs, 0, none⟩), .pointer (some ⟨bs, 0, none⟩), .map (some ba), .func (.func 37) #[] #[.pointer (some ⟨w.heap.size + 1, 0, none⟩)], .agg (keptV k), undef, undef, undef, undef, undef, undef, undef, undef], defers := [] })
    (fun k a' _ X Y row hs hg hr => by
      obtain ⟨Bx, h1, h2, h3⟩ := hs
      refine ⟨Bx, h1, (hg.block Bx (Array.getElem?_eq_some_iff.1 h2).1 (fun e => ?_)).trans h2, h3⟩
      obtain ⟨_, o, ho, hc⟩ := hr Bx e.symm
      rw [h2] at ho; cases ho; cases hc)
    ?assign ?body ?done ?stop
  case assign =>
    rintro l pre k wx K ⟨⟨v, hv, hrow, _⟩, hB⟩ hK
    gi_wp2
    exact hK _ _ ((KeepsOthers.alloc _ _).from _) (KeepsWalks.alloc _ _) ⟨⟨v, hv.alloc _, hrow.alloc _, trivial⟩, hB.alloc hB.size _⟩ ⟨wx.heap.size, hv.lt, World.alloc_heap_new wx _, rfl⟩
  case body =>
    rintro l pre k a' wx hl ⟨r, hr⟩ ⟨⟨v, hv, hrow, _⟩, hB⟩ ⟨Bx, hBx, hX, rfl⟩ hlt
    have hc := hv.cell
    have hvx : Var wx Bx (keptR k) := ⟨_, hX⟩
    have k90 : hasRow wx ⟨Bx, 0, none⟩ 29 = true := row0_has hvx (by rw [keptR_length]; decide)
    have k91 : rowAt wx ⟨Bx, 0, none⟩ 29 = cookieC k.1 := row0_kept hvx
    have hcl : ∀ j u, (cookieL k.1)[j]? = some u → (wx.alloc (.cells (cookieC k.1) 31)).cell? ((⟨wx.heap.size, 0, none⟩ : Addr).add j) = some u := fun j u hj => by
      rw [add_mk, World.cell?_alloc_at _ _ _ _ rfl, Nat.zero_add, cookieC, List.getElem?_toArray]; exact hj
    have HCL := Lib.hid hcl
    have HROW := Lib.hid hrow
    have HV := Lib.hid hv
    have hsz := hB.size
    clear hcl hrow hv hvx hX
    gi_wp2_with (gi_at_builtin; refine wpListIn_append_own _ rfl _ _ 38 rfl w.heap.size 31 i0 (.agg (cookieC zeroCk)) 29 144 Try.underlying38 hi hz0 hz1 hz2 (cookieC_size _) (by decide) _ _ _ rfl (HROW.out.alloc _) ⟨wx.heap.size, 0, none⟩ 1 1 (cookieL k.1) rfl (cookieL_length _) HCL.out (cookie_one _) (by unfold maxLen; omega) (by omega) (by simp; omega) ?_; intro v' w1 hown' hgrow _; obtain ⟨g', cap', rfl⟩ := ownsRow_succ hown'; obtain ⟨hv1, hv2, hr2, hk2, hb2⟩ := HV.out.appended (by decide) HROW.out hsz (Nat.le_refl _) hown' hgrow; have hc1 := hv1.cell; have hf1 := hv1.frozen)
    refine ⟨hk2.from _, hk2.walks, ⟨_, hv2, ?_, trivial⟩, hB.trans hb2⟩
    have e1 : (pre ++ [k]).length = pre.length + 1 := by simp
    have e2 : cookCod.encs ((pre ++ [k]).map (·.1)) = cookCod.encs (pre.map (·.1)) ++ cookieL k.1 := by
      rw [List.map_append, cookCod.encs_append]
      congr 1
      show (cookieL k.1) ++ [] = _
      rw [List.append_nil]
    show World.ownsRow _ _ _ _ _ (pre ++ [k]).length (cookCod.encs ((pre ++ [k]).map (·.1)))
    rw [e1, e2]
    exact hr2
  case done =>
    rintro D ps wx hD hperm ⟨⟨v, hv, hrow, _⟩, hB⟩ hK
    have hown : Own cookCod (fun k => w.heap.size ≤ k) wx v (ps.map (·.1)) := by
      obtain ⟨h1, h2⟩ := hrow
      have e1 : (ps.map (·.1)).length = ps.length := by simp
      refine ⟨⟨by rw [e1]; exact h1, ?_⟩, ?_⟩
      · rcases h2 with h2 | ⟨g, cap, cur, hv', hg, hh, r⟩
        · exact .inl (by rw [e1]; exact h2)
        · exact .inr ⟨g, cap, cur, by rw [e1]; exact hv', Nat.zero_le _, hh, by rw [e1]; exact r⟩
      · intro g hg
        rcases h2 with h2 | ⟨g', cap, cur, hv', hg', hh, r⟩
        · rw [h2.1] at hg; cases hg
        · rw [hv'] at hg; cases hg; exact hg'
    have hwl : wx.heap.size = wx.heap.size := rfl
    have hDl : D < wx.heap.size := (Array.getElem?_eq_some_iff.1 hK).1
    have hlp : (ps.map (·.1)).length = W.length := by rw [List.length_map]; exact hperm.length_eq
    have hseq : ∀ c ∈ ps.map (·.1), 0 ≤ c.seq ∧ c.seq < 4611686018427387904 := by
      intro c hc
      obtain ⟨k, hk, rfl⟩ := List.mem_map.1 hc
      have := HO.out.most k (hperm.subset hk)
      omega
    have HOWN := Lib.hid hown
    have HV := Lib.hid hv
    have HB := Lib.hid hB
    have HK := Lib.hid hK
    have hsz := hB.size
    have hlx := hv.lt
    rcases hown.form with ⟨rfl, hnil⟩ | ⟨g, cap, rfl, hcap, hq, hgl, hlist, hfr⟩
    · have hc := hv.cell
      have hps : ps = [] := by simpa using hnil
      have hWn : W = [] := by rw [hps] at hperm; exact hperm.symm.eq_nil
      have HS : Hid (Calls Try.prog 22 #[.slice none 0 0, .func (.func 23) #[] #[]] wx fun e w' => e = .returned (.tuple #[]) ∧ w' = wx) := AnyF.slices_SortFunc_none Try.sortCk none 0 _ wx
      clear hown hv hB hK hrow
      gi_wp2_with (refine ⟨trivial, ?_⟩; gi_at_call 22; refine (callsIn_wide.2 HS.out).mono ?_; rintro e w' ⟨rfl, rfl⟩)
      refine ⟨by simp, .inl ⟨_, _, rfl, run_takeDeferred HK.out, ?_⟩⟩
      refine ⟨_, results_tmp rfl _ _ _, ?_⟩
      rw [← HPOST.out, hWn]
      exact ⟨none, 0, rfl, Nat.le_refl _, HB.out.trans (belowK_b (w := w) (Nat.le_refl _) _ D _ _ (by simp at hD; omega) HK.out rfl rfl), .inl rfl⟩
    · obtain ⟨d, hd⟩ := toSC (ps.map (·.1)) hseq
      have hne : w.heap.size ≠ g := fun e => (hv.not_row (by decide) hrow) (by rw [e]; rfl)
      have hdl : d.length = (ps.map (·.1)).length := by rw [← hd, List.length_map]
      have HS := sort_any d g cap wx (by rw [hd]; exact hlist) hfr hgl (by rw [hdl, hlp]; omega)
      rw [hdl, hlp] at HS
      have hc := hv.cell
      rw [hlp] at hc hcap
      have HS' := Lib.hid HS
      have hDg : D ≠ g := by
        rcases hrow.2 with h2 | ⟨g', cap', cur, hv', hg', hh, r⟩
        · cases h2.1
        · have hgg : g = g' := by
            have := congrArg Value.ownBlock hv'
            simpa [Value.ownBlock] using this
          subst hgg
          rintro rfl
          rw [hK] at hh; cases hh
      clear hown hv hB hK hrow HS hlist hfr HV hdl
      gi_wp2_with (refine ⟨trivial, ?_⟩; gi_at_call 22; refine (callsIn_wide.2 HS'.out).mono ?_; rintro e w9 ⟨rfl, d', hp', hs', hl', hk'⟩; have hc9 : w9.cell? ⟨w.heap.size, 0, none⟩ = some (.slice (some ⟨g, 0, none⟩) W.length cap) := (by rw [World.cell?_of_block (a := ⟨w.heap.size, 0, none⟩) (hk'.block _ hlx hne)]; exact hc); have HP' := Lib.hid hp'; have HS9 := Lib.hid hs'; have HL' := Lib.hid hl'; have HK' := Lib.hid hk'; clear hp' hs' hl' hk')
      have hK9 : w9.heap[D]? = some (.deferred (some [])) := (HK'.out.block D hDl hDg).trans HK.out
      refine ⟨by simp, .inl ⟨_, _, rfl, run_takeDeferred hK9, ?_⟩⟩
      refine ⟨_, results_tmp rfl _ _ _, ?_⟩
      rw [← HPOST.out]
      have hb9 : Below w.heap.size w w9 := HB.out.trans (HK'.out.below (fun j hj => ⟨by omega, by omega⟩))
      have e : d'.map (·.1) = W.map (·.1) := by
        refine sorted_one ?_ ?_ ?_
        · exact ((HP'.out.map (·.1)).trans (by rw [hd])).trans (hperm.map (·.1))
        · exact List.Pairwise.map _ (fun a b h => h) HO.out.rises
        · exact List.Pairwise.map _ (fun a b h => h) HS9.out
      have hl9 := HL'.out
      rw [e] at hl9
      have hbf := belowK_b (w := w) (n₀ := w.heap.size) (Nat.le_refl _) w9 D _ (.deferred none) (by simp at hD; omega) hK9 rfl rfl
      refine ⟨some ⟨g, 0, none⟩, cap, by rw [List.length_map]; rfl, by rw [List.length_map]; exact hcap, hb9.trans hbf, .inr ⟨g, 0, rfl, hq, ?_, ?_⟩⟩
      · exact Nat.lt_of_lt_of_le (Nat.lt_of_lt_of_le hgl HK'.out.size) hbf.size
      · intro j u hj
        rw [World.cell?_of_block (a := ⟨g, 0 + j, none⟩) (World.putObj_heap_other (fun e => hDg e.symm))]
        exact hl9 j u hj
  case stop =>
    rintro D c pre wx _ _ h _
    exact h.elim
end Go.Proofs.Ytaondmaebgicgaa
