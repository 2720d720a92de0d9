/- The shelf's Expire walked. -/
import Derived.Test.YtaondmaebgicgaaShAct
import Derived.Test.YtaondmaebgicgaaShOld2
import Derived.Test.YtaondmaebgicgaaBuildS
namespace Go.Proofs.Ytaondmaebgicgaa
open Go Go.RowKit
set_option maxRecDepth 20000
set_option linter.unusedSimpArgs false
set_option linter.unusedVariables false

def endedB (now : Int) (k : GKept) : Bool := decide (k.1.expires ≤ now)
def dropAll (W : List GKept) (E : List GCookie) : List GKept := E.foldl dropW W
theorem dropAll_filter : ∀ (E : List GCookie) (W : List GKept), dropAll W E = W.filter (fun k => !E.any (fun c => samePl k.1 c))
  | [], W => by
    show W = _
    rw [List.filter_eq_self.2]
    intro k _
    rfl
  | c :: E, W => by
    show dropAll (dropW W c) E = _
    rw [dropAll_filter E (dropW W c)]
    unfold dropW
    rw [List.filter_filter]
    congr 1
    funext k
    rw [List.any_cons]
    cases samePl k.1 c <;> simp
theorem dropAll_exp {W ps : List GKept} (hA : Apart W) (hp : ps.Perm W) (now : Int) : dropAll W ((ps.filter (endedB now)).map (·.1)) = expW W now := by
  rw [dropAll_filter]
  unfold expW
  refine List.filter_congr ?_
  intro k hk
  have e : ((ps.filter (endedB now)).map (·.1)).any (fun c => samePl k.1 c) = endedB now k := by
    rw [Bool.eq_iff_iff, List.any_eq_true]
    constructor
    · rintro ⟨c, hc, hs⟩
      obtain ⟨y, hy, rfl⟩ := List.mem_map.1 hc
      obtain ⟨hy1, hy2⟩ := List.mem_filter.1 hy
      rw [apart_eq hA hk (hp.subset hy1) hs]
      exact hy2
    · intro h
      exact ⟨k.1, List.mem_map.2 ⟨k, List.mem_filter.2 ⟨hp.symm.subset hk, h⟩, rfl⟩, samePl_refl _⟩
  rw [e]
  unfold endedB
  by_cases h : k.1.expires ≤ now
  · simp [h, show ¬ now < k.1.expires by omega]
  · simp [h, show now < k.1.expires by omega]
theorem ended_len (now : Int) : ∀ (W : List GKept), (W.filter (endedB now)).length + (expW W now).length = W.length
  | [] => rfl
  | k :: W => by
    have ih := ended_len now W
    unfold expW at ih ⊢
    rw [List.filter_cons, List.filter_cons, List.length_cons]
    by_cases h : k.1.expires ≤ now
    · have h1 : endedB now k = true := by simp [endedB, h]
      have h2 : decide (now < k.1.expires) = false := by simp; omega
      rw [h1, h2]
      simp only [if_true, Bool.false_eq_true, if_false, List.length_cons]
      omega
    · have h1 : endedB now k = false := by simp [endedB]; omega
      have h2 : decide (now < k.1.expires) = true := by simp; omega
      rw [h1, h2]
      simp only [if_true, Bool.false_eq_true, if_false, List.length_cons]
      omega
theorem ended_length {W ps : List GKept} (hp : ps.Perm W) (now : Int) : (ps.filter (endedB now)).length + (expW W now).length = W.length := by
  have h1 : (ps.filter (endedB now)).length = (W.filter (endedB now)).length := (hp.filter _).length_eq
  rw [h1]
  exact ended_len now W
theorem RangeF.old2 {P : Program} {K : TypeId} {w w' : World} {b n r cnt : Nat} {f : Lit → Option Value} {left : Lit → Bool} (h : RangeF P K w b r f n left cnt) (hb : w'.heap[b]? = w.heap[b]?) (hr : w'.heap[r]? = w.heap[r]?) : RangeF P K w' b r f n left cnt := by
  obtain ⟨D, ⟨es, clock, since, seen, c0, h1, F, hs, hD, h2, rest⟩, q1, q2⟩ := h
  exact ⟨D, ⟨es, clock, since, seen, c0, hb.trans h1, F, hs, hD, hr.trans h2, rest⟩, q1, q2⟩
theorem ck_encs1' (c : GCookie) : (cookieC c).toList = cookCod.encs [c] := by
  show cookieL c = cookieL c ++ []
  rw [List.append_nil]
theorem OkW.dropAll {last : Nat} : ∀ (E : List GCookie) {W : List GKept}, OkW W last → OkW (dropAll W E) last
  | [], _, h => h
  | c :: E, _, h => OkW.dropAll E (h.drop c)
theorem dropAll_take (W : List GKept) (E : List GCookie) (j : Nat) (hj : j < E.length) : dropAll W (E.take (j + 1)) = dropW (dropAll W (E.take j)) (E[j]'hj) := by
  unfold dropAll
  rw [List.take_succ_eq_append_getElem hj, List.foldl_append]
  rfl
set_option maxRecDepth 100000 in
set_option maxHeartbeats 8000000 in
theorem shExpire_any (W : List GKept) (last : Nat) (hO : OkW W last) (hl : last < 1000) (B bs ba bi : Nat) (hB : B < 1000) (now : Int) (w : World) (h : ShR w bs ba bi W last B) :
    Calls Try.prog 31 #[.pointer (some ⟨bs, 0, none⟩), .int .i64 now] w fun e w' => e = .returned (.int .i64 ((W.length - (expW W now).length : Nat) : Int)) ∧ ShR w' bs ba bi (expW W now) last B ∧ Keeps (ShO bs ba bi) w w' := by
  have HSH := Lib.hid h
  have hlba := h.2.1.lt
  have hlbs := h.1.lt
  have hlbi : bi < w.heap.size := by
    obtain ⟨n, _, h4⟩ := h.2.2.1
    exact h4.lt
  have h0 : w.cell? ⟨bs, 0, none⟩ = some (.map (some ba)) := h.1.cellAt rfl
  have HO := Lib.hid hO
  have hWl := hO.length
  clear h hO
  go_enter Try.func31, Try.ntmps31
  go_wp2_with (first
    | (at_range; refine wpList_range_W _ rfl _ rfl ba W rfl HSH.out.2.1 ?_; intro w3 hrg0 hg0 hs0; have HRG0 := Lib.hid hrg0; have HG0 := Lib.hid hg0; have HS0 := Lib.hid hs0; clear hrg0 hg0 hs0)
    | go_in)
  go_frame
  go_loopw [5] (fun v wr => ∃ left cnt ps, RangeF Try.prog 62 wr ba w.heap.size (allF W) W.length left cnt ∧ ColW W left ps ∧ Own cookCod (From (w.heap.size + 1)) wr v ((ps.filter (endedB now)).map (·.1)) ∧ Below w.heap.size w wr ∧ w.heap.size + 1 ≤ wr.heap.size) (fun _ wr => wr.rangeLeft ba w.heap.size)
  case atStart =>
    have e3 := (Below.refl w.heap.size w).grown HG0.out (Nat.le_refl _) (fun k e => by cases e)
    exact ⟨_, _, [], HRG0.out, colW_start W, Own.nil _ _, e3, by rw [HS0.out]; exact Nat.le_refl _⟩
  case round =>
    obtain ⟨left, cnt, ps, hrg, hC, ho, hbw, hzr⟩ := hrel
    have HRG := Lib.hid hrg
    have HC := Lib.hid hC
    have HOW := Lib.hid ho
    have HBW := Lib.hid hbw
    clear hrg hC hbw
    go_wp2_with (first
      | (at_next; refine wpList_next_W _ rfl _ rfl ba w.heap.size _ cnt W ps HO.out.apart left rfl HRG.out HC.out ?_ ?_)
      | go_in)
    · intro hperm
      obtain ⟨a5, c5, rfl, hc5, hl5⟩ := ho.slice (B := w.heap.size + 1) (fun _ h => h)
      have HL5 := Lib.hid hl5
      have HEX := Lib.hid (dropAll_exp HO.out.apart hperm now)
      have hEL := ended_length hperm now
      have HSHr := Lib.hid (HSH.out.below HBW.out)
      have hElen : ((ps.filter (endedB now)).map (fun k : GKept => k.1)).length = (ps.filter (endedB now)).length := List.length_map _
      have HLR : Hid (((ps.filter (endedB now)).map (fun k : GKept => k.1)).length = W.length - (expW W now).length) := by show _ = _; omega
      have hE1 : ((ps.filter (endedB now)).map (fun k : GKept => k.1)).length ≤ 1000 := by omega
      have HDT : Hid (∀ (j : Nat) (hj : j < ((ps.filter (endedB now)).map (fun k : GKept => k.1)).length), dropAll W (((ps.filter (endedB now)).map (fun k : GKept => k.1)).take (j + 1)) = dropW (dropAll W (((ps.filter (endedB now)).map (fun k : GKept => k.1)).take j)) (((ps.filter (endedB now)).map (fun k : GKept => k.1))[j]'hj)) := fun j hj => dropAll_take W _ j hj
      clear ho hl5 hEL hElen
      generalize (ps.filter (endedB now)).map (fun k : GKept => k.1) = E at *
      go_upto_region 7 with fail
      go_wp2_with fail
      go_loopw [31] (fun s31 wt => ∃ j : Nat, s31 = .int .i64 (j : Int) ∧ j ≤ E.length ∧ ShR wt bs ba bi (dropAll W (E.take j)) last B ∧ Keeps (ShO bs ba bi) wr wt) (fun q _ => E.length - (intOf q).toNat)
      case atStart => exact ⟨0, rfl, Nat.zero_le _, HSHr.out, Keeps.refl _ _⟩
      case round =>
        obtain ⟨j, rfl, hj, hsh, hkt⟩ := hrel
        have hzt := hkt.size
        by_cases hlt : j < E.length
        · obtain ⟨g, o, rfl, hlo, hhi, hat⟩ := HL5.out.resolve_left (fun h => by subst h; exact absurd hlt (Nat.not_lt_zero _))
          have hgn : ¬ ShO bs ba bi g := by rintro (e | e | e) <;> omega
          obtain ⟨r1, q1⟩ := ckRow (hat.keeps hkt hhi hgn) j hlt
          have hio : isOld g wr = true := isOld_iff.2 (by omega)
          have hjj : (j : Int) < (E.length : Int) := by omega
          have HD : Hid (∀ w', ShR w' bs ba bi (dropAll W (E.take j)) last B → Calls Try.prog 9 #[.pointer (some ⟨bs, 0, none⟩), .agg (cookieC (E[j]'hlt))] w' fun e w'' => e = .returned (.bool (findW (dropAll W (E.take j)) (E[j]'hlt)).isSome) ∧ ShR w'' bs ba bi (dropW (dropAll W (E.take j)) (E[j]'hlt)) last B ∧ Keeps (ShO bs ba bi) w' w'') := fun w' h' => shDrop_any _ last (OkW.dropAll _ HO.out) (by omega) B bs ba bi (by omega) _ w' h'
          have HDJ := Lib.hid (HDT.out j hlt)
          have HSHt := Lib.hid (hsh.below ((Below.refl wr.heap.size wr).alloc (Nat.le_refl _) (Obj.cells (cookieC (E[j]'hlt)) 31)))
          have HKT := Lib.hid hkt
          generalize (E[j]'hlt) = c at *
          clear hat hsh hkt
          go_wp2_with (go_at_call 9; (with_reducible refine (HD.out _ HSHt.out).mono ?_); rintro e w7 ⟨rfl, hsh7, hk7⟩; have HSH7 := Lib.hid hsh7; have HK7 := Lib.hid hk7; clear hsh7 hk7)
          go_roundw
          case rel => exact ⟨j + 1, by simp, by omega, by rw [HDJ.out]; exact HSH7.out, (HKT.out.bel ((Below.refl _ _).alloc (Nat.le_refl _) _)).trans HK7.out⟩
          case measure => first | (simp [intOf]; done) | (simp [intOf]; omega)
        · obtain rfl : j = E.length := by omega
          rw [List.take_of_length_le (Nat.le_refl _), HEX.out] at hsh
          have HSHe := Lib.hid hsh
          have HKT := Lib.hid hkt
          clear hsh hkt
          go_wp2
          go_ret
          exact ⟨by rw [← HLR.out]; rfl, HSHe.out, (Keeps.of_below HBW.out).trans HKT.out⟩
    · intro key kc ks left' w4 cnt' hrg4 hC4 hkW hlt hg4 hs4 hen
      generalize (kc, ks) = k at *
      have hrn := HRG.out.ne.2
      have hbr : Below w.heap.size wr w4 := (Below.refl _ wr).grown hg4 (by omega) (fun k e => by cases e; omega)
      have hb4 : Below w.heap.size w w4 := HBW.out.trans hbr
      have ho4 := ho.blocks (w' := w4) (fun g hv hg => hg4.block g hg (fun e => by have h1 : w.heap.size + 1 ≤ g := ho.2 g hv; cases e; omega))
      obtain ⟨a5, c5, rfl, hc5, hl5⟩ := ho.slice (B := w.heap.size + 1) (fun _ h => h)
      have HO4 := Lib.hid ho4
      have HC4 := Lib.hid hC4
      have HRG4 := Lib.hid hrg4
      have HB4 := Lib.hid hb4
      have hplen : ((ps.filter (endedB now)).map (fun k : GKept => k.1)).length ≤ 1000 := by
        have q1 := HC.out.length'
        have q2 := List.length_filter_le (endedB now) ps
        rw [List.length_map]
        omega
      have hz4 : w.heap.size + 1 ≤ w4.heap.size := by rw [hs4]; exact hzr
      clear ho ho4 hl5 hg4 hbr hb4 hrg4 hC4
      by_cases hx : k.1.expires ≤ now
      · have HF : Hid (((ps ++ [k]).filter (endedB now)).map (fun k : GKept => k.1) = (ps.filter (endedB now)).map (fun k : GKept => k.1) ++ [k.1]) := by
          show _ = _
          rw [List.filter_append, List.map_append]
          simp [endedB, hx]
        generalize (ps.filter (endedB now)).map (fun k : GKept => k.1) = P at *
        go_wp2_with (at_builtin; refine wpList_append_list rfl cookCod (.tmp 24) (.tmp 27) 38 rfl rfl (From (w.heap.size + 1)) _ _ P rfl ((HO4.out.alloc _).alloc _) _ 0 _ _ [k.1] rfl rfl (listAt_new _ _ [_] _ (ck_encs1' _) (by first | rfl | (simp [go_sem, hs4]; done))) (by simp [cookCod]; omega) (by simp; omega) (by show _ ≤ _; simp; omega) ?_; intro v' w9 ho1 hb1; have HO9 := Lib.hid ho1; have HK9 := Lib.hid hb1; clear ho1 hb1)
        have hka := (Keeps.of_below (Q := From (w.heap.size + 1)) (((Below.refl w4.heap.size w4).alloc (Nat.le_refl _) (Obj.cells (keptV k) 59)).alloc (by simp) (Obj.cells (cookieC k.1) 31))).trans HK9.out
        have hrg9 := HRG4.out.old2 (hka.block ba (by omega) (fun h => by have : w.heap.size + 1 ≤ ba := h; omega)) (hka.block w.heap.size (by omega) (fun h => by have : w.heap.size + 1 ≤ w.heap.size := h; omega))
        go_roundw
        case rel => exact ⟨left', cnt', ps ++ [k], hrg9, HC4.out, by rw [HF.out]; exact HO9.out, HB4.out.trans (hka.below (fun j hj => ⟨by omega, fun h => by have : w.heap.size + 1 ≤ j := h; omega⟩)), Nat.le_trans hz4 hka.size⟩
        case measure => rw [hrg9.left_eq, HRG.out.left_eq]; exact hlt
      · have hx' : now < k.1.expires := by omega
        have HF : Hid (((ps ++ [k]).filter (endedB now)).map (fun k : GKept => k.1) = (ps.filter (endedB now)).map (fun k : GKept => k.1)) := by
          show _ = _
          rw [List.filter_append, List.map_append]
          simp [endedB, hx]
        generalize (ps.filter (endedB now)).map (fun k : GKept => k.1) = P at *
        go_wp2
        have hnb : Below w4.heap.size w4 (w4.alloc (Obj.cells (keptV k) 59)) := (Below.refl w4.heap.size w4).alloc (Nat.le_refl _) _
        have hrg9 := HRG4.out.kept (by_below hnb) (by simp) (by simp)
        go_roundw
        case rel => exact ⟨left', cnt', ps ++ [k], hrg9, HC4.out, by rw [HF.out]; exact HO4.out.below hnb, HB4.out.trans (hnb.mono (by omega)), Nat.le_trans hz4 hnb.size⟩
        case measure => rw [hrg9.left_eq, HRG.out.left_eq]; exact hlt
end Go.Proofs.Ytaondmaebgicgaa
