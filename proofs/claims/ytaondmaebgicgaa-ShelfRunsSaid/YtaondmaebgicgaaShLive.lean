/- The chapter's example, walked. -/
import Derived.Test.YtaondmaebgicgaaShAll
import Derived.Test.YtaondmaebgicgaaShCk
namespace Go.Proofs.Ytaondmaebgicgaa
open Go Go.RowKit
set_option maxRecDepth 20000
set_option linter.unusedSimpArgs false
set_option linter.unusedVariables false

theorem wf_nat {n : Nat} (h : n < 4611686018427387904) : (Lit.int .i64 (n : Int)).wf = true := by
  simp [Lit.wf, IntKind.min, IntKind.max, IntKind.bits, IntKind.signed]
  omega
theorem putA : PutW [] 0 ckA [120] false (newC ckA ((0 + 1 : Nat) : Int) (wf_nat (by decide))) ([] ++ [(newC ckA ((0 + 1 : Nat) : Int) (wf_nat (by decide)), [120])]) (0 + 1) := PutW.no rfl (wf_nat (by decide))
def keptA : GKept := (newC ckA ((0 + 1 : Nat) : Int) (wf_nat (by decide)), [120])
theorem findA : findW [keptA] ckB = some keptA := by
  unfold findW
  rw [List.find?_cons]
  have : samePl keptA.1 ckB = true := by decide
  rw [this]
theorem putB : PutW [keptA] 1 ckB [120] true (putC ckB keptA) (replW [keptA] ckB (putC ckB keptA, [120])) 1 := PutW.yes keptA findA
theorem replA : replW [keptA] ckB (putC ckB keptA, [120]) = [(putC ckB keptA, [120])] := by
  unfold replW
  have : samePl keptA.1 ckB = true := by decide
  simp [this]
theorem putD : cookieC (putC ckB keptA) = cookieC ckD := rfl
theorem row_has {w : World} {g o : Nat} {c : GCookie} {xs : List GCookie} (h : ListAt cookCod w g o (c :: xs)) : hasRow w ⟨g, o, none⟩ 29 = true := by
  rw [hasRow_iff]
  intro j hj
  have hl : j < (cookieL c).length := by rw [cookieL_length]; exact hj
  have := h.get 0 (by simp) j _ (List.getElem?_eq_getElem hl)
  rw [add_mk, show o + j = o + (0 * cookCod.sz + j) by omega, this]; rfl
theorem row_at {w : World} {g o : Nat} {c : GCookie} {xs : List GCookie} (h : ListAt cookCod w g o (c :: xs)) : rowAt w ⟨g, o, none⟩ 29 = cookieC c := by
  apply Array.ext_getElem?
  intro j
  simp only [rowAt, List.getElem?_toArray, List.getElem?_map, add_mk]
  by_cases hj : j < 29
  · have hl : j < (cookieL c).length := by rw [cookieL_length]; exact hj
    have := h.get 0 (by simp) j _ (List.getElem?_eq_getElem hl)
    have e : (List.range 29)[j]? = some j := by simp [hj]
    rw [e, Option.map_some, show o + j = o + (0 * cookCod.sz + j) by omega, this, cookieC, List.getElem?_toArray, List.getElem?_eq_getElem hl]
    rfl
  · have e : (List.range 29)[j]? = none := by simp; omega
    rw [e, Array.getElem?_eq_none (by rw [cookieC_size]; omega)]
    rfl
theorem ShO.ge {bs ba bi B : Nat} (h1 : B ≤ bs) (h2 : B ≤ ba) (h3 : B ≤ bi) {k : Nat} (h : ShO bs ba bi k) : B ≤ k := by rcases h with rfl | rfl | rfl <;> assumption
theorem below_of_keeps {B bs ba bi : Nat} {w w1 w2 : World} (hb : Below B w w1) (hB : B ≤ w1.heap.size) (hk : Keeps (ShO bs ba bi) w1 w2) (h1 : B ≤ bs) (h2 : B ≤ ba) (h3 : B ≤ bi) : Below B w w2 :=
  hb.trans (hk.below fun k hk => ⟨by omega, fun h => by have := ShO.ge h1 h2 h3 h; omega⟩)
theorem livePutA (bs ba bi : Nat) (w : World) (h : ShR w bs ba bi [] 0 0) : Calls Try.prog 10 #[.pointer (some ⟨bs, 0, none⟩), .agg (cookieC ckA), .string ⟨#[120]⟩] w fun e w' => e = .returned (.bool false) ∧ ShR w' bs ba bi [keptA] 1 1 ∧ Keeps (ShO bs ba bi) w w' :=
  shPut_any [] List.Pairwise.nil (by simp) 0 0 bs ba bi (by omega) (by omega) ckA [120] (by decide) (fun k hk => (List.not_mem_nil hk).elim) w h _ _ _ _ putA
theorem livePutB (bs ba bi : Nat) (w : World) (h : ShR w bs ba bi [keptA] 1 1) : Calls Try.prog 10 #[.pointer (some ⟨bs, 0, none⟩), .agg (cookieC ckB), .string ⟨#[120]⟩] w fun e w' => e = .returned (.bool true) ∧ ShR w' bs ba bi [(putC ckB keptA, [120])] 1 2 ∧ Keeps (ShO bs ba bi) w w' := by
  have := shPut_any [keptA] (List.pairwise_singleton _ _) (by simp) 1 1 bs ba bi (by omega) (by omega) ckB [120] (by decide) (fun k hk => by rw [List.mem_singleton] at hk; subst hk; decide) w h _ _ _ _ putB
  rw [replA] at this
  exact this
theorem liveOk : OkW [((putC ckB keptA, [120]) : GKept)] 1 := ⟨List.pairwise_singleton _ _, List.pairwise_singleton _ _, fun k hk => by rw [List.mem_singleton] at hk; subst hk; decide, fun k hk => by rw [List.mem_singleton] at hk; subst hk; decide⟩
theorem liveAll (bs ba bi : Nat) (w : World) (h : ShR w bs ba bi [(putC ckB keptA, [120])] 1 2) : Calls Try.prog 12 #[.pointer (some ⟨bs, 0, none⟩)] w (Gives cookCod [ckD] w) :=
  shAll_any [(putC ckB keptA, [120])] 1 liveOk (by omega) (by simp) 2 bs ba bi w h
set_option maxHeartbeats 1000000 in
theorem shAlive_any (w : World) : Calls Try.prog 7 #[] w fun e w' => e = .returned (.bool true) ∧ Below w.heap.size w w' := by
  go_enter Try.func7, Try.ntmps7
  go_wp2_with (first
    | (go_at_call 8; refine (shNew_any _).mono ?_; rintro e w1 ⟨bs, ba, bi, rfl, hsh, hb, h1, h2, h3⟩; have HPA := Lib.hid (livePutA bs ba bi w1 hsh); have HB1 := Lib.hid hb; clear hsh hb)
    | (go_at_call 10; (with_reducible refine HPA.out.mono ?_); rintro e w2 ⟨rfl, hsh, hk⟩; have HPB := Lib.hid (livePutB bs ba bi w2 hsh); have HK2 := Lib.hid hk; clear hsh hk)
    | (go_at_call 10; (with_reducible refine HPB.out.mono ?_); rintro e w3 ⟨rfl, hsh, hk⟩; have HAL := Lib.hid (liveAll bs ba bi w3 hsh); have HK3 := Lib.hid hk; clear hsh hk)
    | (go_at_call 12; (with_reducible refine HAL.out.mono ?_); intro e w4 hg; obtain ⟨a1, c1, rfl, hc1, hb4, hl1⟩ := hg; have HB4 := Lib.hid hb4; rcases hl1 with hl1 | ⟨g, o, rfl, hg1, hg2, hl⟩; cases hl1; have k1 : hasRow w4 ⟨g, o, none⟩ 29 = true := row_has hl; have k2 : rowAt w4 ⟨g, o, none⟩ 29 = cookieC ckD := row_at hl; clear hb4 hl hc1))
  go_ret
  have hs1 := HB1.out.size
  have hb2 := below_of_keeps HB1.out hs1 HK2.out h1 h2 h3
  have hb3 := below_of_keeps hb2 hb2.size HK3.out h1 h2 h3
  have hb4 := hb3.trans (HB4.out.mono hb3.size)
  have e : ckEq ckD ckD = true := ckEq_refl ckD
  exact ⟨by simp [e], hb4⟩
end Go.Proofs.Ytaondmaebgicgaa
