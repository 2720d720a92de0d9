/- The walk of the statement ShelfCounts. -/
import Derived.Test.YtaondmaebgicgaaShAct
import Derived.Test.YtaondmaebgicgaaShOld2
import Derived.IntWalk
namespace Go.Proofs.Ytaondmaebgicgaa
open Go Go.RowKit
set_option maxRecDepth 20000
set_option linter.unusedSimpArgs false
set_option linter.unusedVariables false

theorem act_mid' {w : World} {b : Nat} {x : GAct} (h : Var w b (actL x)) : hasRow w ⟨b, 1, none⟩ 29 = true ∧ rowAt w ⟨b, 1, none⟩ 29 = cookieC x.c := by
  have key : ∀ j, j < 29 → w.cell? ⟨b, 1 + j, none⟩ = (cookieL x.c)[j]? := fun j hj => by
    have hl : j < (cookieL x.c).length := by rw [cookieL_length]; exact hj
    rw [List.getElem?_eq_getElem hl]
    refine h.cellAt ?_
    unfold actL
    rw [List.singleton_append, Nat.add_comm, List.getElem?_cons_succ, List.getElem?_append_left hl, List.getElem?_eq_getElem hl]
  constructor
  · rw [hasRow_iff]
    intro j hj
    rw [add_mk, key j hj, List.getElem?_eq_getElem (by rw [cookieL_length]; exact hj)]; rfl
  · apply Array.ext_getElem?
    intro j
    simp only [rowAt, List.getElem?_toArray, List.getElem?_map, add_mk]
    by_cases hj : j < 29
    · have e : (List.range 29)[j]? = some j := by simp [hj]
      rw [e, Option.map_some, key j hj, cookieC, List.getElem?_toArray, List.getElem?_eq_getElem (by rw [cookieL_length]; exact hj)]; rfl
    · have e : (List.range 29)[j]? = none := by simp; omega
      rw [e, Array.getElem?_eq_none (by rw [cookieC_size]; omega)]; rfl
/-! ### counts, plain -/
def sumC (W : List GKept) (Ss : List (List UInt8)) : Nat := (Ss.map (countW W)).sum
theorem countW_cons (k : GKept) (W : List GKept) (s : List UInt8) : countW (k :: W) s = countW W s + (if k.2 = s then 1 else 0) := by
  unfold countW
  rw [List.filter_cons]
  by_cases e : k.2 = s
  · simp [e]
  · simp [e]
theorem sum_ite (x : List UInt8) : ∀ (Ss : List (List UInt8)), Ss.Nodup → x ∈ Ss → (Ss.map (fun s => if x = s then 1 else 0)).sum = 1
  | [], _, h => by cases h
  | s :: Ss, hn, h => by
    have h2 := List.nodup_cons.1 hn
    rw [List.map_cons, List.sum_cons]
    by_cases e : x = s
    · subst e
      have : (Ss.map (fun s => if x = s then 1 else 0)).sum = 0 := by
        have hz : ∀ (T : List (List UInt8)), x ∉ T → (T.map (fun s => if x = s then 1 else 0)).sum = 0 := by
          intro T
          induction T with
          | nil => intro _; rfl
          | cons t T ih =>
            intro hx
            rw [List.map_cons, List.sum_cons, ih (fun hh => hx (List.mem_cons_of_mem _ hh)), if_neg (fun e => hx (by rw [e]; simp))]
        exact hz Ss h2.1
      rw [this, if_pos rfl]
    · rw [if_neg e, sum_ite x Ss h2.2 (by rcases List.mem_cons.1 h with h | h; exact absurd h e; exact h)]
theorem sumC_cons (k : GKept) (W : List GKept) : ∀ (Ss : List (List UInt8)), sumC (k :: W) Ss = sumC W Ss + (Ss.map (fun s => if k.2 = s then 1 else 0)).sum
  | [] => rfl
  | s :: Ss => by
    have ih := sumC_cons k W Ss
    unfold sumC at ih ⊢
    rw [List.map_cons, List.sum_cons, List.map_cons, List.sum_cons, List.map_cons, List.sum_cons, ih, countW_cons]
    omega
theorem sumC_all (Ss : List (List UInt8)) (hn : Ss.Nodup) : ∀ (W : List GKept), (∀ k ∈ W, k.2 ∈ Ss) → sumC W Ss = W.length
  | [], _ => by
    unfold sumC
    have : ∀ T : List (List UInt8), (T.map (countW [])).sum = 0 := by
      intro T
      induction T with
      | nil => rfl
      | cons t T ih => rw [List.map_cons, List.sum_cons, ih]; rfl
    exact this Ss
  | k :: W, h => by
    rw [sumC_cons, sumC_all Ss hn W (fun x hx => h x (List.mem_cons_of_mem _ hx)), sum_ite k.2 Ss hn (h k (by simp))]
    rfl
theorem sumC_take (W : List GKept) (Ss : List (List UInt8)) (j : Nat) (hj : j < Ss.length) : sumC W (Ss.take (j + 1)) = sumC W (Ss.take j) + countW W (Ss[j]'hj) := by
  unfold sumC
  rw [List.take_succ_eq_append_getElem hj, List.map_append, List.sum_append]
  simp
theorem sumC_le (W : List GKept) (Ss : List (List UInt8)) (j : Nat) (hn : Ss.Nodup) (hs : ∀ k ∈ W, k.2 ∈ Ss) : sumC W (Ss.take j) ≤ W.length := by
  rw [← sumC_all Ss hn W hs]
  unfold sumC
  have e : Ss = Ss.take j ++ Ss.drop j := (List.take_append_drop j Ss).symm
  rw [congrArg (List.map (countW W)) e, List.map_append, List.sum_append]
  omega
theorem put_sites {W : List GKept} {last : Nat} {c c' : GCookie} {s : List UInt8} {b : Bool} {W' : List GKept} {last' : Nat} (hp : PutW W last c s b c' W' last') : ∀ k ∈ W', k ∈ W ∨ k.2 = s := by
  cases hp with
  | yes k h =>
    intro x hx
    unfold replW at hx
    obtain ⟨y, hy, rfl⟩ := List.mem_map.1 hx
    by_cases e : samePl y.1 c = true
    · rw [if_pos e]; exact .inr rfl
    · rw [if_neg e]; exact .inl hy
  | no h hw =>
    intro x hx
    rcases List.mem_append.1 hx with hx | hx
    · exact .inl hx
    · rw [List.mem_singleton] at hx
      subst hx
      exact .inr rfl
theorem any_take (Ss : List (List UInt8)) (s : List UInt8) (j : Nat) (hj : j < Ss.length) : (Ss.take (j + 1)).any (· == s) = ((Ss.take j).any (· == s) || Ss[j]'hj == s) := by
  rw [List.take_succ_eq_append_getElem hj, List.any_append]
  simp
theorem any_mem (Ss : List (List UInt8)) (s : List UInt8) : Ss.any (· == s) = true ↔ s ∈ Ss := by
  rw [List.any_eq_true]
  constructor
  · rintro ⟨x, hx, e⟩
    rw [beq_iff_eq] at e
    subst e; exact hx
  · intro h; exact ⟨s, h, by simp⟩
/-- Of a list that is not empty the oldest. -/
theorem old_all {W : List GKept} {last : Nat} (hO : OkW W last) (hne : W ≠ []) : (oldW (fun _ => true) W).1 = true ∧ (oldW (fun _ => true) W).2 ∈ W ∧ ∀ k ∈ W, (oldW (fun _ => true) W).2.1.used ≤ k.1.used := by
  rcases isOld_W (fun _ => true) hO.rises with ⟨_, _, h⟩ | ⟨h1, h2, _, h⟩
  · cases W with
    | nil => exact absurd rfl hne
    | cons k W => have := h k (by simp); cases this
  · exact ⟨h1, h2, fun k hk => by rcases h k hk rfl with h | h <;> omega⟩
theorem old_nil : oldW (fun _ => true) [] = (false, zeroKt) := rfl
theorem find_self {W : List GKept} (hA : Apart W) {k : GKept} (hk : k ∈ W) : findW W k.1 = some k := by
  unfold findW
  cases h : W.find? (fun x => samePl x.1 k.1) with
  | none =>
    rw [List.find?_eq_none] at h
    have := h k hk
    rw [samePl_refl] at this
    exact absurd rfl this
  | some y => rw [apart_eq hA (List.mem_of_find?_eq_some h) hk (by have := List.find?_some h; exact this)]
theorem wf_ge {n : Int} (h : (Lit.int .i64 n).wf = true) : -9223372036854775808 ≤ n := by
  simp [Lit.wf, IntKind.min, IntKind.bits, IntKind.signed] at h
  omega
/-- The blocks of a slice of one's own beside the shelf. -/
def Bes (B bs ba bi : Nat) : Nat → Prop := fun j => B ≤ j ∧ ¬ ShO bs ba bi j
theorem ShR.keeps {w w' : World} {Q : Nat → Prop} {bs ba bi : Nat} {W : List GKept} {last B : Nat} (h : ShR w bs ba bi W last B) (hk : Keeps Q w w') (hq : ∀ j, Q j → ¬ ShO bs ba bi j) : ShR w' bs ba bi W last B := by
  obtain ⟨h1, h2, ⟨n, h3, h4⟩, h5⟩ := h
  exact ⟨h1.keeps hk (fun e => hq _ e (.inl rfl)), h2.keeps hk (fun e => hq _ e (.inr (.inl rfl))), ⟨n, h3, h4.keeps hk (fun e => hq _ e (.inr (.inr rfl)))⟩, h5⟩
theorem shelfCounts_far (xs : List GAct) (a : Option Addr) (ca : Nat) (w : World) (h40 : ¬ xs.length ≤ 40) :
    Calls Try.prog 5 #[.slice a xs.length ca] w fun e w' => e = .returned (.bool true) ∧ Below w.heap.size w w' := by
  have h1 : (40 : Int) < (xs.length : Int) := by omega
  go_enter Try.func5, Try.ntmps5
  go_wp2_with (go_at_call 7; refine (shAlive_any _).mono ?_; rintro e w1 ⟨rfl, hb1⟩; obtain ⟨p1, rfl⟩ := grown_of hb1; clear hb1)
  go_ret
  exact ⟨rfl, (by repeat (first | exact Below.refl _ _ | assumption | refine below_grown ?_ (by first | omega | (simp [go_sem]; done) | (simp [go_sem] <;> omega)) _ | refine Below.alloc ?_ (by first | omega | (simp [go_sem]; done) | (simp [go_sem] <;> omega)) _ | refine below_bytesW ?_ (by first | omega | (simp [go_sem]; done) | (simp [go_sem] <;> omega)) _ | refine Below.drew ?_ | refine below_drewN ?_ _))⟩
set_option maxRecDepth 100000 in
set_option maxHeartbeats 8000000 in
theorem shelfCounts_near (xs : List GAct) (a : Option Addr) (ca : Nat) (w : World) (hin : ListIn actCod w a xs 0) (h40 : xs.length ≤ 40) :
    Calls Try.prog 5 #[.slice a xs.length ca] w fun e w' => e = .returned (.bool true) ∧ Below w.heap.size w w' := by
  have HIN := Lib.hid hin
  have h1 : (xs.length : Int) ≤ 40 := by omega
  clear hin
  go_enter Try.func5, Try.ntmps5
  go_upto_region 6 with (first
    | (go_at_call 7; refine (shAlive_any _).mono ?_; rintro e w1 ⟨rfl, hb1⟩; obtain ⟨p1, rfl⟩ := grown_of hb1; clear hb1)
    | (go_at_call 8; refine (shNew_any _).mono ?_; rintro e w1 ⟨bs, ba, bi, rfl, hsh, hb, hl1, hl2, hl3⟩; have HSH := Lib.hid hsh; have HB := Lib.hid (bel_up (w := w) (by repeat (first | exact Below.refl _ _ | assumption | refine below_grown ?_ (by first | omega | (simp [go_sem]; done) | (simp [go_sem] <;> omega)) _ | refine Below.alloc ?_ (by first | omega | (simp [go_sem]; done) | (simp [go_sem] <;> omega)) _ | refine below_bytesW ?_ (by first | omega | (simp [go_sem]; done) | (simp [go_sem] <;> omega)) _ | refine Below.drew ?_ | refine below_drewN ?_ _)) hb); simp only [size_grown] at hl1 hl2 hl3; clear hsh hb))
  have hl1' : w.heap.size ≤ bs := by omega
  have hl2' : w.heap.size ≤ ba := by omega
  have hl3' : w.heap.size ≤ bi := by omega
  have hs1 := HB.out.size
  have g1 := HSH.out.1.lt
  have g2 := HSH.out.2.1.lt
  have g3 : bi < w1.heap.size := by obtain ⟨n, _, h4⟩ := HSH.out.2.2.1; exact h4.lt
  clear hl1 hl2 hl3
  go_wp2_with fail
  have HO0 : Hid (Own strCod (Bes w.heap.size bs ba bi) (w1.alloc (Obj.cells #[] 9)) (.slice (some ⟨w1.heap.size, 0, none⟩) 0 0) []) := Own.made0 ⟨hs1, by rintro (e | e | e) <;> omega⟩ rfl
  have HB2 : Hid (Below w.heap.size w (w1.alloc (Obj.cells #[] 9))) := HB.out.alloc hs1 _
  have HSH2 := Lib.hid (HSH.out.below ((Below.refl w1.heap.size w1).alloc (Nat.le_refl _) (Obj.cells #[] 9)))
  have hs2 : (w1.alloc (Obj.cells #[] 9)).heap.size = w1.heap.size + 1 := by simp
  generalize (w1.alloc (Obj.cells #[] 9)) = w2 at *
  go_loopw [4, 28] (fun v s28 wr => ∃ (k : Nat) (W : List GKept) (last : Nat) (Ss : List (List UInt8)), s28 = .int .i64 (k : Int) ∧ k ≤ xs.length ∧ last ≤ k ∧ OkW W last ∧ ShR wr bs ba bi W last k ∧ Own strCod (Bes w.heap.size bs ba bi) wr v Ss ∧ Ss.Nodup ∧ (∀ y ∈ W, y.2 ∈ Ss) ∧ Ss.length ≤ k ∧ (∀ s ∈ Ss, s.length ≤ maxLen) ∧ Below w.heap.size w wr) (fun _ i _ => xs.length - (intOf i).toNat)
  case atStart => exact ⟨0, [], 0, [], rfl, Nat.zero_le _, Nat.le_refl _, OkW.nil, HSH2.out, HO0.out, List.nodup_nil, (fun y hy => (List.not_mem_nil hy).elim), Nat.zero_le _, (fun y hy => (List.not_mem_nil hy).elim), HB2.out⟩
  case round =>
    obtain ⟨k, W, last, Ss, rfl, hk, hlk, hO, hsh, ho, hnd, hsub, hsl, hsm, hbw⟩ := hrel
    have HO := Lib.hid hO
    have HSHr := Lib.hid hsh
    have HOW := Lib.hid ho
    have HND := Lib.hid hnd
    have HSUB := Lib.hid hsub
    have HSM := Lib.hid hsm
    have HBW := Lib.hid hbw
    have hsz := hbw.size
    obtain ⟨a5, c5, rfl, hc5, hl5⟩ := ho.slice (B := w.heap.size) (fun _ h => h.1)
    have HL5 := Lib.hid hl5
    clear hO hsh ho hnd hsub hsm hbw hl5
    by_cases hlt : k < xs.length
    · obtain ⟨g, o, rfl, hlo, hhi, hat⟩ := HIN.out.resolve_left (fun h => by subst h; exact absurd hlt (Nat.not_lt_zero _))
      obtain ⟨r1, q1⟩ := actRow (hat.below HBW.out) k hlt
      have hio : isOld g wr = true := isOld_iff.2 (by omega)
      have hki : (k : Int) < (xs.length : Int) := by omega
      generalize hxE : xs[k]'hlt = x at *
      have hxs := x.hsite
      clear hat hxE
      go_upto_region 10 with fail
      have hv6 : Var (wr.alloc (Obj.cells (actC x) 33)) wr.heap.size (actL x) := Var.new _ _ _ rfl rfl
      have hnb : Below wr.heap.size wr (wr.alloc (Obj.cells (actC x) 33)) := (Below.refl wr.heap.size wr).alloc (Nat.le_refl _) _
      have hb6 : Below w.heap.size w (wr.alloc (Obj.cells (actC x) 33)) := HBW.out.alloc hsz _
      have hz6 : (wr.alloc (Obj.cells (actC x) 33)).heap.size = wr.heap.size + 1 := by simp
      have e1 := HSHr.out.1.lt
      have e2 := HSHr.out.2.1.lt
      have e3 : bi < wr.heap.size := by obtain ⟨n, _, h4⟩ := HSHr.out.2.2.1; exact h4.lt
      have hn6 : ¬ ShO bs ba bi wr.heap.size := by rintro (e | e | e) <;> omega
      have m1 : hasRow (wr.alloc (Obj.cells (actC x) 33)) ⟨wr.heap.size, 1, none⟩ 29 = true := by simp [go_sem]
      have m2 : rowAt (wr.alloc (Obj.cells (actC x) 33)) ⟨wr.heap.size, 1, none⟩ 29 = cookieC x.c := by simp [go_sem]
      have m3 : (wr.alloc (Obj.cells (actC x) 33)).cell? ⟨wr.heap.size, 30, none⟩ = some (.string ⟨x.site.toArray⟩) := by simp [go_sem]
      have HV6 := Lib.hid hv6
      have HSH6 := Lib.hid (HSHr.out.below hnb)
      have HOW6 := Lib.hid (HOW.out.below hnb)
      have HB6 := Lib.hid hb6
      have HN6 := Lib.hid hn6
      clear hv6 hb6 hn6 r1 q1 hio hnb
      generalize (wr.alloc (Obj.cells (actC x) 33)) = w6 at *
      obtain ⟨b, c', W', last', hp⟩ := putW_ex W last x.c x.site (by omega)
      obtain ⟨o1, o2, o3, _, _⟩ := hp.ok HO.out hxs
      have HPS := Lib.hid (put_sites hp)
      have HPU := Lib.hid (shPut_ok hp HO.out (by omega) k bs ba bi (by omega) hxs w6 HSH6.out)
      have HO1 := Lib.hid o1
      clear hp o1
      go_upto_region 12 with (go_at_call 10; (with_reducible refine HPU.out.mono ?_); rintro e w7 ⟨rfl, hsh, hk7⟩; have hv7 := HV6.out.keeps hk7 HN6.out; have HSH7 := Lib.hid hsh; have HOW7 := Lib.hid (HOW6.out.keeps hk7 (fun j hj _ hq => hj.2 hq)); have HB7 := Lib.hid (below_of_keeps HB6.out HB6.out.size hk7 hl1' hl2' hl3'); have hz7 := hk7.size; have m7 : w7.cell? ⟨wr.heap.size, 30, none⟩ = some (.string ⟨x.site.toArray⟩) := hv7.cellAt (by unfold actL; rw [List.singleton_append, List.getElem?_cons_succ, List.getElem?_append_right (by rw [cookieL_length]; omega), cookieL_length]; rfl); have o7 : isOld wr.heap.size w7 = true := isOld_iff.2 hv7.lt; clear hsh hk7 hv7)
      clear m1 m2 m3 HPU HV6 HN6 HSH6 HOW6 HB6 HSHr
      obtain ⟨_, _, hsa, _, hl7⟩ := HOW7.out.slice (B := w.heap.size) (fun _ h => h.1)
      cases hsa
      have HL7 := Lib.hid hl7
      clear hl7
      --P
      go_wp2_with fail
      go_loopw [7, 40] (fun s7 s40 wt => ∃ j : Nat, s40 = .int .i64 (j : Int) ∧ j ≤ Ss.length ∧ s7 = .bool ((Ss.take j).any (· == x.site)) ∧ wt = w7) (fun _ q _ => Ss.length - (intOf q).toNat)
      case atStart => exact ⟨0, rfl, Nat.zero_le _, rfl, rfl⟩
      case round =>
        obtain ⟨j, rfl, hj, rfl, rfl⟩ := hrel
        by_cases hlt2 : j < Ss.length
        · obtain ⟨g5, o5, rfl, hlo5, hhi5, hat5⟩ := HL7.out.resolve_left (fun h => by subst h; exact absurd hlt2 (Nat.not_lt_zero _))
          have m5 := strAt hat5 j hlt2
          have hjj : (j : Int) < (Ss.length : Int) := by omega
          have HAN := Lib.hid (any_take Ss x.site j hlt2)
          generalize (Ss.take j).any (· == x.site) = kn at *
          generalize Ss[j]'hlt2 = sj at *
          clear hat5
          cases kn with
          | true =>
            go_wp2
            go_roundw
            case rel => exact ⟨j + 1, by simp, by omega, by rw [HAN.out]; rfl, trivial⟩
            case measure => first | (simp [intOf]; done) | (simp [intOf]; omega)
          | false =>
            go_wp2
            go_roundw
            case rel => exact ⟨j + 1, by simp, by omega, by rw [HAN.out]; simp, trivial⟩
            case measure => first | (simp [intOf]; done) | (simp [intOf]; omega)
        · obtain rfl : j = Ss.length := by omega
          rw [List.take_of_length_le (Nat.le_refl _)]
          have HAM := Lib.hid (any_mem Ss x.site)
          generalize Ss.any (· == x.site) = kn at *
          cases kn with
          | true =>
            have hmem : x.site ∈ Ss := HAM.out.1 rfl
            go_wp2
            go_roundw
            case rel => exact ⟨k + 1, W', last', Ss, by simp, by omega, by omega, HO1.out, HSH7.out, HOW7.out, HND.out, (fun y hy => by rcases HPS.out y hy with h | h; exact HSUB.out y h; rw [h]; exact hmem), by omega, HSM.out, HB7.out⟩
            case measure => first | (simp [intOf]; done) | (simp [intOf]; omega)
          | false =>
            have hmem : x.site ∉ Ss := fun h => by have := HAM.out.2 h; cases this
            have ob := HB7.out.size
            have e1 := HSH7.out.1.lt
            have e2 := HSH7.out.2.1.lt
            have e3 : bi < wr.heap.size := by obtain ⟨n, _, h4⟩ := HSH7.out.2.2.1; exact h4.lt
            have hlen : Ss.length ≤ 40 := by omega
            go_wp2_with (at_builtin; refine wpList_append_list rfl strCod (.tmp 54) (.tmp 57) 46 rfl rfl (Bes w.heap.size bs ba bi) _ _ Ss rfl (HOW7.out.alloc _) _ 0 _ _ [x.site] rfl rfl (listAt_new _ _ [_] _ rfl (by first | rfl | (simp [go_sem]; done))) (by simp [strCod]; omega) (by simp; omega) ⟨by simp; omega, by rintro (e | e | e) <;> (simp at e; omega)⟩ ?_; intro v' w9 ho1 hb1; have HO9 := Lib.hid ho1; have HK9 := Lib.hid hb1; clear ho1 hb1)
            go_roundw
            case rel =>
              have hka : Keeps (Bes w.heap.size bs ba bi) _ _ := (Keeps.of_below ((Below.refl _ _).alloc (Nat.le_refl _) _)).trans HK9.out
              refine ⟨k + 1, W', last', Ss ++ [x.site], by simp, by omega, by omega, HO1.out, HSH7.out.keeps hka (fun j hj => hj.2), HO9.out, ?_, ?_, by simp; omega, ?_, HB7.out.trans (hka.below (fun j hj => ⟨Nat.lt_of_lt_of_le hj ob, fun h => by have := h.1; omega⟩))⟩
              · rw [List.nodup_append]
                exact ⟨HND.out, by simp, fun s hs t ht e => by rw [List.mem_singleton] at ht; subst ht; subst e; exact hmem hs⟩
              · intro y hy
                rcases HPS.out y hy with h | h
                · exact List.mem_append_left _ (HSUB.out y h)
                · rw [h]; simp
              · intro s hs
                rcases List.mem_append.1 hs with hs | hs
                · exact HSM.out s hs
                · rw [List.mem_singleton] at hs; subst hs; exact hxs
            case measure => first | (simp [intOf]; done) | (simp [intOf]; omega)
      --Q
    · obtain rfl : k = xs.length := by omega
      have hWl := HO.out.length
      have HSL := Lib.hid (sumC_all Ss HND.out W HSUB.out)
      have HTK : Hid (∀ j (hj : j < Ss.length), sumC W (Ss.take (j + 1)) = sumC W (Ss.take j) + countW W (Ss[j]'hj)) := fun j hj => sumC_take W Ss j hj
      have HLE : Hid (∀ j, sumC W (Ss.take j) ≤ W.length) := fun j => sumC_le W Ss j HND.out HSUB.out
      have hl5' := HL5.out
      have hWB : W.length ≤ 40 := by omega
      clear HSUB HND
      go_upto_region 21 with fail
      go_wp2_with fail
      go_loopw [10, 62] (fun s10 s62 wt => ∃ j : Nat, s62 = .int .i64 (j : Int) ∧ j ≤ Ss.length ∧ s10 = .int .i64 (sumC W (Ss.take j) : Nat) ∧ Below wr.heap.size wr wt) (fun _ q _ => Ss.length - (intOf q).toNat)
      case atStart => exact ⟨0, rfl, Nat.zero_le _, rfl, Below.refl _ _⟩
      case round =>
        obtain ⟨j, rfl, hj, rfl, hbt⟩ := hrel
        have hzt := hbt.size
        by_cases hlt2 : j < Ss.length
        · obtain ⟨g5, o5, rfl, hlo5, hhi5, hat5⟩ := HL5.out.resolve_left (fun h => by subst h; exact absurd hlt2 (Nat.not_lt_zero _))
          have m5 := strAt (hat5.below hbt) j hlt2
          have hjj : (j : Int) < (Ss.length : Int) := by omega
          have hms := HSM.out _ (List.getElem_mem hlt2)
          have HCO := Lib.hid (shCount_any W last xs.length bs ba bi (Ss[j]'hlt2) hms wr (HSHr.out.below hbt))
          have HTJ := Lib.hid (HTK.out j hlt2)
          have hle1 := HLE.out (j + 1)
          rw [HTJ.out] at hle1
          have HBT := Lib.hid hbt
          generalize sumC W (Ss.take j) = acc at *
          generalize countW W (Ss[j]'hlt2) = cn at *
          generalize Ss[j]'hlt2 = sj at *
          have hwk : IntKind.i64.wrap ((acc : Int) + (cn : Int)) = (acc : Int) + (cn : Int) := IntWalk.i64_in _ (by omega)
          clear hat5 hbt
          go_wp2_with (go_at_call 16; (with_reducible refine HCO.out.mono ?_); rintro e w7 ⟨rfl, hb7⟩; have HB7 := Lib.hid hb7; clear hb7)
          go_roundw
          case rel => exact ⟨j + 1, by simp, by omega, by rw [HTJ.out]; simp, HBT.out.trans (HB7.out.mono hzt)⟩
          case measure => first | (simp [intOf]; done) | (simp [intOf]; omega)
        · obtain rfl : j = Ss.length := by omega
          rw [List.take_of_length_le (Nat.le_refl _), HSL.out]
          have HLN := Lib.hid (shLen_any W last _ bs ba bi wr (HSHr.out.below hbt))
          have HBT := Lib.hid hbt
          clear hbt
          go_upto_region 28 with (go_at_call 14; (with_reducible refine HLN.out.mono ?_); rintro e w7 ⟨rfl, hb7⟩; have HB7 := Lib.hid (HBT.out.trans (hb7.mono hzt)); clear hb7)
          have hz7 := HB7.out.size
          have HSH7 := Lib.hid (HSHr.out.below HB7.out)
          have HBW7 := Lib.hid (HBW.out.trans (HB7.out.mono hsz))
          have HUS : Hid (∀ y ∈ W, -9223372036854775808 ≤ y.1.used) := fun y _ => wf_ge y.1.hused
          go_wp2_with fail
          go_loopw [13, 14] (fun s13 s14 wt => ∃ (j : Nat) (V : List GKept) (u : Int), s14 = .int .i64 (j : Int) ∧ s13 = .int .i64 u ∧ V.length + j = W.length ∧ OkW V last ∧ ShR wt bs ba bi V last xs.length ∧ (∀ y ∈ V, u ≤ y.1.used) ∧ Below w.heap.size w wt) (fun _ q _ => W.length - (intOf q).toNat)
          case atStart => exact ⟨0, W, _, rfl, rfl, rfl, HO.out, HSH7.out, HUS.out, HBW7.out⟩
          case round =>
            obtain ⟨j, V, u, rfl, rfl, hVj, hOV, hshV, huV, hbt⟩ := hrel
            have hzt := hbt.size
            have HBT := Lib.hid hbt
            have HSHV := Lib.hid hshV
            have q1 := hshV.1.lt
            have q2 := hshV.2.1.lt
            have q3 : bi < wr.heap.size := by obtain ⟨n, _, h4⟩ := hshV.2.2.1; exact h4.lt
            by_cases hlt3 : j < W.length
            · have hne : V ≠ [] := by rintro rfl; simp at hVj; omega
              have HOA := Lib.hid (shOldestAll_any V hOV.apart hOV.rises last xs.length bs ba bi wr hshV)
              obtain ⟨p1, p2, p3⟩ := old_all hOV hne
              rw [p1] at HOA
              have hfs := find_self hOV.apart p2
              have hu1 := huV _ p2
              generalize (oldW (fun _ => true) V).2 = bk at *
              have HDR : Hid (∀ w', ShR w' bs ba bi V last xs.length → Calls Try.prog 9 #[.pointer (some ⟨bs, 0, none⟩), .agg (cookieC bk.1)] w' fun e w'' => e = .returned (.bool true) ∧ ShR w'' bs ba bi (dropW V bk.1) last xs.length ∧ Keeps (ShO bs ba bi) w' w'') := fun w' h' => by
                have := shDrop_any V last hOV (by omega) xs.length bs ba bi (by omega) bk.1 w' h'
                rw [hfs] at this
                exact this
              have hdl := drop_len hOV.apart hfs
              have HOD := Lib.hid (hOV.drop bk.1)
              have HP3 := Lib.hid p3
              have hjj : (j : Int) < (W.length : Int) := by omega
              have hnl : ¬ bk.1.used < u := by omega
              have hwk : IntKind.i64.wrap ((j : Int) + 1) = (j : Int) + 1 := IntWalk.i64_in _ (by omega)
              clear hOV hshV huV hbt hfs p1 p2 p3 hu1
              go_upto_region 33 with (go_at_call 17; (with_reducible refine HOA.out.mono ?_); rintro e w8 ⟨rfl, hb8⟩; have HB8 := Lib.hid hb8; clear hb8)
              have hb9 : Below wr.heap.size wr (w8.alloc (Obj.cells (cookieC bk.1) 31)) := HB8.out.alloc HB8.out.size _
              have hv9 : Var (w8.alloc (Obj.cells (cookieC bk.1) 31)) w8.heap.size (cookieL bk.1) := Var.new _ _ _ rfl rfl
              have hz8 := HB8.out.size
              have hn9 : ¬ ShO bs ba bi w8.heap.size := by rintro (e | e | e) <;> omega
              have HSH9 := Lib.hid (HSHV.out.below hb9)
              have HV9 := Lib.hid hv9
              have HN9 := Lib.hid hn9
              have HBT9 := Lib.hid (HBT.out.trans (hb9.mono hzt))
              have k1 : hasRow (w8.alloc (Obj.cells (cookieC bk.1) 31)) ⟨w8.heap.size, 0, none⟩ 29 = true := hv9.hasRow (cookieL_length _)
              have k2 : rowAt (w8.alloc (Obj.cells (cookieC bk.1) 31)) ⟨w8.heap.size, 0, none⟩ 29 = cookieC bk.1 := hv9.rowAt (cookieL_length _)
              have k3 : (w8.alloc (Obj.cells (cookieC bk.1) 31)).cell? ⟨w8.heap.size, 27, none⟩ = some (.int .i64 bk.1.used) := hv9.cellAt (by rw [cookieL_at _ _ (by decide)]; rfl)
              clear hb9 hv9 hn9 HB8
              generalize (w8.alloc (Obj.cells (cookieC bk.1) 31)) = w9 at *
              go_wp2_with (go_at_call 9; (with_reducible refine (HDR.out _ HSH9.out).mono ?_); rintro e w10 ⟨rfl, hsh10, hk10⟩; have k4 : w10.cell? ⟨w8.heap.size, 27, none⟩ = some (.int .i64 bk.1.used) := (HV9.out.keeps hk10 HN9.out).cellAt (by rw [cookieL_at _ _ (by decide)]; rfl); have HSH10 := Lib.hid hsh10; have HB10 := Lib.hid (below_of_keeps HBT9.out HBT9.out.size hk10 hl1' hl2' hl3'); clear hsh10 hk10)
              go_roundw
              case rel => exact ⟨j + 1, dropW V bk.1, bk.1.used, by simp, rfl, by omega, HOD.out, HSH10.out, (fun y hy => HP3.out y (List.mem_filter.1 hy).1), HB10.out⟩
              case measure => first | (simp [intOf]; done) | (simp [intOf]; omega)
            · have hV0 : V = [] := List.eq_nil_of_length_eq_zero (by omega)
              subst hV0
              obtain rfl : j = W.length := by simp at hVj; omega
              have HOA := Lib.hid (shOldestAll_any [] hOV.apart hOV.rises last xs.length bs ba bi wr hshV)
              rw [old_nil] at HOA
              have HLN2 : Hid (∀ w', Below wr.heap.size wr w' → Calls Try.prog 14 #[.pointer (some ⟨bs, 0, none⟩)] w' fun e w'' => e = .returned (.int .i64 0) ∧ Below w'.heap.size w' w'') := fun w' hb => shLen_any [] last _ bs ba bi w' (hshV.below hb)
              clear hOV hshV huV hbt
              go_upto_region 37 with (go_at_call 17; (with_reducible refine HOA.out.mono ?_); rintro e w8 ⟨rfl, hb8⟩; have HB8 := Lib.hid hb8; clear hb8)
              have hb9 := HB8.out.alloc HB8.out.size (Obj.cells (cookieC zeroCk) 31)
              go_wp2_with (go_at_call 14; (with_reducible refine (HLN2.out _ (HB8.out.alloc HB8.out.size _)).mono ?_); rintro e w10 ⟨rfl, hb10⟩; have HB10 := Lib.hid hb10; clear hb10)
              go_ret
              refine ⟨by first | rfl | exact ret_bool (by simp), ?_⟩
              exact HBT.out.trans (((HB8.out.alloc HB8.out.size _).trans (HB10.out.mono (HB8.out.alloc HB8.out.size _).size)).mono hzt)
theorem shelfCounts_any (xs : List GAct) (a : Option Addr) (ca : Nat) (w : World) (hin : ListIn actCod w a xs 0) :
    Calls Try.prog 5 #[.slice a xs.length ca] w fun e w' => e = .returned (.bool true) ∧ Below w.heap.size w w' := by
  by_cases h : xs.length ≤ 40
  · exact shelfCounts_near xs a ca w hin h
  · exact shelfCounts_far xs a ca w h
end Go.Proofs.Ytaondmaebgicgaa
