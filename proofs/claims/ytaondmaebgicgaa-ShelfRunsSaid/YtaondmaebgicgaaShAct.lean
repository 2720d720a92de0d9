/- Acts as data; the shelf's doings over any list. -/
import Derived.Test.YtaondmaebgicgaaShLive
import Derived.Test.YtaondmaebgicgaaShUse
namespace Go.Proofs.Ytaondmaebgicgaa
open Go Go.RowKit
set_option maxRecDepth 20000
set_option linter.unusedSimpArgs false
set_option linter.unusedVariables false

structure GAct where
  kind : Int
  c : GCookie
  site : List UInt8
  n : Int
  hkind : (Lit.int .i64 kind).wf = true
  hsite : site.length ≤ maxLen
  hn : (Lit.int .i64 n).wf = true
def actL (x : GAct) : List Value := [.int .i64 x.kind] ++ (cookieL x.c ++ [.string ⟨x.site.toArray⟩, .int .i64 x.n])
def actC (x : GAct) : Array Value := (actL x).toArray
theorem actL_length (x : GAct) : (actL x).length = 32 := by simp [actL, cookieL_length]
theorem act_one (x : GAct) : ∀ v ∈ actL x, v.oneCell' = true := by
  intro v hv
  simp only [actL, List.mem_append, List.mem_cons, List.not_mem_nil, or_false] at hv
  rcases hv with rfl | hv | rfl | rfl
  · rfl
  · exact cookie_one _ v hv
  · rfl
  · rfl
@[go_sem] theorem actC_size (x : GAct) : (actC x).size = 32 := by simp [actC, actL_length]
@[go_sem] theorem actC_one (x : GAct) : allOne (actC x) = true := allOne_of (act_one x)
@[go_sem] theorem agg_act : isAggT Try.prog 33 = true := by kernel_rfl
@[go_sem] theorem cellsOf_act : Try.prog.cellsOf 33 = 32 := by kernel_rfl
@[go_sem] theorem actC_all (x : GAct) : (actC x).extract 0 32 = actC x := by
  have := actC_size x
  rw [← this]; simp
@[go_sem] theorem actC_cookie (x : GAct) : (actC x).extract 1 30 = cookieC x.c := extract_mid _ _ _ 1 30 rfl (by rw [cookieL_length])
theorem act_idx (x : GAct) (i : Nat) (v : Value) (hi : 30 ≤ i) (h : [Value.string ⟨x.site.toArray⟩, .int .i64 x.n][i - 30]? = some v) : (actC x)[i]? = some v := by
  rw [actC, List.getElem?_toArray, actL, List.getElem?_append_right (by simp; omega), List.getElem?_append_right (by rw [cookieL_length]; simp; omega), cookieL_length, ← h]
  congr 1
@[go_sem ↓ high] theorem actC_0 (x : GAct) : (actC x)[0]? = some (.int .i64 x.kind) := by simp [actC, actL]
@[go_sem ↓ high] theorem actC_30 (x : GAct) : (actC x)[30]? = some (.string ⟨x.site.toArray⟩) := act_idx x 30 _ (by decide) rfl
@[go_sem ↓ high] theorem actC_31 (x : GAct) : (actC x)[31]? = some (.int .i64 x.n) := act_idx x 31 _ (by decide) rfl
def zeroAct : GAct := ⟨0, zeroCk, [], 0, rfl, by decide, rfl⟩
theorem act_info : (Try.prog.info? 33).map (fun i => (i.zero, i.size, i.bytes)) = some (some (.agg (actC zeroAct)), 32, 176) := by kernel_rfl
def actCod : Cod GAct where
  E := 33
  S := 22
  sz := 32
  bys := 176
  z := .agg (actC zeroAct)
  enc := actL
  und := Try.underlying22
  info := act_info
  zsz := by show (actC zeroAct).size = 32; exact actC_size _
  pos := by decide
  len := actL_length
  one := act_one
theorem listRow {α : Type} {c : Cod α} {w : World} {b o : Nat} {xs : List α} (h : ListAt c w b o xs) (i : Nat) (hi : i < xs.length) : hasRow w ⟨b, o + i * c.sz, none⟩ c.sz = true ∧ rowAt w ⟨b, o + i * c.sz, none⟩ c.sz = (c.enc (xs[i]'hi)).toArray := by
  have key : ∀ j, j < c.sz → w.cell? ⟨b, o + i * c.sz + j, none⟩ = (c.enc (xs[i]'hi))[j]? := fun j hj => by
    have hl : j < (c.enc (xs[i]'hi)).length := by rw [c.len]; exact hj
    have := h.get i hi j _ (List.getElem?_eq_getElem hl)
    rw [List.getElem?_eq_getElem hl, ← this, Nat.add_assoc]
  constructor
  · rw [hasRow_iff]
    intro j hj
    rw [add_mk, key j hj, List.getElem?_eq_getElem (by rw [c.len]; exact hj)]; rfl
  · apply Array.ext_getElem?
    intro j
    simp only [rowAt, List.getElem?_toArray, List.getElem?_map, add_mk]
    by_cases hj : j < c.sz
    · have e : (List.range c.sz)[j]? = some j := by simp [hj]
      rw [e, Option.map_some, key j hj, List.getElem?_eq_getElem (by rw [c.len]; exact hj)]; rfl
    · have e : (List.range c.sz)[j]? = none := by simp; omega
      rw [e, List.getElem?_eq_none (by rw [c.len]; omega)]; rfl
theorem actRow {w : World} {b o : Nat} {xs : List GAct} (h : ListAt actCod w b o xs) (i : Nat) (hi : i < xs.length) : hasRow w ⟨b, o + i * 32, none⟩ 32 = true ∧ rowAt w ⟨b, o + i * 32, none⟩ 32 = actC (xs[i]'hi) := listRow h i hi
theorem ckRow {w : World} {b o : Nat} {xs : List GCookie} (h : ListAt cookCod w b o xs) (i : Nat) (hi : i < xs.length) : hasRow w ⟨b, o + i * 29, none⟩ 29 = true ∧ rowAt w ⟨b, o + i * 29, none⟩ 29 = cookieC (xs[i]'hi) := listRow h i hi
/-! ### lists that are well made -/
theorem OkW.length {W : List GKept} {last : Nat} (h : OkW W last) : W.length ≤ last := by
  have key : ∀ (W : List GKept) (lo : Int), W.Pairwise (fun a b => a.1.seq < b.1.seq) → (∀ k ∈ W, lo < k.1.seq ∧ k.1.seq ≤ (last : Int)) → lo ≤ (last : Int) → (W.length : Int) ≤ (last : Int) - lo := by
    intro W
    induction W with
    | nil => intro lo _ _ h; simp; omega
    | cons k W ih =>
      intro lo hp hb hl
      have h1 := List.pairwise_cons.1 hp
      have h2 := hb k (by simp)
      have := ih k.1.seq h1.2 (fun x hx => ⟨h1.1 x hx, (hb x (by simp [hx])).2⟩) h2.2
      rw [List.length_cons]
      omega
  have := key W 0 h.rises (fun k hk => by have := h.most k hk; omega) (by omega)
  omega
theorem OkW.drop {W : List GKept} {last : Nat} (h : OkW W last) (c : GCookie) : OkW (dropW W c) last := h.filter _
theorem shDrop_any (W : List GKept) (last : Nat) (hO : OkW W last) (hl : last < 1073741824) (B bs ba bi : Nat) (hB : B < 1073741824) (c : GCookie) (w : World) (h : ShR w bs ba bi W last B) :
    Calls Try.prog 9 #[.pointer (some ⟨bs, 0, none⟩), .agg (cookieC c)] w fun e w' => e = .returned (.bool (findW W c).isSome) ∧ ShR w' bs ba bi (dropW W c) last B ∧ Keeps (ShO bs ba bi) w w' := by
  have hlen := hO.length
  cases hf : findW W c with
  | none =>
    refine (shDrop_no W last B bs ba bi c w h hf).mono ?_
    rintro e w' ⟨he, hb⟩
    rw [drop_none hf]
    exact ⟨he, h.below hb, Keeps.of_below hb⟩
  | some k => exact shDrop_yes W hO.apart (by omega) last B bs ba bi (by unfold maxLen; omega) c w h k hf (hO.site k (find_mem hf))
theorem PutW.ok {W : List GKept} {last : Nat} {c c' : GCookie} {s : List UInt8} {b : Bool} {W' : List GKept} {last' : Nat} (hp : PutW W last c s b c' W' last') (hO : OkW W last) (hs : s.length ≤ maxLen) : OkW W' last' ∧ last ≤ last' ∧ last' ≤ last + 1 ∧ (b = false → last' = last + 1 ∧ findW W' c = some (c', s) ∧ c'.seq = ((last + 1 : Nat) : Int)) ∧ (b = true → last' = last) := by
  cases hp with
  | yes k h =>
    have hx : samePl (putC c k) c = true := samePl_of (place_put c k)
    exact ⟨hO.repl (x := (putC c k, s)) h hx rfl hs, Nat.le_refl _, Nat.le_succ _, (fun h => by cases h), fun _ => rfl⟩
  | no h hw =>
    have hx : samePl (newC c ((last + 1 : Nat) : Int) hw) c = true := samePl_of (place_new c _ hw)
    exact ⟨hO.snoc (x := (newC c ((last + 1 : Nat) : Int) hw, s)) h hx rfl hs, Nat.le_succ _, Nat.le_refl _, fun _ => ⟨rfl, find_snoc h hx, rfl⟩, (fun h => by cases h)⟩
theorem putW_ex (W : List GKept) (last : Nat) (c : GCookie) (s : List UInt8) (hl : last < 1073741824) : ∃ b c' W' last', PutW W last c s b c' W' last' := by
  cases hf : findW W c with
  | none => exact ⟨_, _, _, _, PutW.no hf (wf_nat (by omega))⟩
  | some k => exact ⟨_, _, _, _, PutW.yes k hf⟩
theorem shPut_ok {W : List GKept} {last : Nat} {c c' : GCookie} {s : List UInt8} {b : Bool} {W' : List GKept} {last' : Nat} (hp : PutW W last c s b c' W' last') (hO : OkW W last) (hl : last < 1073741824) (B bs ba bi : Nat) (hB : B < 1073741824) (hs : s.length ≤ maxLen) (w : World) (h : ShR w bs ba bi W last B) :
    Calls Try.prog 10 #[.pointer (some ⟨bs, 0, none⟩), .agg (cookieC c), .string ⟨s.toArray⟩] w fun e w' => e = .returned (.bool b) ∧ ShR w' bs ba bi W' last' (B + 1) ∧ Keeps (ShO bs ba bi) w w' :=
  shPut_any W hO.apart (by have := hO.length; omega) last B bs ba bi (by omega) (by omega) c s hs hO.site w h b c' W' last' hp
end Go.Proofs.Ytaondmaebgicgaa
