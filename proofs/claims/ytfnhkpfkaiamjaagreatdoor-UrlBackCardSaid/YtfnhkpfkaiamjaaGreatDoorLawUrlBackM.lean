/- Merged: UrlBackP, LawUrlBack. -/
import Derived.Test.YtfnhkpfkaiamjaaGreatDoorUrlAlive
namespace Go.Proofs.YtfnhkpfkaiamjaaGreatDoor
section
open Go Go.RowKit
set_option maxRecDepth 20000
set_option linter.unusedSimpArgs false
set_option linter.unusedVariables false

theorem ixAny_app (cs y : List UInt8) : ∀ x : List UInt8, (∀ c ∈ x, cs.contains c = false) → Lib.indexAny (x ++ y) cs = if Lib.indexAny y cs = -1 then -1 else Lib.indexAny y cs + x.length
  | [], _ => by
    by_cases h : Lib.indexAny y cs = -1
    · simp [h]
    · simp [h]
  | c :: x, hx => by
    have ih := ixAny_app cs y x (fun d hd => hx d (by simp [hd]))
    have hc := hx c (by simp)
    have hge := (ixAny_bd y cs).1
    rw [List.cons_append, Lib.indexAny, hc, ih]
    by_cases h : Lib.indexAny y cs = -1
    · simp [h]
    · rw [if_neg h, if_neg h]
      have : ¬ ((Lib.indexAny y cs + (x.length : Int)) == -1) = true := by rw [beq_iff_eq]; omega
      rw [if_neg this]
      simp; omega
theorem ixByte_app (b : UInt8) (y : List UInt8) : ∀ x : List UInt8, b ∉ x → Lib.indexByte (x ++ y) b = if Lib.indexByte y b = -1 then -1 else Lib.indexByte y b + x.length
  | [], _ => by
    by_cases h : Lib.indexByte y b = -1
    · simp [h]
    · simp [h]
  | c :: x, hx => by
    have ih := ixByte_app b y x (fun hd => hx (by simp [hd]))
    have hc : (c == b) = false := by rw [beq_eq_false_iff_ne]; rintro rfl; exact hx (by simp)
    have hge := (ixByte_bd y b).1
    rw [List.cons_append, Lib.indexByte, hc, ih]
    by_cases h : Lib.indexByte y b = -1
    · simp [h]
    · rw [if_neg h, if_neg h]
      have : ¬ ((Lib.indexByte y b + (x.length : Int)) == -1) = true := by rw [beq_iff_eq]; omega
      rw [if_neg this]
      simp; omega
theorem cut_at (x y cs : List UInt8) (c : UInt8) (hx : ∀ c ∈ x, cs.contains c = false) (hc : cs.contains c = true) : (x ++ c :: y).take (cutAny (x ++ c :: y) cs) = x ∧ (x ++ c :: y).drop (cutAny (x ++ c :: y) cs) = c :: y := by
  have h0 : Lib.indexAny (c :: y) cs = 0 := by rw [Lib.indexAny, hc]; rfl
  have h := ixAny_app cs (c :: y) x hx
  rw [h0, if_neg (by decide)] at h
  have e : cutAny (x ++ c :: y) cs = x.length := by
    unfold cutAny
    rw [h, if_pos (by omega)]; omega
  rw [e]
  exact ⟨List.take_left, List.drop_left⟩
theorem cut_no (x cs : List UInt8) (hx : ∀ c ∈ x, cs.contains c = false) : x.take (cutAny x cs) = x := by
  have h := ixAny_app cs [] x hx
  rw [List.append_nil, show Lib.indexAny [] cs = -1 from rfl, if_pos rfl] at h
  have e : cutAny x cs = x.length := by unfold cutAny; rw [h, if_neg (by decide)]
  rw [e, List.take_length]
/-! ### the bytes of texts -/
def c12 (c : UInt8) : Bool := (c != 47 && (c != 63 && c != 35)) && ((c != 58 && c != 91) && asc c)
def c3 (c : UInt8) : Bool := (c != 47 && (c != 63 && c != 35)) && (c != 93 && asc c)
theorem lab_c12 (c : UInt8) (h : labC c = true) : c12 c = true := by
  have key : ∀ i : Fin 256, labC (UInt8.ofNat i.val) = true → c12 (UInt8.ofNat i.val) = true := by decide +kernel
  have := key ⟨c.toNat, c.toNat_lt⟩
  simp only [UInt8.ofNat_toNat] at this
  exact this h
theorem decT_c12 (c : UInt8) : (decT c.toNat).all c12 = true := by
  have key : ∀ i : Fin 256, (decT i.val).all c12 = true := by decide +kernel
  exact key ⟨c.toNat, c.toNat_lt⟩
theorem hexd_c3 (i : Nat) (h : i < 16) : c3 (hexd i) = true := by
  have key : ∀ i : Fin 16, c3 (hexd i.val) = true := by decide +kernel
  exact key ⟨i, h⟩
theorem join_c (p : UInt8 → Bool) (c : UInt8) (hc : p c = true) (L : List (List UInt8)) (hL : ∀ x ∈ L, x.all p = true) : (joinL c L).all p = true := by
  rw [List.all_eq_true]
  intro x hx
  rcases joinL_mem c L x hx with rfl | ⟨q, hq, hxq⟩
  · exact hc
  · exact List.all_eq_true.1 (hL q hq) x hxq
theorem name_c12 {n : List UInt8} (h : (splitL 46 n).all labOk = true) : n.all c12 = true := by
  rw [← join_split 46 n]
  refine join_c c12 46 (by decide) _ fun x hx => ?_
  rw [List.all_eq_true]
  exact fun c hc => lab_c12 c (List.all_eq_true.1 (labOk_all (List.all_eq_true.1 h x hx)) c hc)
theorem text4_c12 (a : List UInt8) : (text4L a).all c12 = true :=
  join_c c12 46 (by decide) _ fun x hx => by
    simp only [List.mem_map] at hx
    obtain ⟨c, _, rfl⟩ := hx
    exact decT_c12 c
theorem written_c3 (g : List UInt16) : (writtenL g).all c3 = true :=
  join_c c3 58 (by decide) _ fun x hx => by
    simp only [List.mem_map] at hx
    obtain ⟨c, _, rfl⟩ := hx
    rw [List.all_eq_true]
    intro d hd
    obtain ⟨i, hi, rfl⟩ := hexL_mem c.toNat c.toNat_lt d hd
    exact hexd_c3 i hi
theorem text6_c3 (a : List UInt8) : (text6L a).all c3 = true := by
  unfold text6L text6G
  split
  · exact written_c3 _
  · rw [List.all_append, List.all_append, written_c3, written_c3]; rfl
theorem parseOk_nil : parseOk [] = false := by decide +kernel
/-- The text of a host that can be: of bytes that part nothing, or in brackets. -/
theorem text_form {h : GHost} (hr : rightB h = true) : (textH h ≠ [] ∧ (textH h).all c12 = true) ∨ ∃ x, textH h = 91 :: (x ++ [93]) ∧ x.all c3 = true := by
  have hp : parseOk (textH h) = true := by
    unfold rightB at hr
    simp only [Bool.and_eq_true] at hr
    exact hr.1
  have hne : textH h ≠ [] := by
    intro e
    rw [e, parseOk_nil] at hp; cases hp
  by_cases k1 : h.kind = 1
  · refine .inl ⟨hne, ?_⟩
    rw [show textH h = h.name from if_pos k1]
    exact name_c12 (nameOk_facts (h := h) (by unfold nameOk; rw [hr, k1]; rfl)).2.2.1
  · by_cases k2 : h.kind = 2
    · refine .inl ⟨hne, ?_⟩
      rw [show textH h = text4L h.addr.b by unfold textH; rw [if_neg k1, if_pos k2]]
      exact text4_c12 _
    · by_cases k3 : h.kind = 3
      · exact .inr ⟨text6L h.addr.b, by unfold textH; rw [if_neg k1, if_neg k2, if_pos k3]; rfl, text6_c3 _⟩
      · exact absurd (by unfold textH; rw [if_neg k1, if_neg k2, if_neg k3]) hne
theorem c12_split {c : UInt8} (h : c12 c = true) : c ≠ 47 ∧ c ≠ 63 ∧ c ≠ 35 ∧ c ≠ 58 ∧ c ≠ 91 ∧ asc c = true := by
  unfold c12 at h
  simp only [Bool.and_eq_true, bne_iff_ne] at h
  exact ⟨h.1.1, h.1.2.1, h.1.2.2, h.2.1.1, h.2.1.2, h.2.2⟩
theorem c3_split {c : UInt8} (h : c3 c = true) : c ≠ 47 ∧ c ≠ 63 ∧ c ≠ 35 ∧ c ≠ 93 ∧ asc c = true := by
  unfold c3 at h
  simp only [Bool.and_eq_true, bne_iff_ne] at h
  exact ⟨h.1.1, h.1.2.1, h.1.2.2, h.2.1, h.2.2⟩
/-- The text of a host and a port falls into these two. -/
theorem cut_back {h : GHost} (hr : rightB h = true) (b : List UInt8) (hb : b = [] ∨ ∃ t, b = 58 :: t) : cutHP (textH h ++ b) = (textH h, b) := by
  rcases text_form hr with ⟨hne, hall⟩ | ⟨x, hx, hall⟩
  · rw [List.all_eq_true] at hall
    obtain ⟨c, t, hct⟩ := List.exists_cons_of_ne_nil hne
    have h91 : Lib.hasPrefix (textH h ++ b) [91] = false := by
      rw [hct]
      show ((91 : UInt8) == c && List.isPrefixOf [] (t ++ b)) = false
      rw [beq_eq_false_iff_ne.2 (Ne.symm (c12_split (hall c (by rw [hct]; simp))).2.2.2.2.1)]; rfl
    have h58 : (58 : UInt8) ∉ textH h := fun hm => (c12_split (hall 58 hm)).2.2.2.1 rfl
    have hi := ixByte_app 58 b (textH h) h58
    unfold cutHP
    rw [h91, if_neg (by decide)]
    rcases hb with rfl | ⟨t, rfl⟩
    · rw [show Lib.indexByte [] 58 = -1 from rfl, if_pos rfl] at hi
      rw [hi, if_neg (by decide), List.append_nil]
    · rw [show Lib.indexByte (58 :: t) 58 = 0 from rfl, if_neg (by decide), Int.zero_add] at hi
      rw [hi, if_pos (by omega), Int.toNat_natCast, List.take_left, List.drop_left]
  · rw [List.all_eq_true] at hall
    have h93 : (93 : UInt8) ∉ (91 :: x) := by
      intro hm
      rcases List.mem_cons.1 hm with h' | h'
      · exact absurd h' (by decide)
      · exact (c3_split (hall 93 h')).2.2.2.1 rfl
    have e0 : textH h ++ b = (91 :: x) ++ (93 :: b) := by rw [hx]; simp
    have hi := ixByte_app 93 (93 :: b) (91 :: x) h93
    rw [show Lib.indexByte (93 :: b) 93 = 0 from rfl, if_neg (by decide)] at hi
    unfold cutHP
    rw [e0, show Lib.hasPrefix ((91 :: x) ++ (93 :: b)) [91] = true from rfl, if_pos rfl, hi, if_pos (by omega)]
    have e : ((0 : Int) + ((91 :: x).length : Int)).toNat + 1 = (textH h).length := by rw [hx]; simp <;> omega
    rw [e, ← e0, List.take_left, List.drop_left]
/-! ### ports -/
theorem decDigits_facts : ∀ n : Nat, decL (Lib.decDigits n) = n ∧ (Lib.decDigits n).all digC = true ∧ Lib.decDigits n ≠ [] ∧ (0 < n → (Lib.decDigits n).headD 0 ≠ 48) := by
  intro n
  induction n using Nat.strongRecOn with
  | _ n ih =>
    have hd : ∀ k : Nat, k < 10 → digC (decD k) = true ∧ ((decD k).toNat : Int) - 48 = k ∧ (0 < k → decD k ≠ 48) := by
      intro k hk
      have key : ∀ i : Fin 10, digC (decD i.val) = true ∧ ((decD i.val).toNat : Int) - 48 = i.val ∧ (0 < i.val → decD i.val ≠ 48) := by decide +kernel
      exact key ⟨k, hk⟩
    by_cases h : n < 10
    · rw [Lib.decDigits_one h]
      obtain ⟨a, b, c⟩ := hd n h
      refine ⟨?_, ?_, by simp, ?_⟩
      · show 10 * (0 : Int) + (((decD n).toNat : Int) - 48) = n
        omega
      · show (digC (decD n) && true) = true
        rw [a]; rfl
      · exact c
    · obtain ⟨a1, a2, a3, a4⟩ := ih (n / 10) (by omega)
      obtain ⟨b1, b2, b3⟩ := hd (n % 10) (by omega)
      have e : Lib.decDigits n = Lib.decDigits (n / 10) ++ [decD (n % 10)] := by rw [Lib.decDigits, dif_neg h]; rfl
      rw [e]
      refine ⟨?_, ?_, by simp, ?_⟩
      · unfold decL at a1 ⊢
        rw [List.foldl_append, a1]
        show 10 * ((n / 10 : Nat) : Int) + (((decD (n % 10)).toNat : Int) - 48) = n
        omega
      · rw [List.all_append, a2]
        show (digC (decD (n % 10)) && true) = true
        rw [b1]; rfl
      · intro _
        obtain ⟨c, t, hct⟩ := List.exists_cons_of_ne_nil a3
        rw [hct] at a4 ⊢
        exact a4 (by omega)
theorem port_num {n : Nat} (h0 : 0 < n) (h1 : n ≤ 65535) : numOk (Lib.decDigits n) = true ∧ numV (Lib.decDigits n) = n := by
  obtain ⟨a1, a2, a3, a4⟩ := decDigits_facts n
  have hl := decDigits_len 4 n (by omega)
  have hok : numOk (Lib.decDigits n) = true := by
    unfold numOk digitsB
    rw [a2, decide_eq_true (by omega : (Lib.decDigits n).length ≤ 18), List.isEmpty_eq_false_iff.2 a3, beq_eq_false_iff_ne.2 (a4 h0)]
    rfl
  exact ⟨hok, by rw [num_yes hok, a1]⟩
theorem dec_asc (n : Nat) : (Lib.decDigits n).all asc = true := by
  have h := (decDigits_facts n).2.1
  rw [List.all_eq_true] at h ⊢
  intro c hc
  have := digC_bd (h c hc)
  unfold asc
  simp; omega
theorem pathC_split {c : UInt8} (h : pathC c = true) : c ≠ 63 ∧ c ≠ 35 ∧ asc c = true := by
  have key : ∀ i : Fin 256, pathC (UInt8.ofNat i.val) = true → UInt8.ofNat i.val ≠ 63 ∧ UInt8.ofNat i.val ≠ 35 ∧ asc (UInt8.ofNat i.val) = true := by decide +kernel
  have := key ⟨c.toNat, c.toNat_lt⟩
  simp only [UInt8.ofNat_toNat] at this
  exact this h
theorem path_back {pa : List UInt8} (h : pathOk pa = true) : pathOf pa = pa := by
  obtain ⟨h1, _, _, ha⟩ := path_byte h
  have e := cut_no pa [63, 35] (fun c hc => by
    obtain ⟨a, b, _⟩ := pathC_split (List.all_eq_true.1 ha c hc)
    simp [a, b])
  unfold pathOf
  rw [e, if_neg (List.length_pos_iff.1 (by omega))]
def portT (se : Bool) (po : Int) : List UInt8 := if po = usualP se then [] else [58] ++ Lib.decDigits po.toNat
theorem goodT_eq (se : Bool) (h : GHost) (po : Int) (pa : List UInt8) : goodT se h po pa = usualT se ++ (textH h ++ portT se po ++ pa) := by
  unfold goodT portT; simp
theorem out_back {se : Bool} {h : GHost} {po : Int} {pa : List UInt8} (hr : rightU h po pa = true) : outOf se (restL se (textH h ++ portT se po ++ pa)) = (0, se, h, po, pa) := by
  unfold rightU at hr
  simp only [Bool.and_eq_true, decide_eq_true_eq] at hr
  obtain ⟨r1, p1, p2, pk⟩ := hr
  obtain ⟨l1, _, hd, _⟩ := path_byte pk
  obtain ⟨c, t, hct⟩ := List.exists_cons_of_ne_nil (List.length_pos_iff.1 (by omega : 0 < pa.length))
  obtain rfl : c = 47 := by rw [hct] at hd; exact hd
  have hno : ∀ c ∈ textH h ++ portT se po, ([47, 63, 35] : List UInt8).contains c = false := by
    intro c hc
    rcases List.mem_append.1 hc with hc | hc
    · rcases text_form r1 with ⟨_, hall⟩ | ⟨x, hx, hall⟩
      · obtain ⟨a, b, d, _⟩ := c12_split (List.all_eq_true.1 hall c hc)
        simp [a, b, d]
      · rw [hx] at hc
        rcases List.mem_cons.1 hc with rfl | hc
        · decide
        · rcases List.mem_append.1 hc with hc | hc
          · obtain ⟨a, b, d, _⟩ := c3_split (List.all_eq_true.1 hall c hc)
            simp [a, b, d]
          · rw [List.mem_singleton.1 hc]; decide
    · unfold portT at hc
      split at hc
      · cases hc
      · rcases List.mem_append.1 hc with hc | hc
        · rw [List.mem_singleton.1 hc]; decide
        · have hdc := digC_bd (List.all_eq_true.1 (decDigits_facts po.toNat).2.1 c hc)
          have e : c ≠ 47 ∧ c ≠ 63 ∧ c ≠ 35 := by
            refine ⟨?_, ?_, ?_⟩ <;> rintro rfl <;> revert hdc <;> decide
          simp [e.1, e.2.1, e.2.2]
  obtain ⟨c1, c2⟩ := cut_at (textH h ++ portT se po) t [47, 63, 35] 47 hno (by decide)
  rw [← hct] at c1 c2
  have hph : parseOk (textH h) = true ∧ parseH (textH h) = h := by
    unfold rightB at r1
    simp only [Bool.and_eq_true, hostEq_iff] at r1
    exact r1
  refine out_good ?_ (by rw [c2]; exact path_back pk) pk
  rw [c1]
  by_cases hq : po = usualP se
  · have e : portT se po = [] := if_pos hq
    rw [e, List.append_nil]
    have hc := cut_back r1 [] (.inl rfl)
    rw [List.append_nil] at hc
    rw [place_plain hc hph.1, hph.2, hq]
  · have e : portT se po = 58 :: Lib.decDigits po.toNat := if_neg hq
    obtain ⟨q1, q2⟩ := port_num (n := po.toNat) (by omega) (by omega)
    rw [e, place_port (cut_back r1 _ (.inr ⟨_, rfl⟩)) hph.1 q1 (by rw [q2]; omega) (by rw [q2]; omega), hph.2, q2]
    congr 2
    omega
theorem urlOut_back {se : Bool} {h : GHost} {po : Int} {pa : List UInt8} (hr : rightU h po pa = true) : urlOut (goodT se h po pa) = (0, se, h, po, pa) := by
  have ho := out_back (se := se) hr
  rw [goodT_eq]
  generalize textH h ++ portT se po ++ pa = r at *
  unfold urlOut
  cases se
  · have h1 : afterB (usualT false ++ r) httpsT = false := by
      unfold afterB
      cases r with
      | nil => rfl
      | cons c r =>
        have : sameB ((usualT false ++ c :: r).take httpsT.length) httpsT = false := by
          show (lowerL (httpT ++ [c]) == lowerL httpsT) = false
          rw [beq_eq_false_iff_ne]
          intro e
          have := congrArg (fun l => l[4]?) e
          revert this
          unfold lowerL httpT httpsT
          simp
          decide
        rw [this]; simp
    have h2 : afterB (usualT false ++ r) httpT = true := by
      unfold afterB
      have e : (usualT false ++ r).take httpT.length = httpT := List.take_left' rfl
      rw [e, decide_eq_true (by rw [List.length_append]; exact Nat.le_add_right _ _)]
      rfl
    rw [h1, if_neg (by decide), h2, if_pos rfl]
    have e : (usualT false ++ r).drop 7 = r := List.drop_left' rfl
    rw [e]; exact ho
  · have h2 : afterB (usualT true ++ r) httpsT = true := by
      unfold afterB
      have e : (usualT true ++ r).take httpsT.length = httpsT := List.take_left' rfl
      rw [e, decide_eq_true (by rw [List.length_append]; exact Nat.le_add_right _ _)]
      rfl
    rw [h2, if_pos rfl]
    have e : (usualT true ++ r).drop 8 = r := List.drop_left' rfl
    rw [e]; exact ho
theorem good_asc {se : Bool} {h : GHost} {po : Int} {pa : List UInt8} (hr : rightU h po pa = true) : (goodT se h po pa).all asc = true := by
  unfold rightU at hr
  simp only [Bool.and_eq_true, decide_eq_true_eq] at hr
  obtain ⟨r1, p1, p2, pk⟩ := hr
  have a1 : (usualT se).all asc = true := by cases se <;> decide
  have a2 : (textH h).all asc = true := by
    rcases text_form r1 with ⟨_, hall⟩ | ⟨x, hx, hall⟩
    · rw [List.all_eq_true] at hall ⊢
      exact fun c hc => (c12_split (hall c hc)).2.2.2.2.2
    · have : x.all asc = true := by
        rw [List.all_eq_true] at hall ⊢
        exact fun c hc => (c3_split (hall c hc)).2.2.2.2
      rw [hx, List.all_cons, List.all_append, this]; rfl
  have a3 : (portT se po).all asc = true := by
    unfold portT
    split
    · rfl
    · rw [List.all_append, dec_asc]; rfl
  have a4 : pa.all asc = true := by
    have := (path_byte pk).2.2.2
    rw [List.all_eq_true] at this ⊢
    exact fun c hc => (pathC_split (this c hc)).2.2
  rw [goodT_eq, List.all_append, List.all_append, List.all_append, a1, a2, a3, a4]; rfl
end

section
open Go Go.RowKit
set_option maxRecDepth 20000
set_option linter.unusedSimpArgs false
set_option linter.unusedVariables false

@[go_sem] theorem uVb_size (x : Bool × GHost × Int × List UInt8) : (uV x).size = 21 := urlV_size _ _ _ _
@[go_sem] theorem uVb_one (x : Bool × GHost × Int × List UInt8) : allOne (uV x) = true := urlV_one _ _ _ _
theorem urlOut_nil : (urlOut []).1 = 41 := by decide +kernel
theorem goodT_len (se : Bool) (h : GHost) (po : Int) (pa : List UInt8) (p1 : 1 ≤ po) (p2 : po ≤ 65535) : (goodT se h po pa).length ≤ h.name.length + pa.length + 2000 := by
  have h1 := textH_len h
  have h2 : (usualT se).length ≤ 8 := by cases se <;> decide
  have h3 : (portT se po).length ≤ 10 := by
    unfold portT
    split
    · simp
    · have := decDigits_len 4 po.toNat (by omega)
      simp; omega
  rw [goodT_eq]
  simp only [List.length_append]
  omega
set_option maxHeartbeats 2000000 in
theorem urlBack_law (u : GURL) (m : Int) (w : World) (hm : HasMax m w) (htz : HasTz w) (hd : HasDec w) :
    Calls Tryz.prog 7 #[.agg (urlC u)] w fun e w' => e = .returned (.bool true) ∧ Below w.heap.size w w' := by
  unfold urlC
  by_cases h1 : (3000 : Int) < u.path.length
  · go_enter Tryz.func7, Tryz.ntmps7
    go_wp2_with (go_at_call 15; refine (urlAlive_any m _ (by repeat (first | exact hm | apply HasMax.grown | apply HasMax.alloc | apply HasMax.drew))).mono ?_; rintro e w1 ⟨rfl, hb1⟩; obtain ⟨p1, rfl⟩ := grown_of hb1; clear hb1)
    go_ret
    exact ⟨rfl, (by repeat (first | exact Below.refl _ _ | assumption | refine below_grown ?_ (by first | omega | (simp [go_sem]; done) | (simp [go_sem] <;> omega)) _ | refine Below.alloc ?_ (by first | omega | (simp [go_sem]; done) | (simp [go_sem] <;> omega)) _ | refine below_bytesW ?_ (by first | omega | (simp [go_sem]; done) | (simp [go_sem] <;> omega)) _ | refine Below.drew ?_ | refine below_drewN ?_ _))⟩
  · by_cases h2 : (600 : Int) < u.host.name.length
    · go_enter Tryz.func7, Tryz.ntmps7
      go_wp2_with (go_at_call 15; refine (urlAlive_any m _ (by repeat (first | exact hm | apply HasMax.grown | apply HasMax.alloc | apply HasMax.drew))).mono ?_; rintro e w1 ⟨rfl, hb1⟩; obtain ⟨p1, rfl⟩ := grown_of hb1; clear hb1)
      go_ret
      exact ⟨rfl, (by repeat (first | exact Below.refl _ _ | assumption | refine below_grown ?_ (by first | omega | (simp [go_sem]; done) | (simp [go_sem] <;> omega)) _ | refine Below.alloc ?_ (by first | omega | (simp [go_sem]; done) | (simp [go_sem] <;> omega)) _ | refine below_bytesW ?_ (by first | omega | (simp [go_sem]; done) | (simp [go_sem] <;> omega)) _ | refine Below.drew ?_ | refine below_drewN ?_ _))⟩
    · have H1 : Hid (∀ w, HasMax m w → HasTz w → HasDec w → Calls Tryz.prog 16 #[.agg (urlV u.secure u.host u.port u.path)] w fun e w' => e = .returned (.bool (rightU u.host u.port u.path)) ∧ Below w.heap.size w w') := fun w x y z => urlRight_any _ _ _ _ (by omega) u.hpath m w x y z
      have H3 : Hid (∀ w, HasMax m w → HasTz w → HasDec w → Calls Tryz.prog 18 #[.agg (urlV u.secure u.host u.port u.path)] w fun e w' => e = .returned (.string ⟨(textU u.secure u.host u.port u.path).toArray⟩) ∧ Below w.heap.size w w') := fun w x y z => urlText_any _ _ _ _ (by omega) (by omega) m w x y z
      cases hr : rightU u.host u.port u.path
      · rw [hr] at H1
        rw [show textU u.secure u.host u.port u.path = [] from if_neg (by rw [hr]; decide)] at H3
        have H4 : Hid (∀ w, HasMax m w → Calls Tryz.prog 20 #[.string ⟨([] : List UInt8).toArray⟩] w fun e w' => e = .returned (.tuple #[.agg (uV (urlOut []).2), .int .i64 41]) ∧ Below w.heap.size w w') := fun w x => by
          have := parseU_any [] (by decide) rfl m w x
          rwa [urlOut_nil] at this
        generalize (urlOut []).2 = v at *
        go_enter Tryz.func7, Tryz.ntmps7
        go_wp2_with (first
          | (go_at_call 15; refine (urlAlive_any m _ (by repeat (first | exact hm | apply HasMax.grown | apply HasMax.alloc | apply HasMax.drew))).mono ?_; rintro e w1 ⟨rfl, hb1⟩; obtain ⟨p1, rfl⟩ := grown_of hb1; clear hb1)
          | (go_at_call 16; refine (H1.out _ (by repeat (first | exact hm | apply HasMax.grown | apply HasMax.alloc | apply HasMax.drew)) (by repeat (first | exact htz | apply HasTz.grown | apply HasTz.alloc | apply HasTz.drew)) (by repeat (first | exact hd | apply HasDec.grown | apply HasDec.alloc | apply HasDec.drew))).mono ?_; rintro e w1 ⟨rfl, hb1⟩; obtain ⟨p1, rfl⟩ := grown_of hb1; clear hb1)
          | (go_at_call 18; refine (H3.out _ (by repeat (first | exact hm | apply HasMax.grown | apply HasMax.alloc | apply HasMax.drew)) (by repeat (first | exact htz | apply HasTz.grown | apply HasTz.alloc | apply HasTz.drew)) (by repeat (first | exact hd | apply HasDec.grown | apply HasDec.alloc | apply HasDec.drew))).mono ?_; rintro e w1 ⟨rfl, hb1⟩; obtain ⟨p1, rfl⟩ := grown_of hb1; clear hb1)
          | (go_at_call 20; refine (H4.out _ (by repeat (first | exact hm | apply HasMax.grown | apply HasMax.alloc | apply HasMax.drew))).mono ?_; rintro e w1 ⟨rfl, hb1⟩; obtain ⟨p1, rfl⟩ := grown_of hb1; clear hb1))
        go_ret
        exact ⟨by first | rfl | exact ret_bool (by simp), (by repeat (first | exact Below.refl _ _ | assumption | refine below_grown ?_ (by first | omega | (simp [go_sem]; done) | (simp [go_sem] <;> omega)) _ | refine Below.alloc ?_ (by first | omega | (simp [go_sem]; done) | (simp [go_sem] <;> omega)) _ | refine below_bytesW ?_ (by first | omega | (simp [go_sem]; done) | (simp [go_sem] <;> omega)) _ | refine Below.drew ?_ | refine below_drewN ?_ _))⟩
      · rw [show textU u.secure u.host u.port u.path = goodT u.secure u.host u.port u.path from if_pos hr] at H3
        have hp : 1 ≤ u.port ∧ u.port ≤ 65535 := by
          unfold rightU at hr
          simp only [Bool.and_eq_true, decide_eq_true_eq] at hr
          exact ⟨hr.2.1, hr.2.2.1⟩
        have H4 : Hid (∀ w, HasMax m w → Calls Tryz.prog 20 #[.string ⟨(goodT u.secure u.host u.port u.path).toArray⟩] w fun e w' => e = .returned (.tuple #[.agg (urlV u.secure u.host u.port u.path), .int .i64 0]) ∧ Below w.heap.size w w') := fun w x => by
          have hl := goodT_len u.secure u.host u.port u.path hp.1 hp.2
          have := parseU_any (goodT u.secure u.host u.port u.path) (by omega) (good_asc hr) m w x
          rw [urlOut_back hr] at this
          exact this
        rw [hr] at H1
        have he : hostEq u.host u.host = true := (hostEq_iff _ _).2 rfl
        have hwf := u.hport
        have hpl := u.hpath
        clear hr hp
        generalize goodT u.secure u.host u.port u.path = T at *
        go_enter Tryz.func7, Tryz.ntmps7
        go_wp2_with (first
          | (go_at_call 15; refine (urlAlive_any m _ (by repeat (first | exact hm | apply HasMax.grown | apply HasMax.alloc | apply HasMax.drew))).mono ?_; rintro e w1 ⟨rfl, hb1⟩; obtain ⟨p1, rfl⟩ := grown_of hb1; clear hb1)
          | (go_at_call 16; refine (H1.out _ (by repeat (first | exact hm | apply HasMax.grown | apply HasMax.alloc | apply HasMax.drew)) (by repeat (first | exact htz | apply HasTz.grown | apply HasTz.alloc | apply HasTz.drew)) (by repeat (first | exact hd | apply HasDec.grown | apply HasDec.alloc | apply HasDec.drew))).mono ?_; rintro e w1 ⟨rfl, hb1⟩; obtain ⟨p1, rfl⟩ := grown_of hb1; clear hb1)
          | (go_at_call 18; refine (H3.out _ (by repeat (first | exact hm | apply HasMax.grown | apply HasMax.alloc | apply HasMax.drew)) (by repeat (first | exact htz | apply HasTz.grown | apply HasTz.alloc | apply HasTz.drew)) (by repeat (first | exact hd | apply HasDec.grown | apply HasDec.alloc | apply HasDec.drew))).mono ?_; rintro e w1 ⟨rfl, hb1⟩; obtain ⟨p1, rfl⟩ := grown_of hb1; clear hb1)
          | (go_at_call 20; refine (H4.out _ (by repeat (first | exact hm | apply HasMax.grown | apply HasMax.alloc | apply HasMax.drew))).mono ?_; rintro e w1 ⟨rfl, hb1⟩; obtain ⟨p1, rfl⟩ := grown_of hb1; clear hb1))
        go_ret
        exact ⟨by first | rfl | exact ret_bool (by simp), (by repeat (first | exact Below.refl _ _ | assumption | refine below_grown ?_ (by first | omega | (simp [go_sem]; done) | (simp [go_sem] <;> omega)) _ | refine Below.alloc ?_ (by first | omega | (simp [go_sem]; done) | (simp [go_sem] <;> omega)) _ | refine below_bytesW ?_ (by first | omega | (simp [go_sem]; done) | (simp [go_sem] <;> omega)) _ | refine Below.drew ?_ | refine below_drewN ?_ _))⟩
end
end Go.Proofs.YtfnhkpfkaiamjaaGreatDoor
