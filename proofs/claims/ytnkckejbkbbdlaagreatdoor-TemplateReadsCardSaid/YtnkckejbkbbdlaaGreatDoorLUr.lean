/- Merged: LawUrlPaths, LawUrlDrops, AddrRefDn, AddrEightn, AddrRef6n, HostRefn, UrlFind, LawUrlReads, UnwordR. -/
import Derived.Test.YtnkckejbkbbdlaaGreatDoorTmUrlParseg
import Derived.Test.YtnkckejbkbbdlaaGreatDoorTmC
import Derived.Test.YtnkckejbkbbdlaaGreatDoorTmF
import Derived.Test.YtnkckejbkbbdlaaGreatDoorTmG
import Derived.Deep.DeepCutAuto
import Derived.Test.YtnkckejbkbbdlaaGreatDoorTmD
namespace Go.Proofs.YtnkckejbkbbdlaaGreatDoor
section
open Go Go.RowKit
set_option maxRecDepth 20000
set_option linter.unusedSimpArgs false
set_option linter.unusedVariables false

theorem place_port {q n b : List UInt8} {port : Int} (h : cutHP q = (n, 58 :: b)) (h1 : parseOk n = true) (h2 : numOk b = true) (h3 : 1 ≤ numV b) (h4 : numV b ≤ 65535) : placeL q port = (0, parseH n, numV b) := by
  rw [place_eq, h]
  dsimp only
  rw [if_neg (by rw [h1]; simp), if_neg (by simp), if_neg (by rw [show ((58 : UInt8) :: b).tail = b from rfl, h2]; simp; omega)]
  rfl
theorem place_plain {q n : List UInt8} {port : Int} (h : cutHP q = (n, [])) (h1 : parseOk n = true) : placeL q port = (0, parseH n, port) := by
  rw [place_eq, h]
  dsimp only
  rw [if_neg (by rw [h1]; simp), if_pos rfl]
theorem out_good {safe : Bool} {r : List UInt8} {H : GHost} {P : Int} {pa : List UInt8} (hp : placeL (r.take (cutAny r [47, 63, 35])) (usualP safe) = (0, H, P)) (hpa : pathOf (r.drop (cutAny r [47, 63, 35])) = pa) (hok : pathOk pa = true) : outOf safe (restL safe r) = (0, safe, H, P, pa) := by
  rcases rest_cases safe r with ⟨h, _⟩ | ⟨_, h, _⟩ | ⟨_, _, h⟩
  · rw [hp] at h; exact absurd rfl h
  · rw [hpa, hok] at h; cases h
  · rw [h, hp, hpa]
def exU : List UInt8 := [72, 84, 84, 80, 83, 58, 47, 47, 65, 46, 99, 111, 109, 58, 56, 52, 52, 51, 63, 120]
def exN1 : List UInt8 := [65, 46, 99, 111, 109]
def exN2 : List UInt8 := [97, 46, 99, 111, 109]
theorem exU_plain : afterB exU httpsT = true ∧ exU.all asc = true ∧ cutHP ((exU.drop 8).take (cutAny (exU.drop 8) [47, 63, 35])) = (exN1, 58 :: [56, 52, 52, 51]) ∧ numOk [56, 52, 52, 51] = true ∧ numV [56, 52, 52, 51] = 8443 ∧ pathOf ((exU.drop 8).drop (cutAny (exU.drop 8) [47, 63, 35])) = [47] ∧ pathOk [47] = true ∧ six exN1 = false ∧ lastD exN1 = false ∧ nameB exN1 = true ∧ lowerL exN1 = exN2 := by decide +kernel
theorem exU_out : urlOut exU = (0, true, nameH exN2, 8443, [47]) := by
  obtain ⟨h1, h2, h3, h4, h5, h6, h7, h8, h9, h10, h11⟩ := exU_plain
  obtain ⟨q1, q2⟩ := parse_name h8 h9 h10
  rw [h11] at q1
  have hp := place_port (port := usualP true) h3 (by rw [parseOk_name h8 h9]; exact h10) h4 (by rw [h5]; decide) (by rw [h5]; decide)
  rw [q1, h5] at hp
  unfold urlOut
  rw [if_pos h1]
  exact out_good hp h6 h7
theorem ixAny_app (cs y : List UInt8) : ∀ x : List UInt8, (∀ c ∈ x, cs.contains c = false) → Lib.indexAny (x ++ y) cs = if Lib.indexAny y cs = -1 then -1 else Lib.indexAny y cs + x.length
  | [], _ => by
    by_cases h : Lib.indexAny y cs = -1
    · simp [h]
    · simp [h]
  | c :: x, hx => by
    have ih := ixAny_app cs y x (fun d hd => hx d (by simp [hd]))
    have hc := hx c (by simp)
    have hge := (ixAny_bd y cs).1
    rw [List.cons_append, Lib.indexAny, hc, ih]
    by_cases h : Lib.indexAny y cs = -1
    · simp [h]
    · rw [if_neg h, if_neg h]
      have : ¬ ((Lib.indexAny y cs + (x.length : Int)) == -1) = true := by rw [beq_iff_eq]; omega
      rw [if_neg this]
      simp; omega
theorem cut_at (x y cs : List UInt8) (c : UInt8) (hx : ∀ c ∈ x, cs.contains c = false) (hc : cs.contains c = true) : (x ++ c :: y).take (cutAny (x ++ c :: y) cs) = x ∧ (x ++ c :: y).drop (cutAny (x ++ c :: y) cs) = c :: y := by
  have h0 : Lib.indexAny (c :: y) cs = 0 := by rw [Lib.indexAny, hc]; rfl
  have h := ixAny_app cs (c :: y) x hx
  rw [h0, if_neg (by decide)] at h
  have e : cutAny (x ++ c :: y) cs = x.length := by
    unfold cutAny
    rw [h, if_pos (by omega)]; omega
  rw [e]
  exact ⟨List.take_left, List.drop_left⟩
theorem cut_no (x cs : List UInt8) (hx : ∀ c ∈ x, cs.contains c = false) : x.take (cutAny x cs) = x := by
  have h := ixAny_app cs [] x hx
  rw [List.append_nil, show Lib.indexAny [] cs = -1 from rfl, if_pos rfl] at h
  have e : cutAny x cs = x.length := by unfold cutAny; rw [h, if_neg (by decide)]
  rw [e, List.take_length]
theorem pathC_split {c : UInt8} (h : pathC c = true) : c ≠ 63 ∧ c ≠ 35 ∧ asc c = true := by
  have key : ∀ i : Fin 256, pathC (UInt8.ofNat i.val) = true → UInt8.ofNat i.val ≠ 63 ∧ UInt8.ofNat i.val ≠ 35 ∧ asc (UInt8.ofNat i.val) = true := by decide +kernel
  have := key ⟨c.toNat, c.toNat_lt⟩
  simp only [UInt8.ofNat_toNat] at this
  exact this h
theorem path_back {pa : List UInt8} (h : pathOk pa = true) : pathOf pa = pa := by
  obtain ⟨h1, _, _, ha⟩ := path_byte h
  have e := cut_no pa [63, 35] (fun c hc => by
    obtain ⟨a, b, _⟩ := pathC_split (List.all_eq_true.1 ha c hc)
    simp [a, b])
  unfold pathOf
  rw [e, if_neg (List.length_pos_iff.1 (by omega))]
def behind (s : List UInt8) : List UInt8 := [104, 116, 116, 112, 58, 47, 47, 97] ++ s
theorem a_plain : cutHP [97] = ([97], []) ∧ parseOk [97] = true := by decide +kernel
theorem behind_out (s : List UInt8) : urlOut (behind s) = outOf false (restL false (97 :: s)) := by
  have h1 : afterB (behind s) httpsT = false := rfl
  have h2 : afterB (behind s) httpT = true := by
    unfold afterB
    rw [decide_eq_true (by simp [behind, httpT])]
    rfl
  unfold urlOut
  rw [h1, if_neg (by decide), h2, if_pos rfl]
  rfl
theorem paths_yes {s : List UInt8} (h : pathOk s = true) : urlOut (behind s) = (0, false, parseH [97], 80, s) := by
  obtain ⟨l1, _, hd, _⟩ := path_byte h
  obtain ⟨c, t, hct⟩ := List.exists_cons_of_ne_nil (List.length_pos_iff.1 (by omega : 0 < s.length))
  obtain rfl : c = 47 := by rw [hct] at hd; exact hd
  obtain ⟨c1, c2⟩ := cut_at [97] t [47, 63, 35] 47 (by decide) (by decide)
  rw [← hct] at c1 c2
  have hpl : placeL [97] (usualP false) = (0, parseH [97], 80) := place_plain a_plain.1 a_plain.2
  have hp2 : placeL (([97] ++ s).take (cutAny ([97] ++ s) [47, 63, 35])) (usualP false) = (0, parseH [97], 80) := by rw [c1]; exact hpl
  have hp3 : pathOf (([97] ++ s).drop (cutAny ([97] ++ s) [47, 63, 35])) = s := by rw [c2]; exact path_back h
  have hfin := out_good hp2 hp3 h
  rw [behind_out, show (97 :: s) = [97] ++ s from rfl]
  exact hfin
theorem paths_no {s : List UInt8} (h : pathOk s = false) : ((urlOut (behind s)).1 != 0) = true ∨ ((urlOut (behind s)).2.2.2.2 != s) = true := by
  rw [behind_out]
  rcases rest_cases false (97 :: s) with ⟨h1, h2⟩ | ⟨_, _, h2⟩ | ⟨_, h1, h2⟩
  · rw [h2]; exact .inl (by simpa using h1)
  · rw [h2]; exact .inl rfl
  · rw [h2]
    refine .inr ?_
    rw [bne_iff_ne]
    intro e
    dsimp only at e
    rw [e, h] at h1; cases h1
@[go_sem] theorem uVp_size (x : Bool × GHost × Int × List UInt8) : (uV x).size = 21 := urlV_size _ _ _ _
@[go_sem] theorem uVp_one (x : Bool × GHost × Int × List UInt8) : allOne (uV x) = true := urlV_one _ _ _ _
@[go_sem ↓ high] theorem uVp_20 (x : Bool × GHost × Int × List UInt8) : (uV x)[20]? = some (.string ⟨x.2.2.2.toArray⟩) := urlV_20 _ _ _ _
end

section
open Go Go.RowKit
set_option maxRecDepth 20000
set_option linter.unusedSimpArgs false
set_option linter.unusedVariables false

theorem cutAny_nil (cs : List UInt8) : cutAny [] cs = 0 := rfl
theorem cutAny_cons (c : UInt8) (t cs : List UInt8) : cutAny (c :: t) cs = if cs.contains c = true then 0 else cutAny t cs + 1 := by
  unfold cutAny
  rw [Lib.indexAny]
  have hge := (ixAny_bd t cs).1
  by_cases h : cs.contains c = true
  · rw [if_pos h, if_pos h]; rfl
  · rw [if_neg h, if_neg h]
    by_cases h1 : Lib.indexAny t cs = -1
    · rw [h1]; rfl
    · have : ¬ ((Lib.indexAny t cs) == -1) = true := by rw [beq_iff_eq]; omega
      rw [if_neg this, if_pos (by omega), if_pos (by omega)]
      omega
theorem cutAny_app (cs y : List UInt8) (c : UInt8) (hc : cs.contains c = true) : ∀ x : List UInt8, cutAny (x ++ c :: y) cs = cutAny x cs ∧ cutAny x cs ≤ x.length
  | [] => by
    rw [List.nil_append, cutAny_cons, if_pos hc]; exact ⟨rfl, Nat.zero_le _⟩
  | d :: x => by
    obtain ⟨h1, h2⟩ := cutAny_app cs y c hc x
    rw [List.cons_append, cutAny_cons, cutAny_cons, h1]
    refine ⟨rfl, ?_⟩
    by_cases h : cs.contains d = true
    · rw [if_pos h]; exact Nat.zero_le _
    · rw [if_neg h]; simp; omega
theorem take_app {cs : List UInt8} (x y : List UInt8) (c : UInt8) (hc : cs.contains c = true) : (x ++ c :: y).take (cutAny (x ++ c :: y) cs) = x.take (cutAny x cs) ∧ (x ++ c :: y).drop (cutAny (x ++ c :: y) cs) = x.drop (cutAny x cs) ++ c :: y := by
  obtain ⟨h1, h2⟩ := cutAny_app cs y c hc x
  rw [h1]
  exact ⟨List.take_append_of_le_length h2, List.drop_append_of_le_length h2⟩
theorem pathOf_app (x y : List UInt8) (c : UInt8) (hc : ([63, 35] : List UInt8).contains c = true) : pathOf (x ++ c :: y) = pathOf x := by
  unfold pathOf
  rw [(take_app x y c hc).1]
theorem restL_app (safe : Bool) (r y : List UInt8) (c : UInt8) (hc : ([63, 35] : List UInt8).contains c = true) : restL safe (r ++ c :: y) = restL safe r := by
  have hc3 : ([47, 63, 35] : List UInt8).contains c = true := by
    simp only [List.contains_iff_mem] at hc ⊢
    exact List.mem_cons_of_mem _ hc
  obtain ⟨h1, h2⟩ := take_app (cs := [47, 63, 35]) r y c hc3
  unfold restL
  dsimp only
  rw [h1, h2, pathOf_app _ _ _ hc]
theorem afterB_app {s f : List UInt8} (t : List UInt8) (h : afterB s f = true) : afterB (s ++ t) f = true ∧ f.length ≤ s.length := by
  unfold afterB at h ⊢
  simp only [Bool.and_eq_true, decide_eq_true_eq] at h ⊢
  obtain ⟨h1, h2⟩ := h
  rw [List.take_append_of_le_length h1]
  exact ⟨⟨by simp; omega, h2⟩, h1⟩
theorem both_no {s : List UInt8} (h : afterB s httpT = true) : afterB s httpsT = false := by
  unfold afterB at h ⊢
  simp only [Bool.and_eq_true, decide_eq_true_eq] at h
  obtain ⟨h1, h2⟩ := h
  have h7 : 7 ≤ s.length := h1
  unfold sameB at h2
  rw [beq_iff_eq] at h2
  have h5 : ((lowerL (s.take httpT.length)).drop 4).head? = some 58 := by rw [h2]; decide +kernel
  cases hx : (decide (httpsT.length ≤ s.length) && sameB (s.take httpsT.length) httpsT)
  · rfl
  · exfalso
    simp only [Bool.and_eq_true, decide_eq_true_eq] at hx
    obtain ⟨_, h3⟩ := hx
    unfold sameB at h3
    rw [beq_iff_eq] at h3
    have h6 : ((lowerL (s.take httpsT.length)).drop 4).head? = some 115 := by rw [h3]; decide +kernel
    unfold lowerL at h5 h6
    rw [← List.map_drop, List.head?_map, show httpT.length = 7 from rfl, List.head?_drop, List.getElem?_take, if_pos (by decide)] at h5
    rw [← List.map_drop, List.head?_map, show httpsT.length = 8 from rfl, List.head?_drop, List.getElem?_take, if_pos (by decide)] at h6
    rw [h5] at h6
    cases h6
theorem urlOut_app {s y : List UInt8} {c : UInt8} (hc : ([63, 35] : List UInt8).contains c = true) (h : (urlOut s).1 = 0) : urlOut (s ++ c :: y) = urlOut s := by
  unfold urlOut at h ⊢
  cases h1 : afterB s httpsT
  · rw [h1, if_neg (by decide)] at h
    cases h2 : afterB s httpT
    · rw [h2, if_neg (by decide)] at h; cases h
    · obtain ⟨a1, a2⟩ := afterB_app (c :: y) h2
      rw [if_neg (by rw [both_no a1]; decide), if_pos a1, if_neg (by decide), if_pos rfl]
      rw [List.drop_append_of_le_length (show 7 ≤ s.length from a2), restL_app _ _ _ _ hc]
  · obtain ⟨a1, a2⟩ := afterB_app (c :: y) h1
    rw [if_pos a1, if_pos rfl]
    rw [List.drop_append_of_le_length (show 8 ≤ s.length from a2), restL_app _ _ _ _ hc]
theorem urlOut_bad {s : List UInt8} (h : (urlOut s).1 ≠ 0) : (urlOut s).2 = (false, zeroH, 0, []) := by
  unfold urlOut at h ⊢
  have key : ∀ safe x, (outOf safe x).1 ≠ 0 → (outOf safe x).2 = (false, zeroH, 0, []) := by
    intro safe x hx
    unfold outOf at hx ⊢
    by_cases h0 : x.1 = 0
    · rw [if_pos h0] at hx; exact absurd rfl hx
    · rw [if_neg h0]
  cases h1 : afterB s httpsT
  · rw [h1, if_neg (by decide)] at h
    rw [if_neg (by decide)]
    cases h2 : afterB s httpT
    · rfl
    · rw [h2, if_pos rfl] at h
      rw [if_pos rfl]
      exact key _ _ h
  · rw [h1, if_pos rfl] at h
    rw [if_pos rfl]
    exact key _ _ h
theorem place_bd (q : List UInt8) (port : Int) (h0 : 0 ≤ port ∧ port ≤ 65535) : 0 ≤ (placeL q port).2.2 ∧ (placeL q port).2.2 ≤ 65535 := by
  unfold placeL
  dsimp only
  split
  · exact ⟨by decide, by decide⟩
  · split
    · exact h0
    · split
      · exact ⟨by decide, by decide⟩
      · rename_i h
        simp only [not_or] at h
        dsimp only
        omega
theorem rest_bd (safe : Bool) (r : List UInt8) : (0 ≤ (restL safe r).2.2.1 ∧ (restL safe r).2.2.1 ≤ 65535) ∧ (restL safe r).2.2.2.length ≤ 2048 := by
  unfold restL
  dsimp only
  split
  · exact ⟨⟨Int.le_refl _, (by decide : (0 : Int) ≤ 65535)⟩, Nat.zero_le _⟩
  · split
    · exact ⟨⟨Int.le_refl _, (by decide : (0 : Int) ≤ 65535)⟩, Nat.zero_le _⟩
    · rename_i h
      dsimp only
      refine ⟨place_bd _ _ (by cases safe <;> exact ⟨by decide, by decide⟩), ?_⟩
      exact (path_byte (Bool.not_eq_false _ ▸ h : pathOk _ = true)).2.1
theorem out_bd (safe : Bool) (x : Int × GHost × Int × List UInt8) (h : (0 ≤ x.2.2.1 ∧ x.2.2.1 ≤ 65535) ∧ x.2.2.2.length ≤ 2048) : (0 ≤ (outOf safe x).2.2.2.1 ∧ (outOf safe x).2.2.2.1 ≤ 65535) ∧ (outOf safe x).2.2.2.2.length ≤ 2048 := by
  unfold outOf
  split
  · exact h
  · exact ⟨⟨Int.le_refl _, (by decide : (0 : Int) ≤ 65535)⟩, Nat.zero_le _⟩
theorem urlOut_bd (s : List UInt8) : (0 ≤ (urlOut s).2.2.2.1 ∧ (urlOut s).2.2.2.1 ≤ 65535) ∧ (urlOut s).2.2.2.2.length ≤ 2048 := by
  unfold urlOut
  split
  · exact out_bd _ _ (rest_bd _ _)
  · split
    · exact out_bd _ _ (rest_bd _ _)
    · exact ⟨⟨Int.le_refl _, (by decide : (0 : Int) ≤ 65535)⟩, Nat.zero_le _⟩
theorem wf_port {n : Int} (h : 0 ≤ n ∧ n ≤ 65535) : (Lit.int .i64 n).wf = true := by
  have e1 : IntKind.i64.min = -9223372036854775808 := rfl
  have e2 : IntKind.i64.max = 9223372036854775807 := rfl
  simp only [Lit.wf, e1, e2, Bool.and_eq_true, decide_eq_true_eq]
  omega
end

section
open Go Go.RowKit
set_option maxRecDepth 20000
set_option linter.unusedSimpArgs false
set_option linter.unusedVariables false

theorem digit02_any (c : UInt8) (w : World) :
    Calls Tryz.prog 127 #[.int .u8 (c.toNat : Int)] w fun e w' => e = .returned (.int .i64 (hexD c)) ∧ w = w' := by
  have hlt := c.toNat_lt
  rcases hexD_cases c with ⟨h1, hd⟩ | ⟨h1, h2, hd⟩ | ⟨h1, h2, hd⟩ | ⟨h1, h2, hd⟩ | ⟨h1, h2, hd⟩ | ⟨h1, h2, hd⟩ | ⟨h1, hd⟩
  all_goals
    rw [hd]
    clear hd
    go_enter Tryz.func127, Tryz.ntmps127
    go_wp2
    go_ret
    exact ⟨by first | rfl | (go_num; done) | (go_num; rfl), rfl⟩

theorem tdiv_nat (n k : Nat) : (n : Int).tdiv (k : Int) = ((n / k : Nat) : Int) := by
  rw [Int.tdiv_eq_ediv_of_nonneg (by omega)]; push_cast; rfl
theorem tmod_nat (n k : Nat) : (n : Int).tmod (k : Int) = ((n % k : Nat) : Int) := by
  rw [Int.tmod_eq_emod_of_nonneg (by omega)]; push_cast; rfl
end

section
open Go Go.RowKit
set_option maxRecDepth 20000
set_option linter.unusedSimpArgs false
set_option linter.unusedVariables false

theorem eight_c {s : List UInt8} (h8 : (splitL 58 s).length = 8) (h : (splitL 58 s).all grpOk = true) : eightOk s = true ∧ (u8Cod.encs (fromTo ((splitL 58 s).map grpR) 8)).toArray = addrC (eightA s) := by
  have hg : ((splitL 58 s).map grpR).length = 8 := by rw [List.length_map, h8]
  obtain ⟨h1, h2⟩ := eight_yes (eight_good h8 h) hg
  refine ⟨h1, ?_⟩
  rw [h2, addrC_encs, fromTo_all _ hg]; rfl
theorem grp_len {x : List UInt8} (h : grpOk x = true) : 1 ≤ x.length ∧ x.length ≤ 4 := by
  unfold grpOk at h
  simp only [Bool.and_eq_true, decide_eq_true_eq] at h
  exact ⟨h.1, h.2.1⟩
theorem grp_short {x : List UInt8} (h : ¬ (1 ≤ x.length ∧ x.length ≤ 4)) : grpOk x = false := by
  cases hg : grpOk x
  · rfl
  · exact absurd (grp_len hg) h
theorem grp_all {x : List UInt8} (h1 : 1 ≤ x.length) (h2 : x.length ≤ 4) (h : hexAll x = true) : grpOk x = true := by
  rw [grpOk, h]; simp [h1, h2]
theorem hexN_hi {x : List UInt8} (h : grpOk x = true) : hexN x < 65536 ∧ IntKind.u8.wrap ((hexN x / 256 : Nat) : Int) = ((hiB (grpR x)).toNat : Int) ∧ IntKind.u8.wrap ((hexN x % 256 : Nat) : Int) = ((loB (grpR x)).toNat : Int) := by
  have h4 := (grp_len h).2
  have hn := grpV_nat x h4
  have hlt := hexN_lt' x h4
  rw [grp_yes h]
  refine ⟨hlt, ?_, ?_⟩
  · rw [IntWalk.u8_in _ (by omega), hiB_nat, hn]
  · rw [IntWalk.u8_in _ (by omega), loB_nat, hn]
set_option maxHeartbeats 2000000 in
theorem eight_any (l : List UInt8) (hl : l.length ≤ 4294967280) (w : World) :
    Calls Tryz.prog 106 #[.string ⟨l.toArray⟩] w fun e w' => e = .returned (.tuple #[.agg (addrC (eightA l)), .bool (eightOk l)]) ∧ Below w.heap.size w w' := by
  have HC : Hid (∀ w, Calls Tryz.prog 37 #[.string ⟨l.toArray⟩, .int .u8 58] w (Gives strCod (splitL 58 l) w)) := fun w => refSplit_any l 58 hl w
  by_cases h8 : (splitL 58 l).length = 8
  · have h8' : (((splitL 58 l).length : Int) != 8) = false := by rw [h8]; rfl
    have HP := Lib.hid (splitL_piece_le 58 l)
    have HN := Lib.hid (splitL_ne 58 l)
    have HBAD : Hid (∀ p ∈ splitL 58 l, grpOk p = false → eightOk l = false ∧ eightA l = zeroA) := fun p hp h => eight_no (eight_badP p hp h)
    have HALL : Hid ((splitL 58 l).all grpOk = true → eightOk l = true ∧ (u8Cod.encs (fromTo ((splitL 58 l).map grpR) 8)).toArray = addrC (eightA l)) := fun h => eight_c h8 h
    generalize splitL 58 l = L at *
    generalize eightOk l = ok at *
    generalize eightA l = A at *
    have hg8 : (L.map grpR).length = 8 := by rw [List.length_map, h8]
    go_enter Tryz.func106, Tryz.ntmps106
    go_wp2_with (go_at_call 37; refine (HC.out _).mono ?_; intro e w1 hg; obtain ⟨b, o, cap, rfl, hcap, hb1, hlo, hhi, hat⟩ := hg.some HN.out; have HBC := Lib.hid (bel_up (w := w) (by repeat (first | exact Below.refl _ _ | assumption | refine below_grown ?_ (by first | omega | (simp [go_sem]; done) | (simp [go_sem] <;> omega)) _ | refine Below.alloc ?_ (by first | omega | (simp [go_sem]; done) | (simp [go_sem] <;> omega)) _ | refine below_bytesW ?_ (by first | omega | (simp [go_sem]; done) | (simp [go_sem] <;> omega)) _ | refine Below.drew ?_ | refine below_drewN ?_ _)) hb1); have HAT := Lib.hid hat; have HR := Lib.hid (Var.below (Var.alloc (Var.new w _ _ rfl rfl : Var (w.alloc _) w.heap.size (u8Cod.encs (List.replicate 16 0))) _) hb1); have HA := Lib.hid (Var.below (Var.new (w.alloc _) _ _ rfl (by simp [go_sem]) : Var ((w.alloc _).alloc _) (w.heap.size + 1) (u8Cod.encs (List.replicate 16 0))) hb1); clear hg hb1 hat)
    have hs0 := HBC.out.size
    have hs1 := HA.out.lt
    have hlo2 : w.heap.size + 1 + 1 ≤ b := by have := hlo; simp [go_sem] at this; omega
    go_loopw [6, 7, 8, 9] (fun i _ _ _ wr => ∃ (k : Nat), k ≤ L.length ∧ i = .int .i64 k ∧ Below w.heap.size w wr ∧ w.heap.size + 1 < wr.heap.size ∧ ListAt strCod wr b o L ∧ Var wr w.heap.size (u8Cod.encs (List.replicate 16 0)) ∧ Var wr (w.heap.size + 1) (u8Cod.encs (fromTo (L.map grpR) k)) ∧ Hid ((L.take k).all grpOk = true)) (fun i _ _ _ _ => L.length - (intOf i).toNat)
    case atStart => exact ⟨0, Nat.zero_le _, rfl, HBC.out, hs1, HAT.out, HR.out, by rw [fromTo_zero]; exact HA.out, rfl⟩
    case round =>
      obtain ⟨k, hk, rfl, hb, hsz, hat, hr, ha, hinv⟩ := hrel
      have HB := Lib.hid hb
      have HAT := Lib.hid hat
      have HR := Lib.hid hr
      have HA := Lib.hid ha
      have hl16 := fromTo_length _ hg8 k (h8 ▸ hk : k ≤ 8)
      by_cases hlt : k < L.length
      · have hlt8 : (k : Int) < 8 := by omega
        have hcell := strAt hat k hlt
        have hx := HP.out _ (List.getElem_mem hlt)
        have HE := Lib.hid (fromTo_succ (L.map grpR) hg8 k (by omega))
        have HAS := Lib.hid (all_take_grp L k hlt)
        have HBK := Lib.hid (HBAD.out _ (List.getElem_mem hlt))
        rw [List.getElem_map] at HE
        have hv : hasVar wr w.heap.size 16 = true := hr.has rfl
        have hc1 : wr.cell? ⟨w.heap.size + 1, 2 * k, none⟩ = some ((u8Cod.encs (fromTo (L.map grpR) k))[2 * k]'(by rw [u8Len, hl16]; omega)) := ha.cell (2 * k) _
        have hc2 : wr.cell? ⟨w.heap.size + 1, 2 * k + 1, none⟩ = some ((u8Cod.encs (fromTo (L.map grpR) k))[2 * k + 1]'(by rw [u8Len, hl16]; omega)) := ha.cell (2 * k + 1) _
        have hf1 : wr.frozen? ⟨w.heap.size + 1, 2 * k, none⟩ = false := ha.free (2 * k)
        have hf2 : wr.frozen? ⟨w.heap.size + 1, 2 * k + 1, none⟩ = false := ha.free (2 * k + 1)
        clear hb hr hat ha
        generalize (u8Cod.encs (fromTo (L.map grpR) k))[2 * k]'_ = v1 at *
        generalize (u8Cod.encs (fromTo (L.map grpR) k))[2 * k + 1]'_ = v2 at *
        generalize L[k]'hlt = x at *
        by_cases hx1 : (x.length : Int) < 1
        · obtain ⟨rfl, rfl⟩ := HBK.out (grp_short (by omega))
          go_wp2
          exact ret_cell_tmp w.heap.size (addrC zeroA) (.bool false) rfl rfl rfl agg_addr (by simp [go_sem, hv]) (by simp [go_sem, hv]) rfl ⟨rfl, below_setRow HB.out (Nat.le_refl _) _⟩
        by_cases hx4 : (4 : Int) < x.length
        · obtain ⟨rfl, rfl⟩ := HBK.out (grp_short (by omega))
          go_wp2
          exact ret_cell_tmp w.heap.size (addrC zeroA) (.bool false) rfl rfl rfl agg_addr (by simp [go_sem, hv]) (by simp [go_sem, hv]) rfl ⟨rfl, below_setRow HB.out (Nat.le_refl _) _⟩
        have hx1' : 1 ≤ x.length := by omega
        have hx4' : x.length ≤ 4 := by omega
        go_wp2
        obtain ⟨wo, hwo⟩ : ∃ wo : World, wo = wr := ⟨_, rfl⟩
        go_loop [7, 8, 9] (fun n i _ => ∃ (j : Nat), j ≤ x.length ∧ i = .int .i64 j ∧ n = .int .i64 (hexN (x.take j)) ∧ Hid (hexAll (x.take j) = true)) (fun _ i _ => x.length - (intOf i).toNat)
        case atStart => exact ⟨0, Nat.zero_le _, rfl, rfl, rfl⟩
        case round =>
          obtain ⟨j, hj, rfl, rfl, hinv2⟩ := hrel
          by_cases hlj : j < x.length
          · have HD := Lib.hid (digit02_any (x[j]'hlj))
            have HT := Lib.hid (hexN_take x j hlj)
            have HS := Lib.hid (all_take_hex x j hlj)
            have hd16 := hexD_lt (x[j]'hlj)
            have hN := hexN_small x j hlj hx4'
            have HBG : Hid (hexD (x[j]'hlj) < 0 → grpOk x = false) := fun h => hexAll_get x j hlj h
            obtain ⟨c, hcc⟩ : ∃ c, ∀ h, x[j]'h = c := ⟨x[j]'hlj, fun _ => rfl⟩
            rw [hcc] at HD HT HS hd16 HBG
            generalize hexN (x.take j) = n at *
            by_cases hd0 : hexD c < 0
            · obtain ⟨rfl, rfl⟩ := HBK.out (HBG.out hd0)
              go_wp2_with (go_at_call 127; refine (HD.out _).mono ?_; intro e w' h; obtain ⟨rfl, h2⟩ := h; subst w')
              exact ret_cell_tmp w.heap.size (addrC zeroA) (.bool false) rfl rfl rfl agg_addr (by simp [go_sem, hv]) (by simp [go_sem, hv]) rfl ⟨rfl, below_setRow HB.out (Nat.le_refl _) _⟩
            · have hd0' : decide (0 ≤ hexD c) = true := decide_eq_true (by omega)
              generalize hexD c = d at *
              go_wp2_with (go_at_call 127; refine (HD.out _).mono ?_; intro e w' h; obtain ⟨rfl, h2⟩ := h; subst w')
              go_round
              case rel => exact ⟨j + 1, by omega, by go_num, by rw [HT.out]; go_num, show _ = true by rw [HS.out, hinv2.out, hd0']; rfl⟩
              case measure => simp [intOf]; omega
          · obtain rfl : j = x.length := by omega
            have hall := hinv2.out
            rw [List.take_length] at hall ⊢
            have hok := grp_all hx1' hx4' hall
            obtain ⟨hn, hh, hlo'⟩ := hexN_hi hok
            have hq : (hexN x : Int).tdiv 256 = ((hexN x / 256 : Nat) : Int) := tdiv_nat _ 256
            have hm : (hexN x : Int).tmod 256 = ((hexN x % 256 : Nat) : Int) := tmod_nat _ 256
            have HOK := Lib.hid hok
            clear hok hall hinv2
            have hq2 : hexN x / 256 < 256 := by omega
            have hm2 : hexN x % 256 < 256 := by omega
            generalize hexN x / 256 = q at *
            generalize hexN x % 256 = r at *
            generalize hexN x = n at *
            have hwq : IntKind.i64.wrap (q : Int) = (q : Int) := IntWalk.i64_in _ (by omega)
            go_wp2
            go_roundw
            case rel =>
              refine ⟨k + 1, by omega, by go_num, (HB.out.setCell (by first | omega | (simp; done) | (simp; omega)) _).setCell (by first | omega | (simp; done) | (simp; omega)) _, by simp [go_sem]; omega, (HAT.out.setCell _ _ (by dsimp only; omega)).setCell _ _ (by dsimp only; omega), (HR.out.setCell_other _ _ (by dsimp only; omega)).setCell_other _ _ (by dsimp only; omega), ?_, show _ = true by rw [HAS.out, hinv.out, HOK.out]; rfl⟩
              rw [HE.out, ← u8Set, ← u8Set, ← hh, ← hlo']
              exact (HA.out.setCell _ _).setCell _ _
            case measure => simp [intOf]; omega
      · obtain rfl : k = L.length := by omega
        have hlt8 : ¬ (L.length : Int) < 8 := by omega
        have hall := hinv.out
        rw [List.take_length] at hall
        obtain ⟨rfl, hA⟩ := HALL.out hall
        rw [h8] at ha
        have h1 : hasRow wr ⟨w.heap.size + 1, 0, none⟩ 16 = true := ha.hasRow (by rw [u8Len, fromTo_length _ hg8 8 (Nat.le_refl _)])
        have h2 : rowAt wr ⟨w.heap.size + 1, 0, none⟩ 16 = addrC A := by rw [ha.rowAt (by rw [u8Len, fromTo_length _ hg8 8 (Nat.le_refl _)]), hA]
        have h3 : hasVar wr w.heap.size 16 = true := hr.has rfl
        go_wp2
        exact ret_cell_tmp w.heap.size (addrC A) (.bool true) rfl rfl rfl agg_addr (by simp [go_sem, h3]) (by simp [go_sem, h3]) rfl ⟨rfl, below_setRow HB.out (Nat.le_refl _) _⟩
  · obtain ⟨e1, e2⟩ := eight_no (eight_not8 h8)
    have h8' : (((splitL 58 l).length : Int) != 8) = true := by simp; omega
    rw [e1, e2]
    generalize splitL 58 l = L at *
    clear e1 e2 h8
    go_enter Tryz.func106, Tryz.ntmps106
    go_wp2_with (go_at_call 37; refine (HC.out _).mono ?_; intro e w1 hg; obtain ⟨a1, c1, rfl, hc1, hb1, hl1⟩ := hg; obtain ⟨p1, rfl⟩ := grown_of hb1; clear hb1)
    exact ret_cell_tmp w.heap.size (addrC zeroA) (.bool false) rfl rfl rfl agg_addr (by simp [go_sem]) (by simp [go_sem]) rfl ⟨rfl, below_setRow (by repeat (first | exact Below.refl _ _ | assumption | refine below_grown ?_ (by first | omega | (simp [go_sem]; done) | (simp [go_sem] <;> omega)) _ | refine Below.alloc ?_ (by first | omega | (simp [go_sem]; done) | (simp [go_sem] <;> omega)) _ | refine below_bytesW ?_ (by first | omega | (simp [go_sem]; done) | (simp [go_sem] <;> omega)) _ | refine Below.drew ?_ | refine below_drewN ?_ _)) (Nat.le_refl _) _⟩
end

section
open Go Go.RowKit
set_option maxRecDepth 20000
set_option linter.unusedSimpArgs false
set_option linter.unusedVariables false

theorem eight_again {t : List UInt8} {ok : Bool} (ht : t.length ≤ 4294967280) (h : eightOk t = ok) (w : World) :
    Calls Tryz.prog 106 #[.string ⟨t.toArray⟩] w fun e w' => e = .returned (.tuple #[.agg (addrC (eightA t)), .bool ok]) ∧ Below w.heap.size w w' := h ▸ eight_any t ht w
theorem eight_isSome {s : List UInt8} (h : eightOk s = true) : ∃ g, eightL s = some g := Option.isSome_iff_exists.1 h
theorem eight_isNone {s : List UInt8} (h : eightOk s = false) : eightL s = none := by
  unfold eightOk at h
  cases he : eightL s with
  | none => rfl
  | some g => rw [he] at h; cases h
theorem zerosT_length : ∀ k, (zerosT k).length = 2 * k + 1
  | 0 => rfl
  | k + 1 => by rw [zerosT, List.length_append, zerosT_length k]; simp; omega
set_option maxHeartbeats 2000000 in
theorem refV6_any (l : List UInt8) (hl : l.length ≤ 2000000000) (w : World) :
    Calls Tryz.prog 87 #[.string ⟨l.toArray⟩] w fun e w' => e = .returned (.tuple #[.agg (addrC (v6A l)), .bool (v6Ok l)]) ∧ Below w.heap.size w w' := by
  cases h8 : eightOk l
  · have HC := Lib.hid (fun w => eight_again (t := l) (by omega) h8 w)
    have hN0 : NoTry l 0 := ⟨eight_isNone h8, fun j hj => by cases hj⟩
    have HDONE : Hid (∀ k, NoTry l k → l.length < k + 2 → v6Ok l = false ∧ v6A l = zeroA) := fun k h hk => v6_no (h.done hk)
    have HTRY : Hid (∀ k j, ccAt l k → eightOk (frontT (l.take k) ++ zerosT j ++ backT (l.drop (k + 2))) = true → v6Ok l = true ∧ v6A l = eightA (frontT (l.take k) ++ zerosT j ++ backT (l.drop (k + 2)))) := fun k j hc h => by
      obtain ⟨g, hg⟩ := eight_isSome h
      exact eight_v6A h ((try_some hc hg).trans hg.symm)
    generalize eightA l = A0 at *
    generalize v6A l = A at *
    generalize v6Ok l = ok at *
    go_enter Tryz.func87, Tryz.ntmps87
    go_wp2_with (go_at_call 106; refine (HC.out _).mono ?_; rintro e w1 ⟨rfl, hb1⟩; obtain ⟨p1, rfl⟩ := grown_of hb1; clear hb1)
    go_loopw [6, 7, 8, 9, 10, 11, 12] (fun i _ _ _ _ _ _ wr => ∃ (k : Nat), k ≤ l.length ∧ i = .int .i64 k ∧ Below w.heap.size w wr ∧ w.heap.size < wr.heap.size ∧ Var wr w.heap.size (u8Cod.encs (List.replicate 16 0)) ∧ Hid (NoTry l k)) (fun i _ _ _ _ _ _ _ => l.length - (intOf i).toNat)
    case atStart => exact ⟨0, Nat.zero_le _, rfl, (by repeat (first | exact Below.refl _ _ | assumption | refine below_grown ?_ (by first | omega | (simp [go_sem]; done) | (simp [go_sem] <;> omega)) _ | refine Below.alloc ?_ (by first | omega | (simp [go_sem]; done) | (simp [go_sem] <;> omega)) _ | refine below_bytesW ?_ (by first | omega | (simp [go_sem]; done) | (simp [go_sem] <;> omega)) _ | refine Below.drew ?_ | refine below_drewN ?_ _)), by simp [go_sem], ((Var.new w _ _ rfl rfl : Var (w.alloc _) w.heap.size (u8Cod.encs (List.replicate 16 0))).grown _).alloc _, hN0⟩
    case round =>
      obtain ⟨k, hk, rfl, hb, hsz, hr, hinv⟩ := hrel
      have HB := Lib.hid hb
      have HR := Lib.hid hr
      clear hb hr
      have hv : hasVar wr w.heap.size 16 = true := HR.out.has rfl
      by_cases hlt : k + 2 ≤ l.length
      · have hlt' : (k : Int) + 2 ≤ l.length := by omega
        have hcc := cc_at (s := l) (i := k) hlt
        obtain ⟨c, hc⟩ : ∃ c, ∀ h, l[k]'h = c := ⟨l[k]'(by omega), fun _ => rfl⟩
        obtain ⟨d, hd⟩ : ∃ d, ∀ h, l[k + 1]'h = d := ⟨l[k + 1]'(by omega), fun _ => rfl⟩
        rw [hc, hd] at hcc
        by_cases h1 : c = 58
        · by_cases h2 : d = 58
          · have HCC := Lib.hid (hcc.2 ⟨h1, h2⟩)
            have h1' : ((c.toNat : Int) != 58) = false := by subst h1; rfl
            have h2' : ((d.toNat : Int) != 58) = false := by subst h2; rfl
            clear hcc h1 h2
            have HFX : ((l.take k).isEmpty = true ∧ frontT (l.take k) = l.take k) ∨ ((l.take k).isEmpty = false ∧ frontT (l.take k) = l.take k ++ [58]) := by unfold frontT; cases l.take k <;> simp
            have HBY : ((l.drop (k + 2)).isEmpty = true ∧ backT (l.drop (k + 2)) = l.drop (k + 2)) ∨ ((l.drop (k + 2)).isEmpty = false ∧ backT (l.drop (k + 2)) = 58 :: l.drop (k + 2)) := by unfold backT; cases l.drop (k + 2) <;> simp
            have HT0 := Lib.hid (fun j => HTRY.out k j HCC.out)
            have HNX0 : Hid ((∀ j, j < 8 → eightOk (frontT (l.take k) ++ zerosT j ++ backT (l.drop (k + 2))) = false) → NoTry l (k + 1)) := fun h => hinv.out.next (try_none fun j hj => eight_isNone (h j hj))
            have hFl : (frontT (l.take k)).length ≤ l.length + 1 := by rcases HFX with ⟨_, e⟩ | ⟨_, e⟩ <;> rw [e] <;> simp <;> omega
            have hBl : (backT (l.drop (k + 2))).length ≤ l.length + 1 := by rcases HBY with ⟨_, e⟩ | ⟨_, e⟩ <;> rw [e] <;> simp <;> omega
            obtain ⟨F, hF0⟩ : ∃ F, F = frontT (l.take k) := ⟨_, rfl⟩
            obtain ⟨B, hB0⟩ : ∃ B, B = backT (l.drop (k + 2)) := ⟨_, rfl⟩
            have HT : Hid (∀ j, eightOk (F ++ zerosT j ++ B) = true → ok = true ∧ A = eightA (F ++ zerosT j ++ B)) := by rw [hF0, hB0]; exact HT0.out
            have HNX : Hid ((∀ j, j < 8 → eightOk (F ++ zerosT j ++ B) = false) → NoTry l (k + 1)) := by rw [hF0, hB0]; exact HNX0.out
            rw [← hF0] at hFl HFX
            rw [← hB0] at hBl HBY
            clear hF0 hB0
            rcases HFX with ⟨hx, hF⟩ | ⟨hx, hF⟩
            all_goals
              rcases HBY with ⟨hy, hB⟩ | ⟨hy, hB⟩
            all_goals
              go_wp2
              rw [← hF, ← hB]
              clear hF hB hx hy
              clear HNX0 HT0
              go_loopw [9, 10, 11, 12] (fun z i _ _ wr => ∃ (j : Nat), j ≤ 8 ∧ z = .string ⟨(zerosT j).toArray⟩ ∧ i = .int .i64 j ∧ Below w.heap.size w wr ∧ w.heap.size < wr.heap.size ∧ Var wr w.heap.size (u8Cod.encs (List.replicate 16 0)) ∧ Hid (∀ i, i < j → eightOk (F ++ zerosT i ++ B) = false)) (fun _ i _ _ _ => 8 - (intOf i).toNat)
              case atStart => exact ⟨0, Nat.zero_le _, rfl, rfl, HB.out, hsz, HR.out, fun i hi => by cases hi⟩
              case round =>
                obtain ⟨j, hj, rfl, rfl, hb, hsz', hr, hno⟩ := hrel
                have HB' := Lib.hid hb
                have HR' := Lib.hid hr
                clear hb hr
                have hv' : ∀ p o, hasVar ((grown wr p).alloc o) w.heap.size 16 = true := fun p o => ((HR'.out.grown p).alloc o).has rfl
                by_cases hj8 : j < 8
                · have hj8' : (j : Int) < 8 := by omega
                  have hzl := zerosT_length j
                  have HTJ := Lib.hid (HT.out j)
                  have HZ : Hid (zerosT (j + 1) = zerosT j ++ [58, 48]) := rfl
                  have hNJ := hno.out
                  cases he : eightOk (F ++ zerosT j ++ B)
                  · have HN : Hid (∀ i, i < j + 1 → eightOk (F ++ zerosT i ++ B) = false) := fun i hi => by
                      by_cases e : i = j
                      · subst e; exact he
                      · exact hNJ i (by omega)
                    clear hNJ hno
                    generalize hZj : zerosT j = Z at *
                    have HE := Lib.hid (fun w => eight_again (t := F ++ Z ++ B) (by simp; omega) he w)
                    clear he
                    rw [List.append_assoc] at HE
                    generalize eightA (F ++ (Z ++ B)) = A1 at *
                    have hn1 : ¬ 9223372036854775807 < F.length + Z.length := by omega
                    have hn2 : ¬ 9223372036854775807 < F.length + Z.length + B.length := by omega
                    have hn3 : ¬ 9223372036854775807 < F.length + (Z.length + B.length) := by omega
                    have hn4 : ¬ 9223372036854775807 < Z.length + 2 := by omega
                    go_wp2_with (go_at_call 106; refine (HE.out _).mono ?_; rintro e w1 ⟨rfl, hb1⟩; obtain ⟨p1, rfl⟩ := grown_of hb1; clear hb1)
                    go_roundw
                    case rel => exact ⟨j + 1, by omega, by rw [HZ.out], by go_num, ((below_grown HB'.out HB'.out.size _).alloc (by first | omega | (simp; done) | (simp; omega) | (simp [go_sem]; done) | (simp [go_sem]; omega)) _), by simp [go_sem]; omega, (HR'.out.grown _).alloc _, HN.out⟩
                    case measure => simp [intOf]; omega
                  · obtain ⟨rfl, hA⟩ := HTJ.out he
                    have HE := Lib.hid (fun w => eight_again (t := F ++ zerosT j ++ B) (by simp; omega) he w)
                    rw [← hA, List.append_assoc] at HE
                    clear he hNJ hno HZ hA HTJ
                    generalize hZj : zerosT j = Z at *
                    have hn1 : ¬ 9223372036854775807 < F.length + Z.length := by omega
                    have hn2 : ¬ 9223372036854775807 < F.length + Z.length + B.length := by omega
                    have hn3 : ¬ 9223372036854775807 < F.length + (Z.length + B.length) := by omega
                    go_wp2_with (go_at_call 106; refine (HE.out _).mono ?_; rintro e w1 ⟨rfl, hb1⟩; obtain ⟨p1, rfl⟩ := grown_of hb1; clear hb1)
                    exact ret_cell_tmp w.heap.size (addrC A) (.bool true) rfl rfl rfl agg_addr (by simp [go_sem, hv']) (by simp [go_sem, hv']) rfl ⟨by simp, below_setRow ((below_grown HB'.out HB'.out.size _).alloc (by first | omega | (simp; done) | (simp; omega) | (simp [go_sem]; done) | (simp [go_sem]; omega)) _) (Nat.le_refl _) _⟩
                · obtain rfl : j = 8 := by omega
                  have HNN := Lib.hid (HNX.out hno.out)
                  go_wp2
                  go_roundw
                  case rel => exact ⟨k + 1, by omega, by go_num, HB'.out, hsz', HR'.out, HNN.out⟩
                  case measure => simp [intOf]; omega
          · have HS := Lib.hid (hinv.out.skip fun h => h2 (hcc.1 h).2)
            have h1' : ((c.toNat : Int) != 58) = false := by subst h1; rfl
            have h2' : ((d.toNat : Int) != 58) = true := by rw [u8_lit_ne d 58 58 rfl]; simpa using h2
            clear hcc h1 h2
            go_wp2
            go_roundw
            case rel => exact ⟨k + 1, by omega, by go_num, HB.out, hsz, HR.out, HS.out⟩
            case measure => simp [intOf]; omega
        · have HS := Lib.hid (hinv.out.skip fun h => h1 (hcc.1 h).1)
          have h1' : ((c.toNat : Int) != 58) = true := by rw [u8_lit_ne c 58 58 rfl]; simpa using h1
          clear hcc h1
          go_wp2
          go_roundw
          case rel => exact ⟨k + 1, by omega, by go_num, HB.out, hsz, HR.out, HS.out⟩
          case measure => simp [intOf]; omega
      · have hlt' : ¬ (k : Int) + 2 ≤ l.length := by omega
        obtain ⟨rfl, rfl⟩ := HDONE.out _ hinv.out (by omega)
        go_wp2
        exact ret_cell_tmp w.heap.size (addrC zeroA) (.bool false) rfl rfl rfl agg_addr (by simp [go_sem, hv]) (by simp [go_sem, hv]) rfl ⟨rfl, below_setRow HB.out (Nat.le_refl _) _⟩
  · obtain ⟨e1, e2⟩ := eight_v6A (t := l) h8 (by obtain ⟨g, hg⟩ := eight_isSome h8; rw [eight_v6 hg, hg])
    have HC := Lib.hid (fun w => eight_again (t := l) (by omega) h8 w)
    rw [e1, e2]
    generalize eightA l = A at *
    go_enter Tryz.func87, Tryz.ntmps87
    go_wp2_with (go_at_call 106; refine (HC.out _).mono ?_; rintro e w1 ⟨rfl, hb1⟩; obtain ⟨p1, rfl⟩ := grown_of hb1; clear hb1)
    exact ret_cell_tmp w.heap.size (addrC A) (.bool true) rfl rfl rfl agg_addr (by simp [go_sem]) (by simp [go_sem]) rfl ⟨by simp, below_setRow (by repeat (first | exact Below.refl _ _ | assumption | refine below_grown ?_ (by first | omega | (simp [go_sem]; done) | (simp [go_sem] <;> omega)) _ | refine Below.alloc ?_ (by first | omega | (simp [go_sem]; done) | (simp [go_sem] <;> omega)) _ | refine below_bytesW ?_ (by first | omega | (simp [go_sem]; done) | (simp [go_sem] <;> omega)) _ | refine Below.drew ?_ | refine below_drewN ?_ _)) (Nat.le_refl _) _⟩
end

section
open Go Go.RowKit
set_option maxRecDepth 20000
set_option linter.unusedSimpArgs false
set_option linter.unusedVariables false

theorem all_take_lab (l : List UInt8) (k : Nat) (h : k < l.length) : (l.take (k + 1)).all labC = ((l.take k).all labC && labC (l[k]'h)) := by
  rw [List.take_succ_eq_append_getElem h, List.all_append]; simp
theorem lab_bad {x : List UInt8} (k : Nat) (h : k < x.length) (hc : labC (x[k]'h) = false) : labOk x = false := by
  have : x.all labC = false := List.all_eq_false.2 ⟨_, List.getElem_mem h, by rw [hc]; decide⟩
  rw [labOk, this]; simp
theorem lab_good {x : List UInt8} (h : x.all labC = true) : labOk x = (decide ((1 : Int) ≤ x.length) && decide ((x.length : Int) ≤ 63)) := by
  rw [labOk, h]
  cases x with
  | nil => rfl
  | cons c t =>
    have : decide ((1 : Int) ≤ ((c :: t).length : Int)) = true := decide_eq_true (by simp; omega)
    rw [this]
    by_cases hl : (c :: t).length ≤ 63
    · rw [decide_eq_true hl, decide_eq_true (by omega : (((c :: t).length : Nat) : Int) ≤ 63)]; rfl
    · rw [decide_eq_false hl, decide_eq_false (by omega : ¬ (((c :: t).length : Nat) : Int) ≤ 63)]; rfl
set_option maxHeartbeats 1000000 in
theorem refLabel_any (x : List UInt8) (hx : x.length ≤ maxLen) (w : World) :
    Calls Tryz.prog 90 #[.string ⟨x.toArray⟩] w fun e w' => e = .returned (.bool (labOk x)) ∧ w = w' := by
  unfold maxLen at hx
  have HBAD : Hid (∀ k (h : k < x.length), labC (x[k]'h) = false → labOk x = false) := fun k h hc => lab_bad k h hc
  have HALL : Hid ((x.take x.length).all labC = true → labOk x = (decide ((1 : Int) ≤ x.length) && decide ((x.length : Int) ≤ 63))) := fun h => lab_good (by rwa [List.take_length] at h)
  generalize labOk x = ok at *
  go_enter Tryz.func90, Tryz.ntmps90
  go_wp2
  go_loop [3, 4] (fun i _ => ∃ k : Nat, k ≤ x.length ∧ i = .int .i64 k ∧ Hid ((x.take k).all labC = true)) (fun i _ => x.length - (intOf i).toNat)
  case atStart => exact ⟨0, Nat.zero_le _, rfl, rfl⟩
  case round =>
    obtain ⟨k, hk, rfl, hinv⟩ := hrel
    by_cases hlt : k < x.length
    · have HS := Lib.hid (all_take_lab x k hlt)
      have HB := Lib.hid (HBAD.out k hlt)
      obtain ⟨c, hcc⟩ : ∃ c, ∀ h, x[k]'h = c := ⟨x[k]'hlt, fun _ => rfl⟩
      rw [hcc] at HS HB
      rcases labC_cases c with ⟨h1, h2, hd⟩ | ⟨h1, h2, hd⟩ | ⟨h1, h2, hd⟩ | ⟨h1, h2, h3, hd⟩ | ⟨h1, h2, h3, hd⟩ | ⟨h1, h2, hd⟩ | ⟨h1, hd⟩
      · obtain rfl := HB.out hd
        have n1 : ((c.toNat : Int) != 45) = true := by rw [bne, h2]; rfl
        have n2 : ((c.toNat : Int) != 95) = true := by rw [bne_iff_ne]; omega
        have t1 : (c.toNat : Int) < 97 := by omega
        go_wp2
        go_ret
        exact ⟨rfl, rfl⟩
      · have n1 : ((c.toNat : Int) != 45) = false := by rw [bne, h2]; rfl
        have t1 : (c.toNat : Int) < 97 := by omega
        go_wp2
        go_round
        case rel => exact ⟨k + 1, by omega, by go_num, show _ = true by rw [HS.out, hinv.out, hd]; rfl⟩
        case measure => simp [intOf]; omega
      · have t1 : (c.toNat : Int) < 97 := by omega
        have t2 : ¬ (c.toNat : Int) < 48 := by omega
        have t3 : ¬ (57 : Int) < (c.toNat : Int) := by omega
        go_wp2
        go_round
        case rel => exact ⟨k + 1, by omega, by go_num, show _ = true by rw [HS.out, hinv.out, hd]; rfl⟩
        case measure => simp [intOf]; omega
      · obtain rfl := HB.out hd
        have n1 : ((c.toNat : Int) != 45) = true := by rw [bne_iff_ne]; omega
        have n2 : ((c.toNat : Int) != 95) = true := by rw [bne, h3]; rfl
        have t2 : ¬ (c.toNat : Int) < 48 := by omega
        go_wp2
        go_ret
        exact ⟨rfl, rfl⟩
      · have n1 : ((c.toNat : Int) != 45) = true := by rw [bne_iff_ne]; omega
        have n2 : ((c.toNat : Int) != 95) = false := by rw [bne, h3]; rfl
        have t2 : ¬ (c.toNat : Int) < 48 := by omega
        go_wp2
        go_round
        case rel => exact ⟨k + 1, by omega, by go_num, show _ = true by rw [HS.out, hinv.out, hd]; rfl⟩
        case measure => simp [intOf]; omega
      · have t1 : ¬ (c.toNat : Int) < 97 := by omega
        have t2 : ¬ (122 : Int) < (c.toNat : Int) := by omega
        go_wp2
        go_round
        case rel => exact ⟨k + 1, by omega, by go_num, show _ = true by rw [HS.out, hinv.out, hd]; rfl⟩
        case measure => simp [intOf]; omega
      · obtain rfl := HB.out hd
        have n1 : ((c.toNat : Int) != 45) = true := by rw [bne_iff_ne]; omega
        have n2 : ((c.toNat : Int) != 95) = true := by rw [bne_iff_ne]; omega
        have t1 : ¬ (c.toNat : Int) < 97 := by omega
        have t2 : ¬ (c.toNat : Int) < 48 := by omega
        have t3 : (57 : Int) < (c.toNat : Int) := by omega
        go_wp2
        go_ret
        exact ⟨rfl, rfl⟩
    · obtain rfl : k = x.length := by omega
      obtain rfl := HALL.out hinv.out
      clear HALL hinv
      by_cases h1 : (1 : Int) ≤ x.length
      all_goals
        go_wp2
        go_ret
        exact ⟨by first | rfl | exact ret_bool (by simp; try omega), rfl⟩

/-! ### Parse -/
theorem six_nil : six [] = false := rfl
theorem six_cons (c : UInt8) (t : List UInt8) : six (c :: t) = (c == 91) := by
  show ((91 : UInt8) == c && List.isPrefixOf [] t) = _
  rw [Bool.beq_comm]
  show ((c == 91) && true) = _
  rw [Bool.and_true]
theorem six_at {l : List UInt8} (h : 0 < l.length) : six l = (l[0]'h == 91) := by
  cases l with
  | nil => cases h
  | cons c t => exact six_cons c t
theorem in1_six {l : List UInt8} (h : six l = true) : in1 l = l.drop 1 := by
  unfold in1 Lib.trimPrefix
  unfold six at h
  rw [if_pos h]; rfl
theorem suffix_one (x : List UInt8) (c : UInt8) : Lib.hasSuffix x [c] = (x.getLast? == some c) := by
  unfold Lib.hasSuffix
  rw [Bool.eq_iff_iff, List.isSuffixOf_iff_suffix, beq_iff_eq]
  constructor
  · rintro ⟨t, rfl⟩
    simp
  · intro h
    obtain ⟨t, rfl⟩ := List.getLast?_eq_some_iff.1 h
    exact ⟨t, rfl⟩
theorem closed_at {l : List UInt8} (h : six l = true) (h0 : l.length - 1 < l.length) : closedB l = (l[l.length - 1]'h0 == 93) := by
  unfold closedB
  rw [in1_six h, suffix_one]
  cases l with
  | nil => cases h
  | cons c t =>
    rw [six_cons] at h
    obtain rfl : c = 91 := by simpa using h
    cases t with
    | nil => rfl
    | cons d t =>
      have e : ((91 : UInt8) :: d :: t).drop 1 = d :: t := rfl
      rw [e, List.getLast?_eq_getElem?, List.getElem?_eq_getElem (by simp)]
      simp
theorem in6_at {l : List UInt8} (h : six l = true) (hc : closedB l = true) : in6 l = l.tail.take (l.length - 1 - 1) := by
  unfold in6 Lib.trimSuffix
  unfold closedB at hc
  rw [if_pos hc, in1_six h, List.drop_one, List.length_tail]
  rfl
theorem closed_len {l : List UInt8} (h : six l = true) (hc : closedB l = true) : 2 ≤ l.length := by
  cases l with
  | nil => cases h
  | cons c t =>
    cases t with
    | nil =>
      rw [six_cons] at h
      obtain rfl : c = 91 := by simpa using h
      exact absurd hc (by decide)
    | cons d t => simp
theorem nameB_bad {l : List UInt8} (p : List UInt8) (hp : p ∈ labsL l) (h : labOk p = false) : nameB l = false := by
  unfold nameB
  rw [Bool.and_eq_false_iff]
  exact .inr (List.all_eq_false.2 ⟨p, hp, by rw [h]; decide⟩)
theorem nameB_long {l : List UInt8} (h : 253 < l.length) : nameB l = false := by
  unfold nameB
  rw [decide_eq_false (by omega)]; rfl
theorem nameB_good {l : List UInt8} (h : l.length ≤ 253) (ha : (labsL l).all labOk = true) : nameB l = true := by
  unfold nameB
  rw [decide_eq_true h, ha]; rfl
theorem all_take_labs (L : List (List UInt8)) (k : Nat) (h : k < L.length) : (L.take (k + 1)).all labOk = ((L.take k).all labOk && labOk (L[k]'h)) := by
  rw [List.take_succ_eq_append_getElem h, List.all_append]; simp
theorem addrOk_no (k : Int) (a : GAddr) : addrOk k a false = zeroH := rfl
set_option maxRecDepth 100000 in
set_option maxHeartbeats 2000000 in
theorem refParse_any (l : List UInt8) (hl : l.length ≤ 2000000000) (w : World) :
    Calls Tryz.prog 67 #[.string ⟨l.toArray⟩] w fun e w' => e = .returned (.tuple #[.agg (hostC (parseH l)), .int .i64 (parseE l)]) ∧ Below w.heap.size w w' := by
  cases h6 : six l
  · have hfirst : l.length = 0 ∨ (0 < l.length ∧ ∀ h, (((l[0]'h).toNat : Int) == 91) = false) := by
      rcases Nat.eq_zero_or_pos l.length with h | h
      · exact .inl h
      · refine .inr ⟨h, fun h => ?_⟩
        rw [u8_lit _ 91 91 rfl, ← six_at h, h6]
    have HLW : Hid (∀ w, Calls Tryz.prog 65 #[.string ⟨l.toArray⟩] w fun e w' => e = .returned (.string ⟨(lowerL l).toArray⟩) ∧ Below w.heap.size w w') := fun w => refLower_any l (by unfold maxLen; omega) w
    have HSP : Hid (∀ w, Calls Tryz.prog 37 #[.string ⟨(lowerL l).toArray⟩, .int .u8 46] w (Gives strCod (labsL l) w)) := fun w => refSplit_any (lowerL l) 46 (by rw [lowerL_len]; omega) w
    have HDG : Hid (∀ w, Calls Tryz.prog 88 #[.string ⟨(lastL l).toArray⟩] w fun e w' => e = .returned (.bool (lastD l)) ∧ w = w') := fun w => refDigits_any (lastL l) (by
      have hlt : (labsL l).length - 1 < (labsL l).length := by have := List.length_pos_iff.2 (labs_ne l); omega
      have := labs_piece l _ (List.getElem_mem hlt)
      rw [lastL_eq l hlt] at this
      unfold maxLen; omega) w
    have HLE := Lib.hid (lastL_eq l)
    have HN := Lib.hid (labs_ne l)
    have hpos := List.length_pos_iff.2 (labs_ne l)
    have hLl := labs_len l
    have HPC := Lib.hid (labs_piece l)
    have hll := lowerL_len l
    cases h4 : lastD l
    · rw [h4] at HDG
      have HBAD : Hid (∀ p ∈ labsL l, labOk p = false → parseH l = zeroH ∧ parseE l = 31) := fun p hp h => parse_none h6 h4 (nameB_bad p hp h)
      have HLONG : Hid (253 < l.length → parseH l = zeroH ∧ parseE l = 31) := fun h => parse_none h6 h4 (nameB_long h)
      have HGOOD : Hid (l.length ≤ 253 → (labsL l).all labOk = true → hostC (parseH l) = nameV (lowerL l) ∧ parseE l = 0) := fun h ha => by
        obtain ⟨e1, e2⟩ := parse_name h6 h4 (nameB_good h ha)
        rw [e1, e2]
        exact ⟨(nameV_eq (by rw [hll]; exact h)).symm, rfl⟩
      clear h6 h4
      generalize lowerL l = lw at *
      generalize lastL l = la at *
      generalize labsL l = L at *
      generalize parseH l = H at *
      generalize parseE l = E at *
      rcases hfirst with h0 | ⟨h0, h0'⟩
      all_goals
        go_enter Tryz.func67, Tryz.ntmps67
        go_wp2_with (first
          | (go_at_call 65; refine (HLW.out _).mono ?_; rintro e w1 ⟨rfl, hb1⟩; obtain ⟨p1, rfl⟩ := grown_of hb1; clear hb1)
          | (go_at_call 37; refine (HSP.out _).mono ?_; intro e w1 hg; obtain ⟨b, o, cap, rfl, hcap, hb1, hlo, hhi, hat⟩ := hg.some HN.out; have HBC := Lib.hid (bel_up (w := w) (by repeat (first | exact Below.refl _ _ | assumption | refine below_grown ?_ (by first | omega | (simp [go_sem]; done) | (simp [go_sem] <;> omega)) _ | refine Below.alloc ?_ (by first | omega | (simp [go_sem]; done) | (simp [go_sem] <;> omega)) _ | refine below_bytesW ?_ (by first | omega | (simp [go_sem]; done) | (simp [go_sem] <;> omega)) _ | refine Below.drew ?_ | refine below_drewN ?_ _)) hb1); have hcell := strAt hat _ (by omega : L.length - 1 < L.length); rw [HLE.out] at hcell; have HVR := Lib.hid (Var.below (Var.grown (Var.new w _ _ rfl rfl : Var (w.alloc _) w.heap.size (hostL zeroH)) _) hb1); have HAT := Lib.hid hat; clear hg hb1 hat)
          | (go_at_call 88; refine (HDG.out _).mono ?_; intro e w' h; obtain ⟨rfl, h2⟩ := h; subst w'))
        go_loop [64, 11] (fun i _ => ∃ k : Nat, k ≤ L.length ∧ i = .int .i64 k ∧ Hid ((L.take k).all labOk = true)) (fun i _ => L.length - (intOf i).toNat)
        case atStart => exact ⟨0, Nat.zero_le _, rfl, rfl⟩
        case round =>
          obtain ⟨k, hk, rfl, hinv⟩ := hrel
          have hv := HVR.out.has (n := 18) rfl
          by_cases hlt : k < L.length
          · have hcl := strAt HAT.out k hlt
            have HS := Lib.hid (all_take_labs L k hlt)
            have HB := Lib.hid (HBAD.out _ (List.getElem_mem hlt))
            have HR := Lib.hid (refLabel_any (L[k]'hlt) (by have := HPC.out _ (List.getElem_mem hlt); unfold maxLen; omega))
            generalize L[k]'hlt = x at *
            cases hc : labOk x
            · obtain ⟨rfl, rfl⟩ := HB.out hc
              rw [hc] at HR
              go_wp2_with (go_at_call 90; refine (HR.out _).mono ?_; intro e w' h; obtain ⟨rfl, h2⟩ := h; subst w')
              exact ret_cell_tmp w.heap.size (hostC zeroH) (.int .i64 31) rfl rfl rfl agg_host (by simp [go_sem, hv]) (by simp [go_sem, hv]) rfl ⟨rfl, below_setRow HBC.out (Nat.le_refl _) _⟩
            · rw [hc] at HR
              go_wp2_with (go_at_call 90; refine (HR.out _).mono ?_; intro e w' h; obtain ⟨rfl, h2⟩ := h; subst w')
              go_round
              case rel => exact ⟨k + 1, by omega, by go_num, show _ = true by rw [HS.out, hinv.out, hc]; rfl⟩
              case measure => simp [intOf]; omega
          · obtain rfl : k = L.length := by omega
            have hall := hinv.out
            rw [List.take_length] at hall
            by_cases hlong : (253 : Int) < l.length
            · first
                | (exfalso; omega)
                | (obtain ⟨rfl, rfl⟩ := HLONG.out (by omega)
                   clear hall hinv
                   go_wp2
                   exact ret_cell_tmp w.heap.size (hostC zeroH) (.int .i64 31) rfl rfl rfl agg_host (by simp [go_sem, hv]) (by simp [go_sem, hv]) rfl ⟨rfl, below_setRow HBC.out (Nat.le_refl _) _⟩)
            · obtain ⟨hH, rfl⟩ := HGOOD.out (by omega) hall
              have HH := Lib.hid hH
              clear hall hinv hH
              go_wp2
              exact ret_cell_tmp w.heap.size (nameV lw) (.int .i64 0) rfl rfl rfl agg_host (by simp [go_sem, hv]) (by simp [go_sem, hv]) rfl ⟨by rw [HH.out], below_setRow HBC.out (Nat.le_refl _) _⟩
    · rw [h4] at HDG
      obtain ⟨e1, e2⟩ := parse_four h6 h4
      rw [e1, e2]
      have HV : Hid (∀ w, Calls Tryz.prog 89 #[.string ⟨l.toArray⟩] w fun e w' => e = .returned (.tuple #[.agg (addrC (v4A l)), .bool (v4Ok l)]) ∧ Below w.heap.size w w') := fun w => refV4_any l (by omega) w
      clear e1 e2 h6 h4
      generalize lowerL l = lw at *
      generalize lastL l = la at *
      generalize labsL l = L at *
      generalize v4A l = A at *
      generalize v4Ok l = ok at *
      rcases hfirst with h0 | ⟨h0, h0'⟩
      all_goals
        cases ok
        all_goals
          go_enter Tryz.func67, Tryz.ntmps67
          go_wp2_with (first
            | (go_at_call 65; refine (HLW.out _).mono ?_; rintro e w1 ⟨rfl, hb1⟩; obtain ⟨p1, rfl⟩ := grown_of hb1; clear hb1)
            | (go_at_call 37; refine (HSP.out _).mono ?_; intro e w1 hg; obtain ⟨b, o, cap, rfl, hcap, hb1, hlo, hhi, hat⟩ := hg.some HN.out; have HBC := Lib.hid (bel_up (w := w) (by repeat (first | exact Below.refl _ _ | assumption | refine below_grown ?_ (by first | omega | (simp [go_sem]; done) | (simp [go_sem] <;> omega)) _ | refine Below.alloc ?_ (by first | omega | (simp [go_sem]; done) | (simp [go_sem] <;> omega)) _ | refine below_bytesW ?_ (by first | omega | (simp [go_sem]; done) | (simp [go_sem] <;> omega)) _ | refine Below.drew ?_ | refine below_drewN ?_ _)) hb1); have hcell := strAt hat _ (by omega : L.length - 1 < L.length); rw [HLE.out] at hcell; have HVR := Lib.hid (Var.below (Var.grown (Var.new w _ _ rfl rfl : Var (w.alloc _) w.heap.size (hostL zeroH)) _) hb1); have hv := (fun p o => ((HVR.out.grown p).alloc o).has (n := 18) rfl); have HAT := Lib.hid hat; clear hg hb1 hat)
            | (go_at_call 88; refine (HDG.out _).mono ?_; intro e w' h; obtain ⟨rfl, h2⟩ := h; subst w')
            | (go_at_call 89; refine (HV.out _).mono ?_; rintro e w1 ⟨rfl, hb1⟩; obtain ⟨p1, rfl⟩ := grown_of hb1; clear hb1))
        · exact ret_cell_tmp w.heap.size (hostC zeroH) (.int .i64 31) rfl rfl rfl agg_host (by simp [go_sem, hv]) (by simp [go_sem, hv]) rfl ⟨rfl, below_setRow (by repeat (first | exact HBC.out | refine below_grown ?_ (by have hbcs := HBC.out.size; first | omega | (simp [go_sem]; omega)) _ | refine Below.alloc ?_ (by have hbcs := HBC.out.size; first | omega | (simp [go_sem]; omega)) _)) (Nat.le_refl _) _⟩
        · exact ret_cell_tmp w.heap.size (hostC (v4H A)) (.int .i64 0) rfl rfl rfl agg_host (by simp [go_sem, hv]) (by simp [go_sem, hv]) rfl ⟨rfl, below_setRow (by repeat (first | exact HBC.out | refine below_grown ?_ (by have hbcs := HBC.out.size; first | omega | (simp [go_sem]; omega)) _ | refine Below.alloc ?_ (by have hbcs := HBC.out.size; first | omega | (simp [go_sem]; omega)) _)) (Nat.le_refl _) _⟩
  · have h0 : 0 < l.length := by
      cases l with
      | nil => cases h6
      | cons c t => simp
    have h0' : ∀ h, (((l[0]'h).toNat : Int) == 91) = true := fun h => by rw [u8_lit _ 91 91 rfl, ← six_at h, h6]
    obtain ⟨e1, e2⟩ := parse_six h6
    rw [e1, e2]
    have hcl := closed_at h6 (by omega)
    have hcc : ∀ h, (((l[l.length - 1]'h).toNat : Int) != 93) = !closedB l := fun h => by rw [hcl, u8_lit_ne _ 93 93 rfl]; rfl
    cases hc : closedB l
    · rw [hc] at hcc
      rw [Bool.and_false]
      clear hcl e1 e2 hc
      go_enter Tryz.func67, Tryz.ntmps67
      go_wp2
      exact ret_cell_tmp w.heap.size (hostC zeroH) (.int .i64 31) rfl rfl rfl agg_host (by simp [go_sem]) (by simp [go_sem]) rfl ⟨rfl, (by repeat (first | exact Below.refl _ _ | assumption | refine below_grown ?_ (by first | omega | (simp [go_sem]; done) | (simp [go_sem] <;> omega)) _ | refine Below.alloc ?_ (by first | omega | (simp [go_sem]; done) | (simp [go_sem] <;> omega)) _ | refine below_bytesW ?_ (by first | omega | (simp [go_sem]; done) | (simp [go_sem] <;> omega)) _ | refine Below.drew ?_ | refine below_drewN ?_ _))⟩
    · rw [hc] at hcc
      rw [Bool.and_true]
      have h2 := closed_len h6 hc
      have HI := Lib.hid (in6_at h6 hc)
      have HV : Hid (∀ w, Calls Tryz.prog 87 #[.string ⟨(in6 l).toArray⟩] w fun e w' => e = .returned (.tuple #[.agg (addrC (v6A (in6 l))), .bool (v6Ok (in6 l))]) ∧ Below w.heap.size w w') := fun w => refV6_any (in6 l) (by have := in6_length l; omega) w
      clear hcl e1 e2 hc
      generalize v6A (in6 l) = A at *
      generalize v6Ok (in6 l) = ok at *
      rw [HI.out] at HV
      cases ok
      all_goals
        go_enter Tryz.func67, Tryz.ntmps67
        go_wp2_with (go_at_call 87; refine (HV.out _).mono ?_; rintro e w1 ⟨rfl, hb1⟩; obtain ⟨p1, rfl⟩ := grown_of hb1; clear hb1)
      · exact ret_cell_tmp w.heap.size (hostC zeroH) (.int .i64 31) rfl rfl rfl agg_host (by simp [go_sem]) (by simp [go_sem]) rfl ⟨rfl, below_setRow (by repeat (first | exact Below.refl _ _ | assumption | refine below_grown ?_ (by first | omega | (simp [go_sem]; done) | (simp [go_sem] <;> omega)) _ | refine Below.alloc ?_ (by first | omega | (simp [go_sem]; done) | (simp [go_sem] <;> omega)) _ | refine below_bytesW ?_ (by first | omega | (simp [go_sem]; done) | (simp [go_sem] <;> omega)) _ | refine Below.drew ?_ | refine below_drewN ?_ _)) (Nat.le_refl _) _⟩
      · exact ret_cell_tmp w.heap.size (hostC (v6H A)) (.int .i64 0) rfl rfl rfl agg_host (by simp [go_sem]) (by simp [go_sem]) rfl ⟨rfl, below_setRow (by repeat (first | exact Below.refl _ _ | assumption | refine below_grown ?_ (by first | omega | (simp [go_sem]; done) | (simp [go_sem] <;> omega)) _ | refine Below.alloc ?_ (by first | omega | (simp [go_sem]; done) | (simp [go_sem] <;> omega)) _ | refine below_bytesW ?_ (by first | omega | (simp [go_sem]; done) | (simp [go_sem] <;> omega)) _ | refine Below.drew ?_ | refine below_drewN ?_ _)) (Nat.le_refl _) _⟩
/-! ### Text, Right, Labels, Under -/
end

section
open Go Go.RowKit
set_option maxRecDepth 20000
set_option linter.unusedSimpArgs false
set_option linter.unusedVariables false

theorem pathOk_end {s : List UInt8} (ha : s.all pathC = true) : pathOk s = (decide ((1 : Int) ≤ s.length) && (decide ((s.length : Int) ≤ 2048) && (s.headD 0 == 47))) := by
  unfold pathOk
  rw [ha, Bool.and_true]
  congr 1
  · rw [decide_eq_decide]; omega
  · congr 1
    rw [decide_eq_decide]; omega
set_option maxHeartbeats 1000000 in
theorem refUPath_any (s : List UInt8) (hs : s.length ≤ maxLen) (w : World) :
    Calls Tryz.prog 69 #[.string ⟨s.toArray⟩] w fun e w' => e = .returned (.bool (pathOk s)) ∧ w = w' := by
  unfold maxLen at hs
  have HBAD : Hid (∀ k (h : k < s.length), pathC (s[k]'h) = false → pathOk s = false) := fun k h hc => pathOk_bad k h hc
  have HALL : Hid ((s.take s.length).all pathC = true → pathOk s = (decide ((1 : Int) ≤ s.length) && (decide ((s.length : Int) ≤ 2048) && (s.headD 0 == 47)))) := fun h => pathOk_end (by rwa [List.take_length] at h)
  generalize pathOk s = ok at *
  go_enter Tryz.func69, Tryz.ntmps69
  go_wp2
  go_loop [3] (fun i => ∃ k : Nat, k ≤ s.length ∧ i = .int .i64 k ∧ Hid ((s.take k).all pathC = true)) (fun i => s.length - (intOf i).toNat)
  case atStart => exact ⟨0, Nat.zero_le _, rfl, rfl⟩
  case round =>
    obtain ⟨k, hk, rfl, hinv⟩ := hrel
    by_cases hlt : k < s.length
    · have HS := Lib.hid (all_take_path s k hlt)
      have HBK := Lib.hid (HBAD.out k hlt)
      obtain ⟨c, hcc⟩ : ∃ c, ∀ h, s[k]'h = c := ⟨s[k]'hlt, fun _ => rfl⟩
      rw [hcc] at HS HBK
      rcases pathC_cases c with ⟨c1, hc⟩ | ⟨c1, hc⟩ | ⟨c1, c2, c3, c4, hc⟩ | ⟨c1, c2, c3, c4, hc⟩ | ⟨c1, c2, c3, c4, hc⟩
      · obtain rfl := HBK.out hc
        go_wp2
        go_ret
        exact ⟨rfl, rfl⟩
      · obtain rfl := HBK.out hc
        have c1' : ¬ (c.toNat : Int) < 33 := by omega
        go_wp2
        go_ret
        exact ⟨rfl, rfl⟩
      · obtain rfl := HBK.out hc
        have c1' : ¬ (c.toNat : Int) < 33 := by omega
        have c2' : ¬ (126 : Int) < (c.toNat : Int) := by omega
        go_wp2
        go_ret
        exact ⟨rfl, rfl⟩
      · obtain rfl := HBK.out hc
        have c1' : ¬ (c.toNat : Int) < 33 := by omega
        have c2' : ¬ (126 : Int) < (c.toNat : Int) := by omega
        go_wp2
        go_ret
        exact ⟨rfl, rfl⟩
      · have c1' : ¬ (c.toNat : Int) < 33 := by omega
        have c2' : ¬ (126 : Int) < (c.toNat : Int) := by omega
        go_wp2
        go_round
        case rel => exact ⟨k + 1, by omega, by go_num, show _ = true by rw [HS.out, hinv.out, hc]; rfl⟩
        case measure => simp [intOf]; omega
    · obtain rfl : k = s.length := by omega
      obtain rfl := HALL.out hinv.out
      clear HALL hinv HBAD
      by_cases h1 : (1 : Int) ≤ s.length
      · have h1n : 0 < s.length := by omega
        have hh : ∀ h, (((s[0]'h).toNat : Int) == 47) = (s.headD 0 == 47) := fun h => by
          rw [u8_lit _ 47 47 rfl]
          cases s with
          | nil => cases h
          | cons c t => rfl
        generalize hb : (s.headD 0 == 47) = b at *
        have HBQ := Lib.hid hb
        clear hb
        by_cases h2 : (s.length : Int) ≤ 2048
        · go_wp2
          go_ret
          refine ⟨?_, rfl⟩
          apply ret_bool
          rw [← HBQ.out]
          simp
        · go_wp2
          go_ret
          refine ⟨?_, rfl⟩
          first | rfl | (apply ret_bool; simp; intros; omega)
      · go_wp2
        go_ret
        refine ⟨?_, rfl⟩
        first | rfl | (apply ret_bool; simp; intros; omega)

/-! ### places -/
theorem ixAny_one (c : UInt8) : ∀ s : List UInt8, Lib.indexAny s [c] = Lib.indexByte s c
  | [] => rfl
  | b :: t => by
    rw [Lib.indexAny, Lib.indexByte, ixAny_one c t]
    simp only [List.contains_cons, List.contains_nil, Bool.or_false]
theorem cutAny_len (s cs : List UInt8) : cutAny s cs ≤ s.length := by
  unfold cutAny
  have := (ixAny_bd s cs).2
  split <;> omega
theorem cutHP_at (s : List UInt8) (h : Lib.hasPrefix s [91] = false) : cutHP s = (s.take (cutAny s [58]), s.drop (cutAny s [58])) := by
  unfold cutHP cutAny
  rw [h, if_neg (by decide), ixAny_one]
  split
  · rfl
  · rw [List.take_length, List.drop_length]
theorem cutHP_six (s : List UInt8) (h : Lib.hasPrefix s [91] = true) : cutHP s = (s.take (min (cutAny s [93] + 1) s.length), s.drop (min (cutAny s [93] + 1) s.length)) := by
  unfold cutHP cutAny
  rw [h, if_pos rfl, ixAny_one]
  have := (ixByte_bd s 93).2
  split
  · rw [show min ((Lib.indexByte s 93).toNat + 1) s.length = (Lib.indexByte s 93).toNat + 1 by omega]
  · rw [show min (s.length + 1) s.length = s.length by omega, List.take_length, List.drop_length]
theorem cutAny_stop (cs : List UInt8) : ∀ (s : List UInt8) (k : Nat) (h : k < s.length), (s.take k).all (fun c => !cs.contains c) = true → cs.contains (s[k]'h) = true → cutAny s cs = k
  | [], k, h, _, _ => by cases h
  | c :: t, 0, h, _, hc => by rw [cutAny_cons, if_pos (by simpa using hc)]
  | c :: t, k + 1, h, ha, hc => by
    simp only [List.take_succ_cons, List.all_cons, Bool.and_eq_true] at ha
    rw [cutAny_cons, if_neg (by have := ha.1; intro e; rw [e] at this; cases this), cutAny_stop cs t k (by simpa using h) ha.2 (by simpa using hc)]
theorem cutAny_end (cs : List UInt8) : ∀ (s : List UInt8), s.all (fun c => !cs.contains c) = true → cutAny s cs = s.length
  | [], _ => rfl
  | c :: t, ha => by
    simp only [List.all_cons, Bool.and_eq_true] at ha
    rw [cutAny_cons, if_neg (by have := ha.1; intro e; rw [e] at this; cases this), cutAny_end cs t ha.2]; rfl
theorem all_take_no (l cs : List UInt8) (k : Nat) (h : k < l.length) : (l.take (k + 1)).all (fun c => !cs.contains c) = ((l.take k).all (fun c => !cs.contains c) && !cs.contains (l[k]'h)) := by
  rw [List.take_succ_eq_append_getElem h, List.all_append]; simp
theorem take_has (cs : List UInt8) (c : UInt8) (k : Nat) (h : k < cs.length) : (cs.take (k + 1)).contains c = ((cs.take k).contains c || (c == cs[k]'h)) := by
  rw [List.take_succ_eq_append_getElem h, Bool.eq_iff_iff]
  simp only [Bool.or_eq_true, List.contains_iff_mem, List.mem_append, List.mem_singleton, beq_iff_eq]
theorem has_at (cs : List UInt8) (c : UInt8) (k : Nat) (h : k < cs.length) (e : c = cs[k]'h) : cs.contains c = true := by
  rw [List.contains_iff_mem, e]; exact List.getElem_mem h
set_option maxHeartbeats 1000000 in
theorem find_any (s cs : List UInt8) (hs : s.length ≤ maxLen) (hcs : cs.length ≤ maxLen) (w : World) :
    Calls Tryz.prog 66 #[.string ⟨s.toArray⟩, .string ⟨cs.toArray⟩] w fun e w' => e = .returned (.int .i64 ((cutAny s cs : Nat) : Int)) ∧ Below w.heap.size w w' := by
  unfold maxLen at hs hcs
  have HST : Hid (∀ (k : Nat) (h : k < s.length), (s.take k).all (fun c => !cs.contains c) = true → cs.contains (s[k]'h) = true → cutAny s cs = k) := fun k h => cutAny_stop cs s k h
  have HEND : Hid ((s.take s.length).all (fun c => !cs.contains c) = true → cutAny s cs = s.length) := fun h => cutAny_end cs s (by rwa [List.take_length] at h)
  generalize cutAny s cs = r at *
  go_enter Tryz.func66, Tryz.ntmps66
  go_wp2
  go_loopw [5, 6] (fun i _ wr => ∃ k : Nat, k ≤ s.length ∧ i = .int .i64 k ∧ Below w.heap.size w wr ∧ Hid ((s.take k).all (fun c => !cs.contains c) = true)) (fun i _ _ => s.length - (intOf i).toNat)
  case atStart => exact ⟨0, Nat.zero_le _, rfl, Below.refl _ _, rfl⟩
  case round =>
    obtain ⟨k, hk, rfl, hb, hinv⟩ := hrel
    by_cases hlt : k < s.length
    · have HS := Lib.hid (all_take_no s cs k hlt)
      have HK := Lib.hid (HST.out k hlt)
      obtain ⟨c, hcc⟩ : ∃ c, ∀ h, s[k]'h = c := ⟨s[k]'hlt, fun _ => rfl⟩
      rw [hcc] at HS HK
      have hi1 : (k : Int) < (s.length : Int) := by omega
      go_wp2
      obtain ⟨wo, hwo⟩ : ∃ wo : World, wo = wr := ⟨_, rfl⟩
      go_loopw [6] (fun j wr => ∃ n : Nat, n ≤ cs.length ∧ j = .int .i64 n ∧ Below w.heap.size w wr ∧ Hid ((cs.take n).contains c = false)) (fun j _ => cs.length - (intOf j).toNat)
      case atStart => exact ⟨0, Nat.zero_le _, rfl, hb, rfl⟩
      case round =>
        obtain ⟨n, hn, rfl, hb2, hin⟩ := hrel
        have hsz := hb2.size
        by_cases hnl : n < cs.length
        · have hi2 : (n : Int) < (cs.length : Int) := by omega
          have HT := Lib.hid (take_has cs c n hnl)
          have HAT := Lib.hid (has_at cs c n hnl)
          obtain ⟨d, hdd⟩ : ∃ d, ∀ h, cs[n]'h = d := ⟨cs[n]'hnl, fun _ => rfl⟩
          rw [hdd] at HT HAT
          by_cases he : c = d
          · obtain rfl := HK.out hinv.out (HAT.out he)
            subst he
            have he1 : ((c.toNat : Int) == (c.toNat : Int)) = true := by simp
            go_wp2
            refine wp_region_quiet_grown (by kernel_rfl) (by kernel_rfl) ?_
            repeat (quiet_step (fail))
            refine wpQuiet_nil ?_; intro _ hw'; obtain ⟨pq, hw''⟩ := hw'; subst hw''
            go_wp2
            go_ret
            exact ⟨rfl, (by repeat (first | exact Below.refl _ _ | assumption | refine below_grown ?_ (by first | omega | (simp [go_sem]; done) | (simp [go_sem] <;> omega)) _ | refine Below.alloc ?_ (by first | omega | (simp [go_sem]; done) | (simp [go_sem] <;> omega)) _ | refine below_bytesW ?_ (by first | omega | (simp [go_sem]; done) | (simp [go_sem] <;> omega)) _ | refine Below.drew ?_ | refine below_drewN ?_ _))⟩
          · have he1 : ((c.toNat : Int) == (d.toNat : Int)) = false := by
              rw [beq_eq_false_iff_ne]
              intro h; exact he (UInt8.toNat_inj.1 (by omega))
            have HF : Hid ((cs.take (n + 1)).contains c = false) := by
              show _ = _
              rw [HT.out, hin.out, beq_false_of_ne he]; rfl
            go_wp2
            refine wp_region_quiet_grown (by kernel_rfl) (by kernel_rfl) ?_
            repeat (quiet_step (fail))
            refine wpQuiet_nil ?_; intro _ hw'; obtain ⟨pq, hw''⟩ := hw'; subst hw''
            go_wp2
            go_roundw
            case rel => exact ⟨n + 1, by omega, by go_num, (by repeat (first | exact Below.refl _ _ | assumption | refine below_grown ?_ (by first | omega | (simp [go_sem]; done) | (simp [go_sem] <;> omega)) _ | refine Below.alloc ?_ (by first | omega | (simp [go_sem]; done) | (simp [go_sem] <;> omega)) _ | refine below_bytesW ?_ (by first | omega | (simp [go_sem]; done) | (simp [go_sem] <;> omega)) _ | refine Below.drew ?_ | refine below_drewN ?_ _)), HF.out⟩
            case measure => simp [intOf]; omega
        · obtain rfl : n = cs.length := by omega
          have hno := hin.out
          rw [List.take_length] at hno
          have HF : Hid ((s.take (k + 1)).all (fun c => !cs.contains c) = true) := by
            show _ = _
            rw [HS.out, hinv.out, hno]; rfl
          clear hno
          go_wp2
          go_roundw
          case rel => exact ⟨k + 1, by omega, by go_num, hb2, HF.out⟩
          case measure => simp [intOf]; omega
    · obtain rfl : k = s.length := by omega
      obtain rfl := HEND.out hinv.out
      go_wp2
      go_ret
      exact ⟨rfl, (by repeat (first | exact Below.refl _ _ | assumption | refine below_grown ?_ (by first | omega | (simp [go_sem]; done) | (simp [go_sem] <;> omega)) _ | refine Below.alloc ?_ (by first | omega | (simp [go_sem]; done) | (simp [go_sem] <;> omega)) _ | refine below_bytesW ?_ (by first | omega | (simp [go_sem]; done) | (simp [go_sem] <;> omega)) _ | refine Below.drew ?_ | refine below_drewN ?_ _))⟩
end

section
open Go Go.RowKit
set_option maxRecDepth 20000
set_option linter.unusedSimpArgs false
set_option linter.unusedVariables false

theorem storeRow_part {P : Program} {t : TypeId} (w : World) (b o : Nat) (old : List Value) (cs : List Value) (h : isAggT P t = true) (hs : cs.length = P.cellsOf t) (hv : Var w b old) (ho : o + cs.length ≤ old.length) (h1 : ∀ v ∈ cs, v.oneCell' = true) :
    storeRow P w t (.pointer (some ⟨b, o, none⟩)) (.agg cs.toArray) = .ok .skip (w.setRow b (old.take o ++ cs ++ old.drop (o + cs.length)).toArray) := by
  obtain ⟨_, h2⟩ := isAggT_run h w
  obtain ⟨t', hh⟩ := hv
  have h3 : (Value.agg cs.toArray).cells = cs.toArray := rfl
  have := run_storeCells_at (P := P) b o t' cs 0 old.toArray w hh (by simpa using ho) h1
  simp only [storeRow, Instr.storeAt, Instr.sureAddr, storeVar, Sem.run_bind, Sem.run_pure, Result.andThen_ok, h2, h3, List.size_toArray, hs]
  simp only [Nat.add_zero, hs] at this
  simp [this, hs]
@[go_sem] theorem setCell_setRow (w : World) (b k : Nat) (cs : Array Value) (v : Value) : (w.setRow b cs).setCell ⟨b, k, none⟩ v = w.setRow b (cs.setIfInBounds k v) := by
  simp only [World.setRow, World.setCell]
  congr 1
  apply Array.ext_getElem?
  intro j
  simp only [Array.getElem?_modify]
  by_cases h : b = j
  · subst h
    simp only [if_true]
    cases hh : w.heap[b]? with
    | none => rfl
    | some o => cases o <;> rfl
  · simp only [if_neg h]
theorem below_setCell' {B : Nat} {w w2 : World} (h : Below B w w2) {a : Addr} (hB : B ≤ a.block) (v : Value) : Below B w (w2.setCell a v) :=
  ⟨h.os, h.tape, h.output, by have := h.size; simp [World.setCell]; exact this, fun k hk => by rw [setCell_other' w2 a v k (by omega)]; exact h.block k hk⟩
theorem urlR_set0 (se x : Bool) (h : GHost) (po : Int) (pa : List UInt8) : (urlR se h po pa).set 0 (.bool x) = urlR x h po pa := rfl
theorem urlR_set19 (se : Bool) (h : GHost) (po n : Int) (pa : List UInt8) : (urlR se h po pa).set 19 (.int .i64 n) = urlR se h n pa := by
  have : ∀ l : List Value, l.length = 18 → (([Value.bool se] : List Value) ++ (l ++ [Value.int .i64 po, Value.string ⟨pa.toArray⟩])).set 19 (Value.int .i64 n) = ([Value.bool se] : List Value) ++ (l ++ [Value.int .i64 n, Value.string ⟨pa.toArray⟩]) := by
    intro l hl
    obtain ⟨a, b, c, d, e, f, g, i, j, k, m, n, o, p, q, r, s, t, rfl⟩ := list18h l hl
    rfl
  exact this (hostL h) (hostL_length h)
theorem urlR_set20 (se : Bool) (h : GHost) (po : Int) (pa q : List UInt8) : (urlR se h po pa).set 20 (.string ⟨q.toArray⟩) = urlR se h po q := by
  have : ∀ l : List Value, l.length = 18 → (([Value.bool se] : List Value) ++ (l ++ [Value.int .i64 po, Value.string ⟨pa.toArray⟩])).set 20 (Value.string ⟨q.toArray⟩) = ([Value.bool se] : List Value) ++ (l ++ [Value.int .i64 po, Value.string ⟨q.toArray⟩]) := by
    intro l hl
    obtain ⟨a, b, c, d, e, f, g, i, j, k, m, n, o, p, q, r, s, t, rfl⟩ := list18h l hl
    rfl
  exact this (hostL h) (hostL_length h)
@[go_sem ↓ high] theorem urlV_set19 (se : Bool) (h : GHost) (po n : Int) (pa : List UInt8) : (urlV se h po pa).setIfInBounds 19 (.int .i64 n) = urlV se h n pa := by
  unfold urlV
  rw [List.setIfInBounds_toArray, urlR_set19]
@[go_sem ↓ high] theorem urlV_set20 (se : Bool) (h : GHost) (po : Int) (pa q : List UInt8) : (urlV se h po pa).setIfInBounds 20 (.string ⟨q.toArray⟩) = urlV se h po q := by
  unfold urlV
  rw [List.setIfInBounds_toArray, urlR_set20]
theorem var_https {w0 : World} {b : Nat} (h : Var w0 b (urlR false zeroH 80 [])) : Var ((w0.setCell ⟨b, 0, none⟩ (.bool true)).setCell ⟨b, 19, none⟩ (.int .i64 443)) b (urlR true zeroH 443 []) := by
  have := (h.setCell 0 (.bool true)).setCell 19 (.int .i64 443)
  rwa [urlR_set0, urlR_set19] at this
theorem urlR_host (se : Bool) (h H : GHost) (po : Int) (pa : List UInt8) : (urlR se h po pa).take 1 ++ hostL H ++ (urlR se h po pa).drop (1 + 18) = urlR se H po pa := by
  have : ∀ l l' : List Value, l.length = 18 → (([Value.bool se] : List Value) ++ (l ++ [Value.int .i64 po, Value.string ⟨pa.toArray⟩])).take 1 ++ l' ++ (([Value.bool se] : List Value) ++ (l ++ [Value.int .i64 po, Value.string ⟨pa.toArray⟩])).drop (1 + 18) = ([Value.bool se] : List Value) ++ (l' ++ [Value.int .i64 po, Value.string ⟨pa.toArray⟩]) := by
    intro l l' hl
    obtain ⟨a, b, c, d, e, f, g, i, j, k, m, n, o, p, q, r, s, t, rfl⟩ := list18h l hl
    simp
  exact this (hostL h) (hostL H) (hostL_length h)
theorem setCell_var' {w : World} {b : Nat} {cs : List Value} (h : Var w b cs) (k : Nat) (v : Value) : w.setCell ⟨b, k, none⟩ v = w.setRow b (cs.set k v).toArray := by
  obtain ⟨t, hh⟩ := h
  simp only [World.setRow, World.setCell]
  congr 1
  apply Array.ext_getElem?
  intro j
  simp only [Array.getElem?_modify]
  by_cases hj : b = j
  · subst hj
    simp [hh]
  · simp only [if_neg hj]
theorem setCell_path {w : World} {b : Nat} {se : Bool} {h : GHost} {po : Int} {p : List UInt8} (hv : Var w b (urlR se h po p)) (q : List UInt8) : w.setCell ⟨b, 20, none⟩ (.string ⟨q.toArray⟩) = w.setRow b (urlV se h po q) := by
  rw [setCell_var' hv, urlR_set20]; rfl
theorem storeHost_at (w : World) (b : Nat) (se : Bool) (H : GHost) (po : Int) (hv : Var w b (urlR se zeroH po [])) :
    storeRow Tryz.prog w 37 (.pointer (some ⟨b, 1, none⟩)) (.agg (hostC H)) = .ok .skip (w.setRow b (urlV se H po [])) := by
  have := storeRow_part (P := Tryz.prog) (t := 37) w b 1 (urlR se zeroH po []) (hostL H) agg_host (by rw [hostL_length]; kernel_rfl) hv (by rw [hostL_length, urlR_length]; decide) (host_one _)
  rw [hostL_length, urlR_host] at this
  exact this
theorem run_build_urlP (po : Int) (w : World) : (Instr.build 39 #[(2, .int .i64 po)]).run Tryz.prog w = .ok (.agg (urlV false zeroH po [])) w := by kernel_rfl
@[go_sem ↓ high] theorem run_op_build_urlP (ev : Operand → Value) (dst : Option Tmp) (x2 : Operand) (ty : TypeId) (pos : String) (af : Array Edge) (g : Option (Nat × Bool)) (w : World) :
    Sem.run Tryz.prog (execOp ev { dst := dst, op := .build 39 #[(2, x2)], type := ty, pos := pos, after := af, guard := g }) w = buildRow Tryz.prog w 39 #[(2, ev x2)] := by
  rw [run_op_build]
  simp
@[go_sem] theorem buildUrlP_at (po : Int) (w : World) : buildRow Tryz.prog w 39 #[(2, .int .i64 po)] = .ok (.value (.agg (urlV false zeroH po []))) w := by
  rw [buildRow, Sem.run_bind, run_build_urlP]
  rfl
/-! ### where the text of a host ends -/
def endOf (q : List UInt8) : Nat := if Lib.hasPrefix q [91] = true then min (cutAny q [93] + 1) q.length else cutAny q [58]
theorem endOf_len (q : List UInt8) : endOf q ≤ q.length := by
  unfold endOf
  split
  · omega
  · exact cutAny_len _ _
theorem cutHP_end (q : List UInt8) : cutHP q = (q.take (endOf q), q.drop (endOf q)) := by
  unfold endOf
  cases h : Lib.hasPrefix q [91]
  · rw [if_neg (by decide)]; exact cutHP_at q h
  · rw [if_pos rfl]; exact cutHP_six q h
theorem pre_at (q : List UInt8) : (q.length = 0 ∧ Lib.hasPrefix q [91] = false) ∨ (0 < q.length ∧ ∀ h, (((q[0]'h).toNat : Int) == 91) = Lib.hasPrefix q [91]) := by
  rcases Nat.eq_zero_or_pos q.length with h | h
  · refine .inl ⟨h, ?_⟩
    obtain rfl := List.length_eq_zero_iff.1 h
    rfl
  · refine .inr ⟨h, fun h => ?_⟩
    rw [u8_lit _ 91 91 rfl, ← six_at h]
    rfl
/-- The ways through Parse: the host, what stands behind it, the port, the path. -/
theorem parse_ways (se : Bool) (R q : List UInt8) (hq : R.take (cutAny R [47, 63, 35]) = q) :
    (parseE (q.take (endOf q)) ≠ 0 ∧ outOf se (restL se R) = (31, false, zeroH, 0, [])) ∨
    (parseE (q.take (endOf q)) = 0 ∧ (∃ c t, q.drop (endOf q) = c :: t ∧ c ≠ 58) ∧ outOf se (restL se R) = (31, false, zeroH, 0, [])) ∨
    (parseE (q.take (endOf q)) = 0 ∧ (∃ t, q.drop (endOf q) = 58 :: t ∧ (numOk t = false ∨ numV t < 1 ∨ 65535 < numV t)) ∧ outOf se (restL se R) = (42, false, zeroH, 0, [])) ∨
    (parseE (q.take (endOf q)) = 0 ∧ ∃ P, ((q.drop (endOf q) = [] ∧ P = usualP se) ∨ (∃ t, q.drop (endOf q) = 58 :: t ∧ numOk t = true ∧ ¬ numV t < 1 ∧ ¬ 65535 < numV t ∧ P = numV t)) ∧
      ((pathOk (pathOf (R.drop (cutAny R [47, 63, 35]))) = false ∧ outOf se (restL se R) = (43, false, zeroH, 0, [])) ∨
       (pathOk (pathOf (R.drop (cutAny R [47, 63, 35]))) = true ∧ outOf se (restL se R) = (0, se, parseH (q.take (endOf q)), P, pathOf (R.drop (cutAny R [47, 63, 35])))))) := by
  have hO := rest_cases se R
  rw [hq] at hO
  rw [place_eq, cutHP_end] at hO
  dsimp only at hO
  generalize q.take (endOf q) = n at *
  generalize q.drop (endOf q) = b at *
  generalize pathOf (R.drop (cutAny R [47, 63, 35])) = pa at *
  generalize outOf se (restL se R) = out at *
  rcases parseE_cases n with ⟨h1, h2⟩ | ⟨h1, h2⟩
  · have key : ∀ P, ((if parseOk n = false ∨ (b ≠ [] ∧ b.headD 0 ≠ 58) then ((31 : Int), zeroH, (0 : Int)) else if b = [] then (0, parseH n, usualP se) else if numOk b.tail = false ∨ numV b.tail < 1 ∨ 65535 < numV b.tail then (42, zeroH, 0) else (0, parseH n, numV b.tail)) = (0, parseH n, P)) → ((pathOk pa = false ∧ out = (43, false, zeroH, 0, [])) ∨ (pathOk pa = true ∧ out = (0, se, parseH n, P, pa))) := by
      intro P e
      rw [e] at hO
      dsimp only at hO
      rcases hO with ⟨h, _⟩ | ⟨_, h3, h4⟩ | ⟨_, h3, h4⟩
      · exact absurd rfl h
      · exact .inl ⟨h3, h4⟩
      · exact .inr ⟨h3, h4⟩
    cases b with
    | nil =>
      refine .inr (.inr (.inr ⟨h2, usualP se, .inl ⟨rfl, rfl⟩, key _ ?_⟩))
      rw [if_neg (by rw [h1]; simp), if_pos rfl]
    | cons c t =>
      by_cases hc : c = 58
      · subst hc
        by_cases hb : numOk t = false ∨ numV t < 1 ∨ 65535 < numV t
        · refine .inr (.inr (.inl ⟨h2, ⟨t, rfl, hb⟩, ?_⟩))
          rw [if_neg (by rw [h1]; simp), if_neg (by simp), if_pos (show numOk ((58 : UInt8) :: t).tail = false ∨ numV ((58 : UInt8) :: t).tail < 1 ∨ 65535 < numV ((58 : UInt8) :: t).tail from hb)] at hO
          dsimp only at hO
          rcases hO with ⟨_, h⟩ | ⟨h, _⟩ | ⟨h, _⟩
          · exact h
          · cases h
          · cases h
        · refine .inr (.inr (.inr ⟨h2, numV t, ?_, key _ ?_⟩))
          · simp only [not_or] at hb
            exact .inr ⟨t, rfl, by simpa using hb.1, hb.2.1, hb.2.2, rfl⟩
          · rw [if_neg (by rw [h1]; simp), if_neg (by simp), if_neg (show ¬ (numOk ((58 : UInt8) :: t).tail = false ∨ numV ((58 : UInt8) :: t).tail < 1 ∨ 65535 < numV ((58 : UInt8) :: t).tail) from hb)]; rfl
      · refine .inr (.inl ⟨h2, ⟨c, t, rfl, hc⟩, ?_⟩)
        rw [if_pos (.inr ⟨by simp, hc⟩)] at hO
        dsimp only at hO
        rcases hO with ⟨_, h⟩ | ⟨h, _⟩ | ⟨h, _⟩
        · exact h
        · cases h
        · cases h
  · refine .inl ⟨by rw [h2]; decide, ?_⟩
    rw [if_pos (.inl h1)] at hO
    dsimp only at hO
    rcases hO with ⟨_, h⟩ | ⟨h, _⟩ | ⟨h, _⟩
    · exact h
    · cases h
    · cases h
set_option maxHeartbeats 4000000 in
theorem refParseU_at (se : Bool) (s R : List UInt8) (hs : s.length ≤ 1000000000) (ha : afterB s (usualT se) = true) (hr : s.drop (usualT se).length = R) (w : World) :
    Calls Tryz.prog 41 #[.string ⟨s.toArray⟩] w fun e w' => e = .returned (.tuple #[.agg (uV (outOf se (restL se R)).2), .int .i64 (outOf se (restL se R)).1]) ∧ Below w.heap.size w w' := by
  have hRl : R.length ≤ 1000000000 := by rw [← hr, List.length_drop]; omega
  have hlen : 7 ≤ s.length ∧ (se = true → 8 ≤ s.length) := by
    have := (afterB_app [] ha).2
    cases se
    · exact ⟨this, by intro h; cases h⟩
    · have h8 : 8 ≤ s.length := this
      exact ⟨by omega, fun _ => h8⟩
  have hsame : (se = false → (lowerL (s.take 7) == httpT) = true) ∧ (se = true → (lowerL (s.take 7) == httpT) = false ∧ (lowerL (s.take 8) == httpsT) = true) := by
    have h0 : afterB s (usualT se) = sameB (s.take (usualT se).length) (usualT se) := by
      unfold afterB
      rw [decide_eq_true (afterB_app [] ha).2]; rfl
    rw [ha] at h0
    have hno := both_no (s := s)
    cases se
    · refine ⟨fun _ => ?_, by intro h; cases h⟩
      have h1 : sameB (s.take 7) httpT = true := h0.symm
      unfold sameB at h1
      rwa [show lowerL httpT = httpT by decide +kernel] at h1
    · refine ⟨by (intro h; cases h), fun _ => ⟨?_, ?_⟩⟩
      · cases hx : (lowerL (s.take 7) == httpT)
        · rfl
        · have : afterB s httpT = true := by
            unfold afterB
            rw [decide_eq_true (show httpT.length ≤ s.length from hlen.1), Bool.true_and]
            unfold sameB
            rw [show lowerL httpT = httpT by decide +kernel]
            exact hx
          have e := hno this
          rw [show httpsT = usualT true from rfl, ha] at e
          cases e
      · have h1 : sameB (s.take 8) httpsT = true := h0.symm
        unfold sameB at h1
        rwa [show lowerL httpsT = httpsT by decide +kernel] at h1
  have HL7 : Hid (∀ w, Calls Tryz.prog 65 #[.string ⟨(s.take 7).toArray⟩] w fun e w' => e = .returned (.string ⟨(lowerL (s.take 7)).toArray⟩) ∧ Below w.heap.size w w') := fun w => refLower_any (s.take 7) (by rw [List.length_take]; unfold maxLen; omega) w
  have HL8 : Hid (∀ w, Calls Tryz.prog 65 #[.string ⟨(s.take 8).toArray⟩] w fun e w' => e = .returned (.string ⟨(lowerL (s.take 8)).toArray⟩) ∧ Below w.heap.size w w') := fun w => refLower_any (s.take 8) (by rw [List.length_take]; unfold maxLen; omega) w
  generalize lowerL (s.take 7) = L7 at *
  generalize lowerL (s.take 8) = L8 at *
  unfold httpT httpsT at hsame
  obtain ⟨q, hq⟩ : ∃ q, R.take (cutAny R [47, 63, 35]) = q := ⟨_, rfl⟩
  have hW := parse_ways se R q hq
  have hk1 := cutAny_len R [47, 63, 35]
  have HF1 : Hid (∀ w, Calls Tryz.prog 66 #[.string ⟨R.toArray⟩, .string ⟨[47, 63, 35].toArray⟩] w fun e w' => e = .returned (.int .i64 ((cutAny R [47, 63, 35] : Nat) : Int)) ∧ Below w.heap.size w w') := fun w => find_any R [47, 63, 35] (by unfold maxLen; omega) (by decide) w
  generalize cutAny R [47, 63, 35] = k1 at *
  have hql : q.length ≤ 1000000000 := by rw [← hq, List.length_take]; omega
  have HQ := Lib.hid hq
  clear hq
  have HF2 : Hid (∀ w, Calls Tryz.prog 66 #[.string ⟨q.toArray⟩, .string ⟨[58].toArray⟩] w fun e w' => e = .returned (.int .i64 ((cutAny q [58] : Nat) : Int)) ∧ Below w.heap.size w w') := fun w => find_any q [58] (by unfold maxLen; omega) (by decide) w
  have HF4 : Hid (∀ w, Calls Tryz.prog 66 #[.string ⟨q.toArray⟩, .string ⟨[93].toArray⟩] w fun e w' => e = .returned (.int .i64 ((cutAny q [93] : Nat) : Int)) ∧ Below w.heap.size w w') := fun w => find_any q [93] (by unfold maxLen; omega) (by decide) w
  have HEO : Hid (endOf q = if Lib.hasPrefix q [91] = true then min (cutAny q [93] + 1) q.length else cutAny q [58]) := rfl
  have hk4 := cutAny_len q [93]
  have hE := endOf_len q
  generalize cutAny q [58] = k2 at *
  generalize cutAny q [93] = k4 at *
  generalize endOf q = E at *
  have HP : Hid (∀ w, Calls Tryz.prog 67 #[.string ⟨(q.take E).toArray⟩] w fun e w' => e = .returned (.tuple #[.agg (hostC (parseH (q.take E))), .int .i64 (parseE (q.take E))]) ∧ Below w.heap.size w w') := fun w => refParse_any (q.take E) (by rw [List.length_take]; omega) w
  generalize parseH (q.take E) = H at *
  generalize parseE (q.take E) = eH at *
  obtain ⟨b, hb⟩ : ∃ b, q.drop E = b := ⟨_, rfl⟩
  rw [hb] at hW
  have hbl : b.length ≤ 1000000000 := by rw [← hb, List.length_drop]; omega
  have HBB := Lib.hid hb
  clear hb
  obtain ⟨p, hp⟩ : ∃ p, R.drop k1 = p := ⟨_, rfl⟩
  rw [hp] at hW
  have hpl : p.length ≤ 1000000000 := by rw [← hp, List.length_drop]; omega
  have HPP := Lib.hid hp
  clear hp
  have HW := Lib.hid hW
  clear hW
  have HR := Lib.hid hr
  clear hr ha
  generalize outOf se (restL se R) = out at *
  go_enter Tryz.func41, Tryz.ntmps41
  go_upto_if 23 with (go_at_call 65; refine (HL7.out _).mono ?_; rintro e w1 ⟨rfl, hb1⟩; obtain ⟨p1, rfl⟩ := grown_of hb1; clear hb1)
  go_cut [5] (fun s5 wx => s5 = .string ⟨R.toArray⟩ ∧ Below w.heap.size w wx ∧ hasVar wx w.heap.size 21 = true ∧ Var wx (w.heap.size + 1) (urlR se zeroH (usualP se) []))
  case first =>
    cases se
    · have hb7 := hsame.1 rfl
      clear hsame
      rw [hb7]
      go_wp2
      go_meet
      exact ⟨by rw [← HR.out]; rfl, (by repeat (first | exact Below.refl _ _ | assumption | refine below_grown ?_ (by first | omega | (simp [go_sem]; done) | (simp [go_sem] <;> omega)) _ | refine Below.alloc ?_ (by first | omega | (simp [go_sem]; done) | (simp [go_sem] <;> omega)) _ | refine below_bytesW ?_ (by first | omega | (simp [go_sem]; done) | (simp [go_sem] <;> omega)) _ | refine Below.drew ?_ | refine below_drewN ?_ _)), by simp [go_sem], Var.grown (Var.new _ _ _ rfl (by simp)) _⟩
    · obtain ⟨hb7, hb8⟩ := hsame.2 rfl
      have hl8 := hlen.2 rfl
      clear hsame
      rw [hb7]
      go_wp2_with (go_at_call 65; refine (HL8.out _).mono ?_; rintro e w1 ⟨rfl, hb1⟩; obtain ⟨p1, rfl⟩ := grown_of hb1; clear hb1)
      go_meet
      refine ⟨by rw [← HR.out]; rfl, below_setCell' (below_setCell' (by repeat (first | exact Below.refl _ _ | assumption | refine below_grown ?_ (by first | omega | (simp [go_sem]; done) | (simp [go_sem] <;> omega)) _ | refine Below.alloc ?_ (by first | omega | (simp [go_sem]; done) | (simp [go_sem] <;> omega)) _ | refine below_bytesW ?_ (by first | omega | (simp [go_sem]; done) | (simp [go_sem] <;> omega)) _ | refine Below.drew ?_ | refine below_drewN ?_ _)) (Nat.le_succ _) _) (Nat.le_succ _) _, by simp [go_sem], ?_⟩
      exact var_https (Var.grown (Var.grown (Var.new _ _ _ rfl (by simp)) _) _)
  case rest =>
    obtain ⟨rfl, hbw, hv2, hv4⟩ := hcut
    have hbsz := hbw.size
    have HBC := Lib.hid hbw
    have hi4 : isOld (w.heap.size + 1) wc = true := isOld_iff.2 hv4.lt
    have hi2 : isOld w.heap.size wc = true := isOld_iff.2 (by have := hv4.lt; omega)
    have hv4' : hasVar wc (w.heap.size + 1) 21 = true := hv4.has (urlR_length _ _ _ _)
    clear hsame
    generalize usualP se = po at *
    go_upto_region 12 with (go_at_call 66; (with_reducible refine (HF1.out _).mono ?_); rintro e w1 ⟨rfl, hb1⟩; obtain ⟨p1, rfl⟩ := grown_of hb1; clear hb1)
    rw [HQ.out]
    go_upto_region 13 with (go_at_call 66; (with_reducible refine (HF2.out _).mono ?_); rintro e w1 ⟨rfl, hb1⟩; obtain ⟨p1, rfl⟩ := grown_of hb1; clear hb1)
    have hpre := pre_at q
    generalize Lib.hasPrefix q [91] = p6 at *
    go_cut [54] (fun s54 wx => s54 = .bool p6 ∧ Below w.heap.size w wx ∧ hasVar wx w.heap.size 21 = true ∧ Var wx (w.heap.size + 1) (urlR se zeroH po []))
    case first =>
      rcases hpre with ⟨h0, rfl⟩ | ⟨h0, h6⟩
      all_goals
        go_wp2
        go_meet
        refine ⟨rfl, (by repeat (first | exact Below.refl _ _ | assumption | refine below_grown ?_ (by first | omega | (simp [go_sem]; done) | (simp [go_sem] <;> omega)) _ | refine Below.alloc ?_ (by first | omega | (simp [go_sem]; done) | (simp [go_sem] <;> omega)) _ | refine below_bytesW ?_ (by first | omega | (simp [go_sem]; done) | (simp [go_sem] <;> omega)) _ | refine Below.drew ?_ | refine below_drewN ?_ _)), by simp [go_sem, hv2, hi2], Var.grown (Var.grown hv4 _) _⟩
    case rest =>
    clear hbw hbsz HBC hi4 hi2 hv4' hv2 hv4 hpre
    obtain ⟨rfl, hbw, hv2, hv4⟩ := hcut
    have hbsz := hbw.size
    have HBC := Lib.hid hbw
    have hi4 : isOld (w.heap.size + 1) wc = true := isOld_iff.2 hv4.lt
    have hi2 : isOld w.heap.size wc = true := isOld_iff.2 (by have := hv4.lt; omega)
    have hv4' : hasVar wc (w.heap.size + 1) 21 = true := hv4.has (urlR_length _ _ _ _)
    go_upto_if 54 with fail
    go_cut [8] (fun s8 wx => s8 = .int .i64 (E : Int) ∧ Below w.heap.size w wx ∧ hasVar wx w.heap.size 21 = true ∧ Var wx (w.heap.size + 1) (urlR se zeroH po []))
    case first =>
      have hEq := HEO.out
      cases p6
      · rw [if_neg (by decide)] at hEq
        subst hEq
        go_wp2
        go_meet
        refine ⟨rfl, (by repeat (first | exact Below.refl _ _ | assumption | refine below_grown ?_ (by first | omega | (simp [go_sem]; done) | (simp [go_sem] <;> omega)) _ | refine Below.alloc ?_ (by first | omega | (simp [go_sem]; done) | (simp [go_sem] <;> omega)) _ | refine below_bytesW ?_ (by first | omega | (simp [go_sem]; done) | (simp [go_sem] <;> omega)) _ | refine Below.drew ?_ | refine below_drewN ?_ _)), by simp [go_sem, hv2, hi2], hv4⟩
      · rw [if_pos rfl] at hEq
        have HEQ := Lib.hid hEq
        clear hEq
        go_wp2_with (go_at_call 66; (with_reducible refine (HF4.out _).mono ?_); rintro e w1 ⟨rfl, hb1⟩; obtain ⟨p1, rfl⟩ := grown_of hb1; clear hb1)
        go_meet
        exact ⟨congrArg (Value.int .i64) (by rw [HEQ.out]; omega), (by repeat (first | exact Below.refl _ _ | assumption | refine below_grown ?_ (by first | omega | (simp [go_sem]; done) | (simp [go_sem] <;> omega)) _ | refine Below.alloc ?_ (by first | omega | (simp [go_sem]; done) | (simp [go_sem] <;> omega)) _ | refine below_bytesW ?_ (by first | omega | (simp [go_sem]; done) | (simp [go_sem] <;> omega)) _ | refine Below.drew ?_ | refine below_drewN ?_ _)), by simp [go_sem, hv2, hi2], Var.grown hv4 _⟩
    case rest =>
    clear hbw hbsz HBC hi4 hi2 hv4' hv2 hv4
    obtain ⟨rfl, hbw, hv2, hv4⟩ := hcut
    have hbsz := hbw.size
    have HBC := Lib.hid hbw
    have hi4 : isOld (w.heap.size + 1) wc = true := isOld_iff.2 hv4.lt
    have hi2 : isOld w.heap.size wc = true := isOld_iff.2 (by have := hv4.lt; omega)
    have hv4' : hasVar wc (w.heap.size + 1) 21 = true := hv4.has (urlR_length _ _ _ _)
    have hst : ∀ (pp : Regrown) (O : Obj), storeRow Tryz.prog ((grown wc pp).alloc O) 37 (.pointer (some ⟨w.heap.size + 1, 1, none⟩)) (.agg (hostC H)) = .ok .skip (((grown wc pp).alloc O).setRow (w.heap.size + 1) (urlV se H po [])) := fun pp O => storeHost_at _ _ _ _ _ ((hv4.grown pp).alloc O)
    have hfz : ∀ (i : Nat), wc.frozen? ⟨w.heap.size + 1, i, none⟩ = false := fun i => hv4.free i
    go_upto_region 17 with (go_at_call 67; (with_reducible refine (HP.out _).mono ?_); rintro e w1 ⟨rfl, hb1⟩; obtain ⟨p1, rfl⟩ := grown_of hb1; clear hb1)
    rw [HBB.out]
    clear HP HF1 HF2 HF4 HEO HQ HBB HR
    rcases HW.out with ⟨w1, hO⟩ | ⟨rfl, ⟨c, t, rfl, w2⟩, hO⟩ | ⟨rfl, ⟨t, rfl, w2⟩, hO⟩ | ⟨rfl, P, hP, hpath⟩
    · clear HW
      have hE1 : (eH != 0) = true := by rw [bne_iff_ne]; exact w1
      have HO := Lib.hid hO
      clear hO w1
      go_wp2
      have hO := HO.out
      exact ret_cell_tmp w.heap.size (urlV false zeroH 0 []) (.int .i64 31) rfl rfl rfl agg_url (by simp [go_sem, hv2, hi2, hv4']) (by simp [go_sem, hv2, hi2, hv4']) rfl ⟨by rw [hO]; rfl, below_setRow (by repeat (first | exact Below.refl _ _ | assumption | refine below_grown ?_ (by first | omega | (simp [go_sem]; done) | (simp [go_sem] <;> omega)) _ | refine Below.alloc ?_ (by first | omega | (simp [go_sem]; done) | (simp [go_sem] <;> omega)) _ | refine below_bytesW ?_ (by first | omega | (simp [go_sem]; done) | (simp [go_sem] <;> omega)) _ | refine Below.drew ?_ | refine below_drewN ?_ _)) (Nat.le_refl _) _⟩
    · clear HW
      have hc1 : ((c.toNat : Int) != 58) = true := by rw [u8_lit_ne _ 58 58 rfl, bne_iff_ne]; exact w2
      have HO := Lib.hid hO
      clear hO w2
      go_wp2
      have hO := HO.out
      exact ret_cell_tmp w.heap.size (urlV false zeroH 0 []) (.int .i64 31) rfl rfl rfl agg_url (by simp [go_sem, hv2, hi2, hv4']) (by simp [go_sem, hv2, hi2, hv4']) rfl ⟨by rw [hO]; rfl, below_setRow (by repeat (first | exact Below.refl _ _ | assumption | refine below_grown ?_ (by first | omega | (simp [go_sem]; done) | (simp [go_sem] <;> omega)) _ | refine Below.alloc ?_ (by first | omega | (simp [go_sem]; done) | (simp [go_sem] <;> omega)) _ | refine below_bytesW ?_ (by first | omega | (simp [go_sem]; done) | (simp [go_sem] <;> omega)) _ | refine Below.drew ?_ | refine below_drewN ?_ _)) (Nat.le_refl _) _⟩
    · clear HW
      have HN := Lib.hid (fun w => refNumber_any t (by simp at hbl; omega) w)
      have HO := Lib.hid hO
      clear hO
      rcases w2 with w2 | w2 | w2
      · rw [w2] at HN
        clear w2
        go_wp2_with (go_at_call 68; refine (HN.out _).mono ?_; intro e w' h; obtain ⟨rfl, h2⟩ := h; subst w')
        have hO := HO.out
        exact ret_cell_tmp w.heap.size (urlV false zeroH 0 []) (.int .i64 42) rfl rfl rfl agg_url (by simp [go_sem, hv2, hi2, hv4']) (by simp [go_sem, hv2, hi2, hv4']) rfl ⟨by rw [hO]; rfl, below_setRow (below_setRow (by repeat (first | exact Below.refl _ _ | assumption | refine below_grown ?_ (by first | omega | (simp [go_sem]; done) | (simp [go_sem] <;> omega)) _ | refine Below.alloc ?_ (by first | omega | (simp [go_sem]; done) | (simp [go_sem] <;> omega)) _ | refine below_bytesW ?_ (by first | omega | (simp [go_sem]; done) | (simp [go_sem] <;> omega)) _ | refine Below.drew ?_ | refine below_drewN ?_ _)) (Nat.le_succ _) _) (Nat.le_refl _) _⟩
      · cases hnk : numOk t
        all_goals
          rw [hnk] at HN
          clear hnk
          go_wp2_with (go_at_call 68; refine (HN.out _).mono ?_; intro e w' h; obtain ⟨rfl, h2⟩ := h; subst w')
          have hO := HO.out
          exact ret_cell_tmp w.heap.size (urlV false zeroH 0 []) (.int .i64 42) rfl rfl rfl agg_url (by simp [go_sem, hv2, hi2, hv4']) (by simp [go_sem, hv2, hi2, hv4']) rfl ⟨by rw [hO]; rfl, below_setRow (below_setRow (by repeat (first | exact Below.refl _ _ | assumption | refine below_grown ?_ (by first | omega | (simp [go_sem]; done) | (simp [go_sem] <;> omega)) _ | refine Below.alloc ?_ (by first | omega | (simp [go_sem]; done) | (simp [go_sem] <;> omega)) _ | refine below_bytesW ?_ (by first | omega | (simp [go_sem]; done) | (simp [go_sem] <;> omega)) _ | refine Below.drew ?_ | refine below_drewN ?_ _)) (Nat.le_succ _) _) (Nat.le_refl _) _⟩
      · have w3 : ¬ numV t < 1 := by omega
        cases hnk : numOk t
        all_goals
          rw [hnk] at HN
          clear hnk
          go_wp2_with (go_at_call 68; refine (HN.out _).mono ?_; intro e w' h; obtain ⟨rfl, h2⟩ := h; subst w')
          have hO := HO.out
          exact ret_cell_tmp w.heap.size (urlV false zeroH 0 []) (.int .i64 42) rfl rfl rfl agg_url (by simp [go_sem, hv2, hi2, hv4']) (by simp [go_sem, hv2, hi2, hv4']) rfl ⟨by rw [hO]; rfl, below_setRow (below_setRow (by repeat (first | exact Below.refl _ _ | assumption | refine below_grown ?_ (by first | omega | (simp [go_sem]; done) | (simp [go_sem] <;> omega)) _ | refine Below.alloc ?_ (by first | omega | (simp [go_sem]; done) | (simp [go_sem] <;> omega)) _ | refine below_bytesW ?_ (by first | omega | (simp [go_sem]; done) | (simp [go_sem] <;> omega)) _ | refine Below.drew ?_ | refine below_drewN ?_ _)) (Nat.le_succ _) _) (Nat.le_refl _) _⟩
    · have HF3 : Hid (∀ w, Calls Tryz.prog 66 #[.string ⟨p.toArray⟩, .string ⟨[63, 35].toArray⟩] w fun e w' => e = .returned (.int .i64 ((cutAny p [63, 35] : Nat) : Int)) ∧ Below w.heap.size w w') := fun w => find_any p [63, 35] (by unfold maxLen; omega) (by decide) w
      have hk3 := cutAny_len p [63, 35]
      have hpo : pathOf p = if p.take (cutAny p [63, 35]) = [] then [47] else p.take (cutAny p [63, 35]) := rfl
      have hp0 : (p.take (cutAny p [63, 35])).length ≤ 1000000000 := by rw [List.length_take]; omega
      generalize cutAny p [63, 35] = k3 at *
      obtain ⟨pa, hpa⟩ : ∃ pa, p.take k3 = pa := ⟨_, rfl⟩
      rw [hpa] at hpo hp0
      have HPK := Lib.hid (fun w => refUPath_any pa (by unfold maxLen; omega) w)
      have HPA := Lib.hid hpa
      have HPTH := Lib.hid hpath
      have HPO := Lib.hid hpo
      clear hpa hpath hpo HW
      rcases hP with ⟨rfl, rfl⟩ | ⟨t, rfl, n1, n2, n3, rfl⟩
      · go_upto_region 26 with fail
        rw [HPP.out]
        go_cut [112] (fun _ wx => ∃ wz, wx = wz.setRow (w.heap.size + 1) (urlV se H P pa) ∧ Below w.heap.size w wz ∧ hasVar wz w.heap.size 21 = true ∧ hasVar wz (w.heap.size + 1) 21 = true ∧ isOld (w.heap.size + 1) wz = true ∧ isOld w.heap.size wz = true ∧ ∀ i, wz.frozen? ⟨w.heap.size + 1, i, none⟩ = false)
        case first =>
          go_region_with (go_at_call 66; (with_reducible refine (HF3.out _).mono ?_); rintro e w1 ⟨rfl, hb1⟩; obtain ⟨p1, rfl⟩ := grown_of hb1; clear hb1)
          all_goals
            go_wp2_with fail
            go_meet
            rw [HPA.out]
            exact ⟨_, setCell_path ((Var.setRow_same ((hv4.grown _).alloc _) _ rfl).grown _) pa, below_grown (below_drewN (below_setRow (by repeat (first | exact Below.refl _ _ | assumption | refine below_grown ?_ (by first | omega | (simp [go_sem]; done) | (simp [go_sem] <;> omega)) _ | refine Below.alloc ?_ (by first | omega | (simp [go_sem]; done) | (simp [go_sem] <;> omega)) _ | refine below_bytesW ?_ (by first | omega | (simp [go_sem]; done) | (simp [go_sem] <;> omega)) _ | refine Below.drew ?_ | refine below_drewN ?_ _)) (Nat.le_succ _) _) 1) (by simp [go_sem]; omega) _, by simp [go_sem, hv2, hi2, hv4'], ((Var.setRow_same ((hv4.grown _).alloc _) (urlV se H P p) rfl).grown _).has (urlR_length _ _ _ _), by simp [go_sem, hi4], by simp [go_sem, hi2], fun i => Var.free ((Var.setRow_same ((hv4.grown _).alloc _) (urlV se H P p) rfl).grown _) i⟩
        case rest =>
        obtain ⟨wz, rfl, hbz, hz2, hz4, hiz, hiz2, hfz2⟩ := hcut
        have hbz3 := hbz.size
        clear hfz hst hv4 hv2 hi2 hi4 hv4' hbw hbsz HBC
        rcases HPTH.out with ⟨hok, hO⟩ | ⟨hok, hO⟩
        · have hne : pa ≠ [] := by
            intro e
            rw [HPO.out, if_pos e] at hok
            cases hok
          rw [HPO.out, if_neg hne] at hok
          have HPF : Hid (∀ w, Calls Tryz.prog 69 #[.string ⟨pa.toArray⟩] w fun e w' => e = .returned (.bool false) ∧ w = w') := fun w => by have := HPK.out w; rwa [hok] at this
          have hem : pa.isEmpty = false := by rw [List.isEmpty_eq_false_iff]; exact hne
          have hem2 : (pa == []) = false := by rw [beq_eq_false_iff_ne]; exact hne
          have HO := Lib.hid hO
          clear hO hok hne HPO HPTH
          go_wp2_with (go_at_call 69; refine (HPF.out _).mono ?_; intro e w' h; obtain ⟨rfl, h2⟩ := h; subst w')
          have hO := HO.out
          exact ret_cell_tmp w.heap.size (urlV false zeroH 0 []) (.int .i64 43) rfl rfl rfl agg_url (by simp [go_sem, hz2, hz4, hiz, hbz3]) (by simp [go_sem, hz2, hz4, hiz, hbz3]) rfl ⟨by rw [hO]; rfl, below_setRow (below_setRow hbz (Nat.le_succ _) _) (Nat.le_refl _) _⟩
        · by_cases hne : pa = []
          · rw [HPO.out, if_pos hne] at hO
            subst hne
            have HPF : Hid (∀ w, Calls Tryz.prog 69 #[.string ⟨[47].toArray⟩] w fun e w' => e = .returned (.bool true) ∧ w = w') := fun w => refUPath_any [47] (by decide) w
            have HO := Lib.hid hO
            clear hO hok HPO HPTH
            go_wp2_with (go_at_call 69; refine (HPF.out _).mono ?_; intro e w' h; obtain ⟨rfl, h2⟩ := h; subst w')
            have hO := HO.out
            exact ret_cell_tmp w.heap.size (urlV se H P [47]) (.int .i64 0) rfl rfl rfl agg_url (by simp [go_sem, hz2, hz4, hiz, hbz3]) (by simp [go_sem, hz2, hz4, hiz, hbz3]) rfl ⟨by rw [hO]; rfl, below_setRow (below_setRow hbz (Nat.le_succ _) _) (Nat.le_refl _) _⟩
          · rw [HPO.out, if_neg hne] at hO hok
            have HPF : Hid (∀ w, Calls Tryz.prog 69 #[.string ⟨pa.toArray⟩] w fun e w' => e = .returned (.bool true) ∧ w = w') := fun w => by have := HPK.out w; rwa [hok] at this
            have hem : pa.isEmpty = false := by rw [List.isEmpty_eq_false_iff]; exact hne
            have hem2 : (pa == []) = false := by rw [beq_eq_false_iff_ne]; exact hne
            have HO := Lib.hid hO
            clear hO hok hne HPO HPTH
            go_wp2_with (go_at_call 69; refine (HPF.out _).mono ?_; intro e w' h; obtain ⟨rfl, h2⟩ := h; subst w')
            have hO := HO.out
            exact ret_cell_tmp w.heap.size (urlV se H P pa) (.int .i64 0) rfl rfl rfl agg_url (by simp [go_sem, hz2, hz4, hiz, hbz3]) (by simp [go_sem, hz2, hz4, hiz, hbz3]) rfl ⟨by rw [hO]; rfl, below_setRow (below_setRow hbz (Nat.le_succ _) _) (Nat.le_refl _) _⟩
      · have HN := Lib.hid (fun w => refNumber_any t (by simp at hbl; omega) w)
        rw [n1] at HN
        clear n1
        generalize numV t = P at *
        go_upto_region 26 with (go_at_call 68; refine (HN.out _).mono ?_; intro e w' h; obtain ⟨rfl, h2⟩ := h; subst w')
        rw [HPP.out]
        go_cut [112] (fun _ wx => ∃ wz, wx = wz.setRow (w.heap.size + 1) (urlV se H P pa) ∧ Below w.heap.size w wz ∧ hasVar wz w.heap.size 21 = true ∧ hasVar wz (w.heap.size + 1) 21 = true ∧ isOld (w.heap.size + 1) wz = true ∧ isOld w.heap.size wz = true ∧ ∀ i, wz.frozen? ⟨w.heap.size + 1, i, none⟩ = false)
        case first =>
          go_region_with (go_at_call 66; (with_reducible refine (HF3.out _).mono ?_); rintro e w1 ⟨rfl, hb1⟩; obtain ⟨p1, rfl⟩ := grown_of hb1; clear hb1)
          all_goals
            go_wp2_with fail
            go_meet
            rw [HPA.out]
            exact ⟨_, setCell_path ((Var.setRow_same ((hv4.grown _).alloc _) _ rfl).grown _) pa, below_grown (below_drewN (below_setRow (by repeat (first | exact Below.refl _ _ | assumption | refine below_grown ?_ (by first | omega | (simp [go_sem]; done) | (simp [go_sem] <;> omega)) _ | refine Below.alloc ?_ (by first | omega | (simp [go_sem]; done) | (simp [go_sem] <;> omega)) _ | refine below_bytesW ?_ (by first | omega | (simp [go_sem]; done) | (simp [go_sem] <;> omega)) _ | refine Below.drew ?_ | refine below_drewN ?_ _)) (Nat.le_succ _) _) 1) (by simp [go_sem]; omega) _, by simp [go_sem, hv2, hi2, hv4'], ((Var.setRow_same ((hv4.grown _).alloc _) (urlV se H P p) rfl).grown _).has (urlR_length _ _ _ _), by simp [go_sem, hi4], by simp [go_sem, hi2], fun i => Var.free ((Var.setRow_same ((hv4.grown _).alloc _) (urlV se H P p) rfl).grown _) i⟩
        case rest =>
        obtain ⟨wz, rfl, hbz, hz2, hz4, hiz, hiz2, hfz2⟩ := hcut
        have hbz3 := hbz.size
        clear hfz hst hv4 hv2 hi2 hi4 hv4' hbw hbsz HBC
        rcases HPTH.out with ⟨hok, hO⟩ | ⟨hok, hO⟩
        · have hne : pa ≠ [] := by
            intro e
            rw [HPO.out, if_pos e] at hok
            cases hok
          rw [HPO.out, if_neg hne] at hok
          have HPF : Hid (∀ w, Calls Tryz.prog 69 #[.string ⟨pa.toArray⟩] w fun e w' => e = .returned (.bool false) ∧ w = w') := fun w => by have := HPK.out w; rwa [hok] at this
          have hem : pa.isEmpty = false := by rw [List.isEmpty_eq_false_iff]; exact hne
          have hem2 : (pa == []) = false := by rw [beq_eq_false_iff_ne]; exact hne
          have HO := Lib.hid hO
          clear hO hok hne HPO HPTH
          go_wp2_with (go_at_call 69; refine (HPF.out _).mono ?_; intro e w' h; obtain ⟨rfl, h2⟩ := h; subst w')
          have hO := HO.out
          exact ret_cell_tmp w.heap.size (urlV false zeroH 0 []) (.int .i64 43) rfl rfl rfl agg_url (by simp [go_sem, hz2, hz4, hiz, hbz3]) (by simp [go_sem, hz2, hz4, hiz, hbz3]) rfl ⟨by rw [hO]; rfl, below_setRow (below_setRow hbz (Nat.le_succ _) _) (Nat.le_refl _) _⟩
        · by_cases hne : pa = []
          · rw [HPO.out, if_pos hne] at hO
            subst hne
            have HPF : Hid (∀ w, Calls Tryz.prog 69 #[.string ⟨[47].toArray⟩] w fun e w' => e = .returned (.bool true) ∧ w = w') := fun w => refUPath_any [47] (by decide) w
            have HO := Lib.hid hO
            clear hO hok HPO HPTH
            go_wp2_with (go_at_call 69; refine (HPF.out _).mono ?_; intro e w' h; obtain ⟨rfl, h2⟩ := h; subst w')
            have hO := HO.out
            exact ret_cell_tmp w.heap.size (urlV se H P [47]) (.int .i64 0) rfl rfl rfl agg_url (by simp [go_sem, hz2, hz4, hiz, hbz3]) (by simp [go_sem, hz2, hz4, hiz, hbz3]) rfl ⟨by rw [hO]; rfl, below_setRow (below_setRow hbz (Nat.le_succ _) _) (Nat.le_refl _) _⟩
          · rw [HPO.out, if_neg hne] at hO hok
            have HPF : Hid (∀ w, Calls Tryz.prog 69 #[.string ⟨pa.toArray⟩] w fun e w' => e = .returned (.bool true) ∧ w = w') := fun w => by have := HPK.out w; rwa [hok] at this
            have hem : pa.isEmpty = false := by rw [List.isEmpty_eq_false_iff]; exact hne
            have hem2 : (pa == []) = false := by rw [beq_eq_false_iff_ne]; exact hne
            have HO := Lib.hid hO
            clear hO hok hne HPO HPTH
            go_wp2_with (go_at_call 69; refine (HPF.out _).mono ?_; intro e w' h; obtain ⟨rfl, h2⟩ := h; subst w')
            have hO := HO.out
            exact ret_cell_tmp w.heap.size (urlV se H P pa) (.int .i64 0) rfl rfl rfl agg_url (by simp [go_sem, hz2, hz4, hiz, hbz3]) (by simp [go_sem, hz2, hz4, hiz, hbz3]) rfl ⟨by rw [hO]; rfl, below_setRow (below_setRow hbz (Nat.le_succ _) _) (Nat.le_refl _) _⟩
set_option maxHeartbeats 1000000 in
theorem refParseU_none (s : List UInt8) (hs : s.length ≤ 1000000000) (ha : afterB s httpsT = false) (hb : afterB s httpT = false) (w : World) :
    Calls Tryz.prog 41 #[.string ⟨s.toArray⟩] w fun e w' => e = .returned (.tuple #[.agg (urlV false zeroH 0 []), .int .i64 41]) ∧ Below w.heap.size w w' := by
  have h7 : 7 ≤ s.length → (lowerL (s.take 7) == httpT) = false := fun h => by
    unfold afterB sameB at hb
    rw [decide_eq_true (show httpT.length ≤ s.length from h), Bool.true_and, show lowerL httpT = httpT by decide +kernel] at hb
    exact hb
  have h8 : 8 ≤ s.length → (lowerL (s.take 8) == httpsT) = false := fun h => by
    unfold afterB sameB at ha
    rw [decide_eq_true (show httpsT.length ≤ s.length from h), Bool.true_and, show lowerL httpsT = httpsT by decide +kernel] at ha
    exact ha
  have HL7 : Hid (∀ w, Calls Tryz.prog 65 #[.string ⟨(s.take 7).toArray⟩] w fun e w' => e = .returned (.string ⟨(lowerL (s.take 7)).toArray⟩) ∧ Below w.heap.size w w') := fun w => refLower_any (s.take 7) (by rw [List.length_take]; unfold maxLen; omega) w
  have HL8 : Hid (∀ w, Calls Tryz.prog 65 #[.string ⟨(s.take 8).toArray⟩] w fun e w' => e = .returned (.string ⟨(lowerL (s.take 8)).toArray⟩) ∧ Below w.heap.size w w') := fun w => refLower_any (s.take 8) (by rw [List.length_take]; unfold maxLen; omega) w
  generalize lowerL (s.take 7) = L7 at *
  generalize lowerL (s.take 8) = L8 at *
  unfold httpT at h7
  unfold httpsT at h8
  by_cases k7 : 7 ≤ s.length
  · have b7 := h7 k7
    by_cases k8 : 8 ≤ s.length
    · have b8 := h8 k8
      clear h7 h8 ha hb
      go_enter Tryz.func41, Tryz.ntmps41
      go_wp2_with (first
        | (go_at_call 65; (with_reducible refine (HL7.out _).mono ?_); rintro e w1 ⟨rfl, hb1⟩; obtain ⟨p1, rfl⟩ := grown_of hb1; clear hb1)
        | (go_at_call 65; (with_reducible refine (HL8.out _).mono ?_); rintro e w1 ⟨rfl, hb1⟩; obtain ⟨p1, rfl⟩ := grown_of hb1; clear hb1))
      exact ret_cell_tmp w.heap.size (urlV false zeroH 0 []) (.int .i64 41) rfl rfl rfl agg_url (by simp [go_sem]) (by simp [go_sem]) rfl ⟨rfl, below_setRow (by repeat (first | exact Below.refl _ _ | assumption | refine below_grown ?_ (by first | omega | (simp [go_sem]; done) | (simp [go_sem] <;> omega)) _ | refine Below.alloc ?_ (by first | omega | (simp [go_sem]; done) | (simp [go_sem] <;> omega)) _ | refine below_bytesW ?_ (by first | omega | (simp [go_sem]; done) | (simp [go_sem] <;> omega)) _ | refine Below.drew ?_ | refine below_drewN ?_ _)) (Nat.le_refl _) _⟩
    · have k8' : ¬ (8 : Int) ≤ s.length := by omega
      clear h7 h8 ha hb
      go_enter Tryz.func41, Tryz.ntmps41
      go_wp2_with (go_at_call 65; (with_reducible refine (HL7.out _).mono ?_); rintro e w1 ⟨rfl, hb1⟩; obtain ⟨p1, rfl⟩ := grown_of hb1; clear hb1)
      exact ret_cell_tmp w.heap.size (urlV false zeroH 0 []) (.int .i64 41) rfl rfl rfl agg_url (by simp [go_sem]) (by simp [go_sem]) rfl ⟨rfl, below_setRow (by repeat (first | exact Below.refl _ _ | assumption | refine below_grown ?_ (by first | omega | (simp [go_sem]; done) | (simp [go_sem] <;> omega)) _ | refine Below.alloc ?_ (by first | omega | (simp [go_sem]; done) | (simp [go_sem] <;> omega)) _ | refine below_bytesW ?_ (by first | omega | (simp [go_sem]; done) | (simp [go_sem] <;> omega)) _ | refine Below.drew ?_ | refine below_drewN ?_ _)) (Nat.le_refl _) _⟩
  · have k7' : ¬ (7 : Int) ≤ s.length := by omega
    have k8' : ¬ (8 : Int) ≤ s.length := by omega
    clear h7 h8 ha hb
    go_enter Tryz.func41, Tryz.ntmps41
    go_wp2
    exact ret_cell_tmp w.heap.size (urlV false zeroH 0 []) (.int .i64 41) rfl rfl rfl agg_url (by simp [go_sem]) (by simp [go_sem]) rfl ⟨rfl, below_setRow (by repeat (first | exact Below.refl _ _ | assumption | refine below_grown ?_ (by first | omega | (simp [go_sem]; done) | (simp [go_sem] <;> omega)) _ | refine Below.alloc ?_ (by first | omega | (simp [go_sem]; done) | (simp [go_sem] <;> omega)) _ | refine below_bytesW ?_ (by first | omega | (simp [go_sem]; done) | (simp [go_sem] <;> omega)) _ | refine Below.drew ?_ | refine below_drewN ?_ _)) (Nat.le_refl _) _⟩
theorem refParseU_any (s : List UInt8) (hs : s.length ≤ 1000000000) (w : World) :
    Calls Tryz.prog 41 #[.string ⟨s.toArray⟩] w fun e w' => e = .returned (.tuple #[.agg (uV (urlOut s).2), .int .i64 (urlOut s).1]) ∧ Below w.heap.size w w' := by
  cases ha : afterB s httpsT
  · cases hb : afterB s httpT
    · have := refParseU_none s hs ha hb w
      unfold urlOut
      rw [ha, hb, if_neg (by decide), if_neg (by decide)]
      exact this
    · have := refParseU_at false s (s.drop 7) hs hb rfl w
      unfold urlOut
      rw [ha, hb, if_neg (by decide), if_pos rfl]
      exact this
  · have := refParseU_at true s (s.drop 8) hs ha rfl w
    unfold urlOut
    rw [ha, if_pos rfl]
    exact this
/-! ### the statement -/
end

section
open Go Go.RowKit
set_option linter.unusedSimpArgs false
set_option linter.unusedVariables false

/-- A word that goes on behind a word: so does the text. -/
theorem wordBody_cons' (d : UInt8) (o : List UInt8) : wordBody (d :: o) = wordC d ++ wordBody o := wordBody_cons d o
theorem word_after : ∀ (A o R : List UInt8), wordBody o = wordBody A ++ R → ∃ o', o = A ++ o' ∧ wordBody o' = R
  | [], o, R, h => ⟨o, rfl, by simpa [wordBody] using h⟩
  | a :: A, [], R, h => by
    have h1 := wordBody_pos (a :: A) (by simp)
    have := congrArg List.length h
    rw [List.length_append] at this
    simp only [wordBody, List.flatMap_nil, List.length_nil] at this h1
    omega
  | a :: A, d :: o, R, h => by
    rcases hw : wordBody (a :: A) with _ | ⟨x, r⟩
    · have := wordBody_pos (a :: A) (by simp)
      rw [hw] at this; cases this
    · rw [hw] at h
      rcases word_head hw with ⟨h2, r2, e2, f2⟩ | ⟨h2, e2, f2⟩ <;> rcases word_head h with ⟨h1, r1, e1, f1⟩ | ⟨h1, e1, f1⟩
      · rw [e2] at e1
        have e3 : hexU (a.toNat / 16) :: hexU (a.toNat % 16) :: (r2 ++ R) = hexU (d.toNat / 16) :: hexU (d.toNat % 16) :: r1 := e1
        injection e3 with g1 e3
        injection e3 with g2 e3
        obtain rfl := hexU_inj _ _ g1 g2
        obtain ⟨o', h3, h4⟩ := word_after A o R (by rw [f1, ← e3, f2])
        exact ⟨o', by rw [h3]; rfl, h4⟩
      · exact absurd h2 h1
      · exact absurd h1 h2
      · obtain ⟨o', h3, h4⟩ := word_after A o R (by rw [f1, ← f2]; rfl)
        exact ⟨o', by rw [h3, e1, e2]; rfl, h4⟩
/-- The text so far, and what is left. -/
def UwInv (l A : List UInt8) (a : Nat) : Prop := wordBody A ++ l.drop a = l
theorem UwInv.start (l : List UInt8) : UwInv l [] 0 := rfl
theorem UwInv.step {l A : List UInt8} {a : Nat} {x : UInt8} (h : UwInv l A a) (hp : (l.drop a).take (wordC x).length = wordC x) : UwInv l (A ++ [x]) (a + (wordC x).length) := by
  unfold UwInv at *
  have e : wordBody (A ++ [x]) = wordBody A ++ wordC x := by simp [wordBody]
  rw [e, List.append_assoc]
  conv => rhs; rw [← h]
  congr 1
  conv => rhs; rw [← List.take_append_drop (wordC x).length (l.drop a), hp, List.drop_drop]
theorem UwInv.no {l A : List UInt8} {a : Nat} (h : UwInv l A a) (ha : a < l.length) (h37 : l ≠ [37]) (hn : ∀ x : UInt8, (l.drop a).take (wordC x).length ≠ wordC x) : ∀ o, wordL o ≠ l := by
  intro o ho
  have h0 : o ≠ [] := by rintro rfl; exact h37 ho.symm
  rw [wordL, if_neg h0] at ho
  obtain ⟨o', _, h2⟩ := word_after A o (l.drop a) (by rw [ho]; exact h.symm)
  cases o' with
  | nil =>
    have := congrArg List.length h2
    simp [wordBody] at this
    omega
  | cons d q =>
    rw [wordBody_cons] at h2
    refine hn d ?_
    rw [← h2, List.take_left]
theorem UwInv.done {l A : List UInt8} (h : UwInv l A l.length) : Unworded l A (decide (0 < A.length)) := by
  unfold UwInv at h
  rw [List.drop_length, List.append_nil] at h
  by_cases h0 : A = []
  · subst h0
    refine .inr ⟨rfl, rfl, fun o ho => ?_⟩
    obtain rfl : [] = l := h
    by_cases h1 : o = []
    · subst h1; cases ho
    · rw [wordL, if_neg h1] at ho
      have := wordBody_pos o h1
      rw [ho] at this; cases this
  · refine .inl ⟨by cases A <;> simp_all, ?_⟩
    rw [wordL, if_neg h0, h]
theorem wordC_pos (x : UInt8) : 0 < (wordC x).length := by unfold wordC; split <;> simp
theorem u8_nat (c : Nat) (h : c < 256) : (UInt8.ofNat c).toNat = c := by rw [UInt8.toNat_ofNat']; omega
theorem wordL_one (x : UInt8) : wordL [x] = wordC x := by simp [wordL, wordBody]
theorem bytesAt_new1n (w : World) (n : Nat) (hn : n < 256) (t : TypeId) {b : Nat} (hb : b = w.heap.size) : bytesAt (w.alloc (.cells #[.int .u8 (n : Int)] t)) ⟨b, 0, none⟩ [UInt8.ofNat n] := by
  have := bytesAt_new1e w (UInt8.ofNat n) t hb
  rwa [u8_nat n hn] at this
theorem all_u8 (p : UInt8 → Prop) (h : ∀ c : Nat, c < 256 → p (UInt8.ofNat c)) : ∀ x, p x := fun x => by
  have := h x.toNat x.toNat_lt
  rwa [UInt8.ofNat_toNat] at this

set_option maxRecDepth 20000 in
set_option maxHeartbeats 1000000 in
theorem refUnword_any (l : List UInt8) (hl : l.length ≤ 1400000000) (w : World) :
    Calls Tryz.prog 40 #[.string ⟨l.toArray⟩] w (UnwordPost l w) := by
  by_cases h37 : l = [37]
  · subst h37
    go_enter Tryz.func40, Tryz.ntmps40
    go_wp2
    go_ret2
    exact ⟨[], true, .inl ⟨rfl, rfl⟩, rfl, Below.refl _ _⟩
  · have h37' : (l == [37]) = false := by simpa using h37
    have H37 := Lib.hid h37
    clear h37
    go_enter Tryz.func40, Tryz.ntmps40
    go_wp2
    go_loopw [4, 5, 6, 7, 8] (fun out at' _ _ _ wr => ∃ (A : List UInt8) (a : Nat), a ≤ l.length ∧ A.length ≤ a ∧ at' = .int .i64 a ∧ Below w.heap.size w wr ∧ OwnB w.heap.size wr out A ∧ UwInv l A a) (fun _ at' _ _ _ _ => l.length - (intOf at').toNat)
    case atStart => exact ⟨[], 0, Nat.zero_le _, Nat.le_refl _, rfl, (by repeat (first | exact Below.refl _ _ | assumption | refine below_grown ?_ (by first | omega | (simp [go_sem]; done) | (simp [go_sem] <;> omega)) _ | refine Below.alloc ?_ (by first | omega | (simp [go_sem]; done) | (simp [go_sem] <;> omega)) _ | refine below_bytesW ?_ (by first | omega | (simp [go_sem]; done) | (simp [go_sem] <;> omega)) _ | refine Below.drew ?_ | refine below_drewN ?_ _)), OwnB.made0 _ _ (Nat.le_refl _), UwInv.start l⟩
    case round =>
      obtain ⟨A, a, ha, hA, rfl, hb, ho, hv⟩ := hrel
      have HB := Lib.hid hb
      have HO := Lib.hid ho
      have HV := Lib.hid hv
      clear hb ho hv
      by_cases hlt : a < l.length
      · go_wp2
        obtain ⟨wo, hwo⟩ : ∃ wo : World, wo = wr := ⟨_, rfl⟩
        go_loopw [4, 5, 6, 7, 8] (fun out at' fo c _ wr => ∃ (A' : List UInt8) (a' n : Nat) (f : Bool), n ≤ 256 ∧ a' ≤ l.length ∧ A'.length ≤ a' ∧ at' = .int .i64 a' ∧ fo = .bool f ∧ c = .int .i64 n ∧ Below w.heap.size w wr ∧ OwnB w.heap.size wr out A' ∧ UwInv l A' a' ∧ ((f = true ∧ a < a') ∨ (f = false ∧ a' = a ∧ ∀ j, j < n → (l.drop a).take (wordC (UInt8.ofNat j)).length ≠ wordC (UInt8.ofNat j)))) (fun _ _ _ c _ _ => 256 - (intOf c).toNat)
        case atStart => exact ⟨A, a, 0, false, Nat.zero_le _, ha, hA, rfl, rfl, rfl, HB.out, HO.out, HV.out, .inr ⟨rfl, rfl, fun j hj => by cases hj⟩⟩
        case round =>
          obtain ⟨A', a', n, f, hn, ha', hA', rfl, rfl, rfl, hb, ho, hv, hor⟩ := hrel
          have hsz := hb.size
          have HB' := Lib.hid hb
          have HO' := Lib.hid ho
          have HV' := Lib.hid hv
          clear hb ho hv
          rcases hor with ⟨rfl, hgt⟩ | ⟨rfl, rfl, hno⟩
          · go_wp2
            all_goals
              go_roundw
              case rel => exact ⟨A', a', ha', hA', rfl, HB'.out, HO'.out, HV'.out⟩
              case measure => simp [intOf]; omega
          · have HNO := Lib.hid hno
            clear hno
            by_cases hn' : n < 256
            · have HWD : Hid (∀ w, Calls Tryz.prog 64 #[.string ⟨[UInt8.ofNat n].toArray⟩] w fun e w' => e = .returned (.string ⟨(wordC (UInt8.ofNat n)).toArray⟩) ∧ Below w.heap.size w w') := fun w => by
                have := refWord_any [UInt8.ofNat n] (by simp) w
                rwa [wordL_one] at this
              have hWp := wordC_pos (UInt8.ofNat n)
              have hWl := wordC_length (UInt8.ofNat n)
              by_cases hm : (l.drop a').take (wordC (UInt8.ofNat n)).length = wordC (UInt8.ofNat n)
              · have hle : (wordC (UInt8.ofNat n)).length ≤ l.length - a' := by
                  have := congrArg List.length hm
                  rw [List.length_take, List.length_drop] at this
                  omega
                have HST := Lib.hid (HV'.out.step hm)
                have hq : ((l.drop a').take (wordC (UInt8.ofNat n)).length == wordC (UInt8.ofNat n)) = true := by simpa using hm
                have hle' : ((wordC (UInt8.ofNat n)).length : Int) ≤ (l.length : Int) - a' := by omega
                clear hm hle
                generalize wordC (UInt8.ofNat n) = W at *
                go_wp2_with (first
                  | (go_at_call 64; refine (HWD.out _).mono ?_; rintro e w1 ⟨rfl, hb1⟩; obtain ⟨p1, rfl⟩ := grown_of hb1; clear hb1)
                  | (at_builtin; refine wpList_append_bytes rfl (.tmp 47) (.tmp 50) rfl w.heap.size _ _ A' rfl ((HO'.out.alloc _).below (below_grown' _ _) |>.alloc _) _ _ _ [UInt8.ofNat n] rfl rfl (bytesAt_new1n _ n hn' _ (by simp [go_sem])) (by first | omega | (simp; done) | (simp; omega) | (simp [go_sem]; done) | (simp [go_sem]; omega)) (by first | omega | (simp; done) | (simp; omega) | (simp [go_sem]; done) | (simp [go_sem]; omega)) ?_; intro v' w1 ho1 hb1; have HO1 := Lib.hid ho1; have HB1 := Lib.hid hb1; clear ho1 hb1))
                go_roundw
                case rel => exact ⟨A' ++ [UInt8.ofNat n], a' + W.length, n + 1, true, by omega, by omega, by simp; omega, by go_num, rfl, by go_num, ((below_grown (HB'.out.alloc (by first | omega | (simp; done) | (simp; omega) | (simp [go_sem]; done) | (simp [go_sem]; omega)) _) (by first | omega | (simp; done) | (simp; omega) | (simp [go_sem]; done) | (simp [go_sem]; omega)) _).alloc (by first | omega | (simp; done) | (simp; omega) | (simp [go_sem]; done) | (simp [go_sem]; omega)) _).trans HB1.out, HO1.out, HST.out, .inl ⟨rfl, by omega⟩⟩
                case measure => simp [intOf]; omega
              · have HNN : Hid (∀ j, j < n + 1 → (l.drop a').take (wordC (UInt8.ofNat j)).length ≠ wordC (UInt8.ofNat j)) := fun j hj => by
                  by_cases e : j = n
                  · subst e; exact hm
                  · exact HNO.out j (by omega)
                have hq : ((l.drop a').take (wordC (UInt8.ofNat n)).length == wordC (UInt8.ofNat n)) = false := by simpa using hm
                clear hm
                generalize wordC (UInt8.ofNat n) = W at *
                by_cases hle' : (W.length : Int) ≤ (l.length : Int) - a'
                all_goals
                  go_wp2_with (go_at_call 64; refine (HWD.out _).mono ?_; rintro e w1 ⟨rfl, hb1⟩; obtain ⟨p1, rfl⟩ := grown_of hb1; clear hb1)
                  go_roundw
                  case rel => exact ⟨A', a', n + 1, false, by omega, ha', hA', rfl, rfl, by go_num, below_grown (HB'.out.alloc (by first | omega | (simp; done) | (simp; omega) | (simp [go_sem]; done) | (simp [go_sem]; omega)) _) (by first | omega | (simp; done) | (simp; omega) | (simp [go_sem]; done) | (simp [go_sem]; omega)) _, (HO'.out.alloc _).below (below_grown' _ _), HV'.out, .inr ⟨rfl, rfl, HNN.out⟩⟩
                  case measure => simp [intOf]; omega
            · have HN : Hid (∀ o, wordL o ≠ l) := HV'.out.no hlt H37.out (all_u8 _ fun c hc => HNO.out c (by omega))
              go_wp2
              go_ret2
              exact ⟨[], false, .inr ⟨rfl, rfl, HN.out⟩, rfl, HB'.out⟩
      · obtain rfl : a = l.length := by omega
        have HD := Lib.hid HV.out.done
        clear HV
        have hs := HO.out.str
        rcases HO.out.form with ⟨rfl, e⟩ | ⟨g, cap, rfl, _⟩
        all_goals
          try subst e
          go_wp2
          go_ret2
          exact ⟨_, _, HD.out, by simp, HB.out⟩
end
end Go.Proofs.YtnkckejbkbbdlaaGreatDoor
