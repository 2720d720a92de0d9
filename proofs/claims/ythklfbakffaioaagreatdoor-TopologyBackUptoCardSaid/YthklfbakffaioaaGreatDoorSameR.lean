/- The walks of the document's Words and Same. -/
import Derived.Test.YthklfbakffaioaaGreatDoorLinesR
namespace Go.Proofs.YthklfbakffaioaaGreatDoor
open Go Go.RowKit
set_option linter.unusedSimpArgs false
set_option linter.unusedVariables false

def wordsL (l : List UInt8) : List (List UInt8) := if wordsOk l = true then splitL 32 l else []
theorem any_take (L : List (List UInt8)) (k : Nat) (h : k < L.length) : (L.take (k + 1)).any (·.isEmpty) = ((L.take k).any (·.isEmpty) || (L[k]'h).isEmpty) := by
  rw [List.take_succ_eq_append_getElem h, List.any_append]
  simp
theorem any_of_get (L : List (List UInt8)) (k : Nat) (h : k < L.length) (he : (L[k]'h).isEmpty = true) : L.any (·.isEmpty) = true :=
  List.any_eq_true.2 ⟨_, List.getElem_mem h, he⟩
set_option maxHeartbeats 400000 in
theorem refWords_any (l : List UInt8) (hl : l.length ≤ 4294967280) (w : World) :
    Calls Tryz.prog 34 #[.string ⟨l.toArray⟩] w (Gives2 strCod (wordsL l) (wordsOk l) w) := by
  have hn := splitL_length_le 32 l
  have hne := splitL_ne 32 l
  have h10 : ((32 : UInt8).toNat : Int) = 32 := rfl
  have hcall := fun w => refSplit_any l 32 hl w
  rw [h10] at hcall
  have hT : (splitL 32 l).any (·.isEmpty) = true → wordsL l = [] ∧ wordsOk l = false := fun h => by simp [wordsL, wordsOk, h]
  have hF : (splitL 32 l).any (·.isEmpty) = false → wordsL l = splitL 32 l ∧ wordsOk l = true := fun h => by simp [wordsL, wordsOk, h]
  generalize splitL 32 l = L at *
  generalize wordsL l = W at *
  generalize wordsOk l = ok at *
  have HT := Lib.hid hT
  have HF := Lib.hid hF
  clear hT hF
  have HC := Lib.hid hcall
  have HN := Lib.hid hne
  clear hcall hne h10
  go_enter Tryz.func34, Tryz.ntmps34
  go_wp2_with (go_at_call 62; refine (HC.out _).mono ?_; intro e w1 hg; obtain ⟨b, o, cap, rfl, hcap, hb1, hlo, hhi, hat⟩ := hg.some HN.out; have HBC := Lib.hid hb1; have HAT := Lib.hid hat; clear hg hb1 hat)
  go_loop [11] (fun i => ∃ (k : Nat), k ≤ L.length ∧ i = .int .i64 k ∧ Hid ((L.take k).any (·.isEmpty) = false)) (fun i => L.length - (intOf i).toNat)
  case atStart => exact ⟨0, Nat.zero_le _, rfl, rfl⟩
  case round =>
    obtain ⟨k, hk, rfl, hinv⟩ := hrel
    by_cases hlt : k < L.length
    · have hcell := strAt HAT.out k hlt
      have HE := Lib.hid (any_take L k hlt)
      have HI := Lib.hid (any_of_get L k hlt)
      generalize L[k]'hlt = x at *
      by_cases hx0 : x = []
      · have HL : Hid (L.any (·.isEmpty) = true) := HI.out (by rw [hx0]; rfl)
        subst hx0
        go_wp2
        go_ret2
        obtain ⟨rfl, rfl⟩ := HT.out HL.out
        exact ⟨none, 0, rfl, Nat.le_refl _, HBC.out, .inl rfl⟩
      · have hem : x.isEmpty = false := by cases x <;> simp_all
        have hem2 : (x == []) = false := by simpa using hx0
        have HV : Hid ((L.take (k + 1)).any (·.isEmpty) = false) := show _ = false by rw [HE.out, hinv.out, hem]; rfl
        clear hx0
        go_wp2
        go_round
        case rel => exact ⟨k + 1, by omega, by go_num, HV⟩
        case measure => simp [intOf]; omega
    · obtain rfl : k = L.length := by omega
      have HL : Hid (L.any (·.isEmpty) = false) := by have := hinv.out; rw [List.take_length] at this; exact this
      clear hinv
      go_wp2
      go_ret2
      obtain ⟨rfl, rfl⟩ := HF.out HL.out
      exact ⟨some ⟨b, o, none⟩, cap, rfl, hcap, HBC.out, .inr ⟨b, o, rfl, hlo, hhi, HAT.out⟩⟩
theorem words_gives (l : List UInt8) (hl : l.length ≤ 4294967280) (m : Int) (w : World) (hm : HasMax m w) :
    Calls Tryz.prog 54 #[.string ⟨l.toArray⟩] w (Gives2 strCod (wordsL l) (wordsOk l) w) := by
  refine (words_any l hl m w hm).mono fun e w' ⟨he, hw⟩ => ?_
  have hb : Below w.heap.size w w' := by rw [hw]; exact ((Below.refl _ _).alloc (Nat.le_refl _) _).alloc (by simp) _
  have hat : ListAt strCod w' (w.heap.size + 1) 0 (splitL 32 l) := by
    rw [hw]; exact listAt_new _ _ _ _ (by rw [strEncs]; rfl) (by simp)
  unfold wordsL
  cases hok : wordsOk l
  · rw [hok] at he
    exact ⟨none, 0, he, Nat.le_refl _, hb, .inl rfl⟩
  · rw [hok] at he
    rw [he]
    exact Gives2.of_some (Nat.le_refl _) hb (Nat.le_succ _) (by rw [hw]; simp) hat
theorem wordsL_le (l : List UInt8) : (wordsL l).length ≤ l.length + 1 := by
  unfold wordsL
  split
  · exact splitL_length_le 32 l
  · simp
theorem linesL_le (l : List UInt8) : (linesL l).length ≤ l.length + 1 := by
  have := splitL_length_le 10 l
  unfold linesL dropEmpty
  rw [List.length_map]
  split
  · rw [List.length_dropLast]; omega
  · exact this
theorem take_succ_same (A B : List (List UInt8)) (k : Nat) (ha : k < A.length) (hb : k < B.length) (h : A.take k = B.take k) (he : A[k]'ha = B[k]'hb) : A.take (k + 1) = B.take (k + 1) := by
  rw [List.take_succ_eq_append_getElem ha, List.take_succ_eq_append_getElem hb, h, he]
theorem ne_of_get (A B : List (List UInt8)) (k : Nat) (ha : k < A.length) (hb : k < B.length) (he : A[k]'ha ≠ B[k]'hb) : (A == B) = false := by
  rw [beq_eq_false_iff_ne]; rintro rfl; exact he rfl
theorem ne_of_len (A B : List (List UInt8)) (he : A.length ≠ B.length) : (A == B) = false := by
  rw [beq_eq_false_iff_ne]; rintro rfl; exact he rfl
set_option maxHeartbeats 400000 in
theorem refSame_any (A B : List (List UInt8)) (a b : Option Addr) (ca cb la lb : Nat) (hA : A.length ≤ 4294967290) (hB : B.length ≤ 4294967290) (w : World) (ha : ListIn strCod w a A la) (hb : ListIn strCod w b B lb) :
    Calls Tryz.prog 20 #[.slice a A.length ca, .slice b B.length cb] w fun e w' => e = .returned (.bool (A == B)) ∧ Below w.heap.size w w' := by
  by_cases hlen : A.length = B.length
  · rcases ha with rfl | ⟨ba, oa, rfl, _, hba, ha⟩
    · obtain rfl : B = [] := List.length_eq_zero_iff.1 hlen.symm
      clear hlen hb
      go_enter Tryz.func20, Tryz.ntmps20
      go_wp2
      go_loop [13] (fun i => i = .int .i64 0) (fun i => 0)
      case atStart => rfl
      case round =>
        subst hrel
        go_wp2
        go_ret
        exact ⟨rfl, Below.refl _ _⟩
    · rcases hb with rfl | ⟨bb, ob, rfl, _, hbb, hb⟩
      · obtain rfl : A = [] := List.length_eq_zero_iff.1 hlen
        clear hlen ha
        go_enter Tryz.func20, Tryz.ntmps20
        go_wp2
        go_loop [13] (fun i => i = .int .i64 0) (fun i => 0)
        case atStart => rfl
        case round =>
          subst hrel
          go_wp2
          go_ret
          exact ⟨rfl, Below.refl _ _⟩
      · have HA := Lib.hid ha
        have HB := Lib.hid hb
        have hl' : ((A.length : Int) != B.length) = false := by rw [hlen]; simp
        have hle : A.length ≤ B.length := by omega
        have HEQ : Hid (A.take A.length = B.take A.length → (A == B) = true) := fun h => by
          rw [List.take_length, hlen, List.take_length] at h
          simp [h]
        clear ha hb hlen
        go_enter Tryz.func20, Tryz.ntmps20
        go_wp2
        go_loopw [13] (fun i wr => ∃ (k : Nat), k ≤ A.length ∧ i = .int .i64 k ∧ Below w.heap.size w wr ∧ Hid (A.take k = B.take k)) (fun i _ => A.length - (intOf i).toNat)
        case atStart => exact ⟨0, Nat.zero_le _, rfl, Below.refl _ _, rfl⟩
        case round =>
          obtain ⟨k, hk, rfl, hbl, hinv⟩ := hrel
          have HBL := Lib.hid hbl
          by_cases hlt : k < A.length
          · have hlt2 : k < B.length := by omega
            have hca := strAt (HA.out.below hbl) k hlt
            have hcb := strAt (HB.out.below hbl) k hlt2
            have hoa : isOld ba wr = true := isOld_iff.2 (Nat.lt_of_lt_of_le hba hbl.size)
            have hob : isOld bb wr = true := isOld_iff.2 (Nat.lt_of_lt_of_le hbb hbl.size)
            have HE := Lib.hid (take_succ_same A B k hlt hlt2 hinv.out)
            have HF := Lib.hid (ne_of_get A B k hlt hlt2)
            clear hinv hbl
            generalize A[k]'hlt = x at *
            generalize B[k]'hlt2 = y at *
            by_cases hxy : x = y
            · have HV : Hid (A.take (k + 1) = B.take (k + 1)) := HE.out hxy
              subst hxy
              go_wp2
              refine wp_region_quiet_grown (by kernel_rfl) (by kernel_rfl) ?_
              repeat (quiet_step (fail))
              refine wpQuiet_nil ?_; intro _ hw'; obtain ⟨pq, hw''⟩ := hw'; subst hw''
              go_wp2
              go_roundw
              case rel => exact ⟨k + 1, by omega, by go_num, below_grown HBL.out HBL.out.size _, HV⟩
              case measure => simp [intOf]; omega
            · have HV := Lib.hid (HF.out hxy)
              have hxy' : (x == y) = false := by simpa using hxy
              clear hxy
              go_wp2
              refine wp_region_quiet_grown (by kernel_rfl) (by kernel_rfl) ?_
              repeat (quiet_step (fail))
              refine wpQuiet_nil ?_; intro _ hw'; obtain ⟨pq, hw''⟩ := hw'; subst hw''
              go_wp2
              go_ret
              exact ⟨ret_bool HV.out.symm, below_grown HBL.out HBL.out.size _⟩
          · obtain rfl : k = A.length := by omega
            have HV := Lib.hid (HEQ.out hinv.out)
            go_wp2
            go_ret
            exact ⟨ret_bool HV.out.symm, HBL.out⟩
  · have hl' : ((A.length : Int) != B.length) = true := by simp; omega
    rw [ne_of_len A B hlen]
    clear ha hb hlen
    go_enter Tryz.func20, Tryz.ntmps20
    go_wp2
    go_ret
    exact ⟨rfl, Below.refl _ _⟩
end Go.Proofs.YthklfbakffaioaaGreatDoor
