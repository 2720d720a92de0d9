/- IndexAny on any bytes. -/
import Derived.Test.YtfnhkpfkaiamjaaDoorIdxAny
import Derived.Lib.OthersKept
namespace Go.Proofs.YtfnhkpfkaiamjaaDoor
open Go Go.RowKit
set_option maxRecDepth 20000
set_option linter.unusedSimpArgs false
set_option linter.unusedVariables false

theorem decode_run (s : ByteArray) (pos : Nat) (h : pos < s.size) (ha : 128 ≤ (s[pos]'h).toNat) (k : Nat) (hk : k < (Utf8.decode s pos).2) : 128 ≤ (s.get! (pos + k)).toNat := by
  have h0 : 128 ≤ (s.get! (pos + 0)).toNat := by rw [get_at s pos h]; exact ha
  have hn : ¬ (s.get! (pos + 0)).toNat < 128 := by omega
  simp only [Utf8.decode, hn, if_false] at hk
  have c : k = 0 ∨ k = 1 ∨ k = 2 ∨ k = 3 ∨ 4 ≤ k := by omega
  rcases c with rfl | rfl | rfl | rfl | hc
  · exact h0
  all_goals
    revert hk
    repeat' split
    all_goals intro hk
    all_goals simp_all
    all_goals omega
theorem iterAt_heap {w : World} {k : Nat} {S : ByteArray} {p q : Nat} (h : w.heap[k]? = some (.stringIter S p)) : (w.iterAt k S q).heap[k]? = some (.stringIter S q) := by
  have hl := (Array.getElem?_eq_some_iff.1 h).1
  simp [World.iterAt, Array.getElem?_setIfInBounds, hl]
theorem iterAt_below {B k : Nat} {w w2 : World} (h : Below B w w2) (hB : B ≤ k) (S : ByteArray) (q : Nat) : Below B w (w2.iterAt k S q) :=
  ⟨h.os, h.tape, h.output, by simp [World.iterAt]; exact h.size, fun j hj => by
    rw [show (w2.iterAt k S q).heap[j]? = w2.heap[j]? by simp [World.iterAt, Array.getElem?_setIfInBounds]; intro e; omega]
    exact h.block j hj⟩
theorem slash_no {cs : List UInt8} (hcs : slashes cs) (c : UInt8) (h : 128 ≤ c.toNat) : cs.contains c = false := by
  have key : ∀ i : Fin 256, 128 ≤ i.val → ([47, 63, 35] : List UInt8).contains (UInt8.ofNat i.val) = false ∧ ([63, 35] : List UInt8).contains (UInt8.ofNat i.val) = false := by decide +kernel
  have := key ⟨c.toNat, c.toNat_lt⟩ h
  simp only [UInt8.ofNat_toNat] at this
  rcases hcs with rfl | rfl
  · exact this.1
  · exact this.2
theorem ba_get (s : List UInt8) (j : Nat) (b : UInt8) (h : s[j]? = some b) : (ByteArray.mk s.toArray).get! j = b := by
  obtain ⟨hl, rfl⟩ := List.getElem?_eq_some_iff.1 h
  show (s.toArray)[j]! = _
  simp [hl]
theorem noAny_run {s cs : List UInt8} (hcs : slashes cs) {i : Nat} (h : Lib.NoAny s cs i) (hi : i < (ByteArray.mk s.toArray).size) (ha : 128 ≤ ((ByteArray.mk s.toArray)[i]'hi).toNat) : Lib.NoAny s cs (i + (Utf8.decode ⟨s.toArray⟩ i).2) := fun j b hj hb => by
  by_cases e : j < i
  · exact h j b e hb
  · have hk := decode_run ⟨s.toArray⟩ i hi ha (j - i) (by omega)
    rw [show i + (j - i) = j by omega, ba_get s j b hb] at hk
    exact slash_no hcs b hk
set_option maxHeartbeats 4000000 in
theorem indexAny_any (s cs : List UInt8) (hs : s.length ≤ 4294967000) (hcs : slashes cs) (w : World) :
    Calls Tryd.prog 13 #[.string ⟨s.toArray⟩, .string ⟨cs.toArray⟩] w fun e w' => e = .returned (.int .i64 (Lib.indexAny s cs)) ∧ Below w.heap.size w w' := by
  have hsz : (ByteArray.mk s.toArray).size = s.length := by simp [ByteArray.size]
  by_cases h8 : 8 < s.length
  · have hca : ∀ (j : Nat) b, cs[j]? = some b → b.toNat < 128 := fun j b hb => by
      rcases Nat.lt_or_ge b.toNat 128 with h | h
      · exact h
      · have := slash_no hcs b h
        have hm := List.mem_of_getElem? hb
        rw [List.contains_eq_mem] at this
        simp [hm] at this
    refine (Tryd.strings_IndexAny_long (fun w => by kernel_rfl) ⟨s.toArray⟩ ⟨cs.toArray⟩ w (by rcases hcs with rfl | rfl <;> decide) (by rw [hsz]; exact h8) (by rw [hsz]; omega) (by rcases hcs with rfl | rfl <;> decide) (by simpa using hca)).mono fun e w' ⟨e1, e2⟩ => ⟨by simpa using e1, ?_⟩
    rw [e2]
    exact (by repeat (first | exact Below.refl _ _ | assumption | refine below_grown ?_ (by first | omega | (simp [go_sem]; done) | (simp [go_sem] <;> omega)) _ | refine Below.alloc ?_ (by first | omega | (simp [go_sem]; done) | (simp [go_sem] <;> omega)) _ | refine below_bytesW ?_ (by first | omega | (simp [go_sem]; done) | (simp [go_sem] <;> omega)) _ | refine Below.drew ?_ | refine below_drewN ?_ _))
  · have h8z : decide ((8 : Int) < (s.length : Int)) = false := decide_eq_false (by omega)
    have HU : Hid (∀ w, Calls Tryd.prog 22 #[.int .i64 (s.length : Int)] w fun e w' => e = .returned (.bool false) ∧ w = w') := fun w =>
      (Tryd.strings_shouldUseASCIISet (s.length : Int) w).mono fun e w' ⟨e1, e2⟩ => ⟨by rw [e1, h8z], e2.symm⟩
    have HR : Hid (∀ (r : Nat) (w : World), 128 ≤ r → r ≤ 2147483647 → Calls Tryd.prog 21 #[.string ⟨cs.toArray⟩, .int .i32 (r : Int)] w fun e w' => e = .returned (.int .i64 (-1)) ∧ Below w.heap.size w w') := fun r w a b => indexRune_high cs hcs r a b w
    have HRA : Hid (∀ (x : UInt8) (w : World), x.toNat < 128 → Calls Tryd.prog 21 #[.string ⟨cs.toArray⟩, .int .i32 (x.toNat : Int)] w fun e w' => e = .returned (.int .i64 (Lib.indexByte cs x)) ∧ w = w') := fun x w a =>
      (Tryd.strings_IndexRune_ascii ⟨cs.toArray⟩ (x.toNat : Int) w (by omega) (by omega)).mono fun e w' ⟨e1, e2⟩ => ⟨by rw [e1]; simp, e2.symm⟩
    have HCS := Lib.hid hcs
    have hn1 : ((cs.length : Int) == 1) = false := by rcases hcs with rfl | rfl <;> decide
    have hemp : cs.isEmpty = false := by rcases hcs with rfl | rfl <;> rfl
    have hemp2 : (cs == []) = false := by rcases hcs with rfl | rfl <;> rfl
    clear hcs
    go_enter Tryd.func13, Tryd.ntmps13
    go_wp2_with (go_at_call 22; refine (HU.out _).mono ?_; intro e w' h; obtain ⟨rfl, h2⟩ := h; subst w')
    obtain ⟨B, hB⟩ : ∃ B, B = w.heap.size := ⟨_, rfl⟩
    go_loopg [9, 10] s.length (fun g _ _ wx => ∃ i : Nat, s.length ≤ i + g ∧ wx.heap[w.heap.size]? = some (.stringIter ⟨s.toArray⟩ i) ∧ Below w.heap.size w wx ∧ Lib.NoAny s cs i)
    case atStart => exact ⟨0, by omega, World.iter_heap _ _ _, (Below.refl _ _).alloc (Nat.le_refl _) _, Lib.NoAny.zero _ _⟩
    case round =>
      obtain ⟨i, hig, hit, hb, hno⟩ := hrel
      have HN := Lib.hid hno
      have HIT := Lib.hid hit
      have HB := Lib.hid hb
      clear hno hb
      by_cases hi : i < s.length
      · cases gk with
        | zero => omega
        | succ g =>
          have hi' : i < (ByteArray.mk s.toArray).size := by rw [hsz]; exact hi
          obtain ⟨x, hx⟩ : ∃ x : UInt8, (ByteArray.mk s.toArray)[i]'hi' = x := ⟨_, rfl⟩
          have hxs : s[i]? = some x := by rw [List.getElem?_eq_getElem hi, ← hx]; rfl
          by_cases h128 : x.toNat < 128
          · have hnx := fun ty => Lib.run_next_ascii_at (P := Tryd.prog) _ w.heap.size ⟨s.toArray⟩ i ty hit hi' (by rw [hx]; exact h128)
            rw [hx] at hnx
            have HXS := Lib.hid hxs
            have hcon := Lib.contains_iff_indexByte cs x
            have HRX := Lib.hid (fun w => HRA.out x w h128)
            clear hit hx hxs
            cases hin : cs.contains x
            · rw [hin] at hcon
              have hlt : ¬ ((0 : Int) ≤ Lib.indexByte cs x) := of_decide_eq_false hcon.symm
              clear hcon
              go_wp2_with (go_at_call 21; refine (HRX.out _).mono ?_; intro e w' h; obtain ⟨rfl, h2⟩ := h; subst w')
              go_roundg g
              case measure => omega
              case rel => exact ⟨i + 1, by omega, iterAt_heap HIT.out, iterAt_below HB.out (Nat.le_refl _) _ _, HN.out.succ HXS.out hin⟩
            · rw [hin] at hcon
              have hge : (0 : Int) ≤ Lib.indexByte cs x := of_decide_eq_true hcon.symm
              have HH : Hid (Lib.indexAny s cs = i) := Lib.indexAny_hit HN.out HXS.out hin
              clear hcon
              go_wp2_with (go_at_call 21; refine (HRX.out _).mono ?_; intro e w' h; obtain ⟨rfl, h2⟩ := h; subst w')
              go_ret
              exact ⟨by rw [HH.out]; rfl, iterAt_below HB.out (Nat.le_refl _) _ _⟩
          · have hnx := fun ty => Lib.run_next_any_at (P := Tryd.prog) _ w.heap.size ⟨s.toArray⟩ i ty hit hi'
            obtain ⟨d1, d2⟩ := decode_high ⟨s.toArray⟩ i hi' (by rw [hx]; omega)
            have d3 := decode_le ⟨s.toArray⟩ i
            have HNR := Lib.hid (noAny_run HCS.out HN.out hi' (by rw [hx]; omega))
            generalize (Utf8.decode ⟨s.toArray⟩ i).1 = r at *
            generalize (Utf8.decode ⟨s.toArray⟩ i).2 = v at *
            have HRX := Lib.hid (fun w => HR.out r w d1 d3)
            clear hit hx hxs
            have hkl := (Array.getElem?_eq_some_iff.1 HIT.out).1
            go_wp2_with (go_at_call 21; refine (HRX.out _).mono ?_; rintro e w1 ⟨rfl, hb1⟩; obtain ⟨p1, rfl⟩ := grown_of hb1; clear hb1)
            go_roundg g
            case measure => omega
            case rel => exact ⟨i + v, by omega, ((below_grown' _ _).block _ (Array.getElem?_eq_some_iff.1 (iterAt_heap HIT.out)).1).trans (iterAt_heap HIT.out), below_grown (iterAt_below HB.out (Nat.le_refl _) _ _) (by simp [World.iterAt]; omega) _, HNR.out⟩
      · have hnx := fun ty => Lib.run_next_end_at (P := Tryd.prog) _ w.heap.size ⟨s.toArray⟩ i ty hit (by rw [hsz]; exact hi)
        have HE : Hid (Lib.indexAny s cs = -1) := Lib.indexAny_none (fun j b hj hb => HN.out j b (by omega) hb)
        clear hit
        go_wp2
        go_ret
        exact ⟨by rw [HE.out]; rfl, HB.out⟩
end Go.Proofs.YtfnhkpfkaiamjaaDoor
