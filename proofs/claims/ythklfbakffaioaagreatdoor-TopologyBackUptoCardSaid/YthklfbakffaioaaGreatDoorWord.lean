/- The walks of Word: any bytes as a word. -/
import Derived.Test.YthklfbakffaioaaGreatDoorOwnB
namespace Go.Proofs.YthklfbakffaioaaGreatDoor
open Go Go.RowKit

def hexCs : List UInt8 := [48, 49, 50, 51, 52, 53, 54, 55, 56, 57, 65, 66, 67, 68, 69, 70]
def hexU (n : Nat) : UInt8 := hexCs.getD n 0
def plainC (c : UInt8) : Bool := decide ((33 : Int) ≤ c.toNat) && (decide ((c.toNat : Int) ≤ 126) && !(c == 37))
def wordC (c : UInt8) : List UInt8 := if plainC c = true then [c] else [37, hexU (c.toNat / 16), hexU (c.toNat % 16)]
def wordBody (l : List UInt8) : List UInt8 := l.flatMap wordC
def wordL (l : List UInt8) : List UInt8 := if l = [] then [37] else wordBody l
theorem bytesAt.drew {w : World} {p : Addr} {l : List UInt8} (h : bytesAt w p l) : bytesAt w.drew p l := h
theorem wordBody_take (l : List UInt8) (k : Nat) (h : k < l.length) : wordBody (l.take (k + 1)) = wordBody (l.take k) ++ wordC (l[k]'h) := by
  rw [wordBody, List.take_succ_eq_append_getElem h, List.flatMap_append]
  simp [wordBody]
theorem hex_at (n : Nat) (h : ((n : Int)).toNat < hexCs.length) : hexCs[((n : Int)).toNat]'h = hexU n := by
  simp only [Int.toNat_natCast] at h ⊢
  rw [hexU, List.getD_eq_getElem?_getD, List.getElem?_eq_getElem h, Option.getD_some]
theorem low_nibble (c : UInt8) : bits .and .u8 (c.toNat : Int) 15 = (c.toNat : Int) % 16 := by
  have : ∀ i : Fin 256, bits .and .u8 (i.val : Int) 15 = (i.val : Int) % 16 := by decide +kernel
  exact this ⟨c.toNat, c.toNat_lt⟩
theorem wordC_length (c : UInt8) : (wordC c).length ≤ 3 := by unfold wordC; split <;> simp
theorem wordBody_length (l : List UInt8) : (wordBody l).length ≤ 3 * l.length := by
  induction l with
  | nil => simp [wordBody]
  | cons c l ih =>
    have : wordBody (c :: l) = wordC c ++ wordBody l := by simp [wordBody]
    rw [this, List.length_append, List.length_cons]
    have := wordC_length c
    omega

set_option maxRecDepth 20000 in
set_option maxHeartbeats 400000 in
theorem word_any (l : List UInt8) (hl : l.length ≤ 4294967280) (w : World) :
    Calls Tryz.prog 163 #[.string ⟨l.toArray⟩] w fun e w' => e = .returned (.string ⟨(wordL l).toArray⟩) ∧ Below w.heap.size w w' := by
  by_cases h0 : l = []
  · subst h0
    go_enter Tryz.func163, Tryz.ntmps163
    go_wp2
    go_ret
    exact ⟨rfl, (by repeat (first | exact Below.refl _ _ | assumption | refine below_grown ?_ (by first | omega | (simp [go_sem]; done) | (simp [go_sem] <;> omega)) _ | refine Below.alloc ?_ (by first | omega | (simp [go_sem]; done) | (simp [go_sem] <;> omega)) _ | refine below_bytesW ?_ (by first | omega | (simp [go_sem]; done) | (simp [go_sem] <;> omega)) _ | refine Below.drew ?_ | refine below_drewN ?_ _))⟩
  · have he : l.isEmpty = false := by cases l <;> simp_all
    have hw : wordL l = wordBody l := if_neg h0
    rw [hw]
    clear hw
    go_enter Tryz.func163, Tryz.ntmps163
    go_wp2
    go_loopw [3, 11] (fun out i wr => ∃ k : Nat, k ≤ l.length ∧ i = .int .i64 k ∧ Below (w.heap.size + 1) (bytesW w l) wr ∧ OwnB (w.heap.size + 1) wr out (wordBody (l.take k))) (fun _ i _ => l.length - (intOf i).toNat)
    case atStart => exact ⟨0, Nat.zero_le _, rfl, Below.refl _ _, OwnB.nil _ _⟩
    case round =>
      obtain ⟨k, hk, rfl, hb, ho⟩ := hrel
      by_cases hlt : k < l.length
      · have hcell : wr.cell? ⟨w.heap.size, k, none⟩ = some (.int .u8 ((l[k]'hlt).toNat : Int)) := by
          rw [hb.cell (p := ⟨w.heap.size, k, none⟩) (Nat.lt_succ_self _)]
          exact cell_bytesW w l k hlt
        have e := wordBody_take l k hlt
        have hlen := wordBody_length (l.take k)
        rw [List.length_take] at hlen
        have hsz := hb.size
        rw [bytesW_size] at hsz
        have HB := Lib.hid hb
        have HO := Lib.hid ho
        have HE := Lib.hid e
        clear hb ho e
        generalize l[k]'hlt = c at *
        generalize hA : wordBody (l.take k) = A at *
        clear hA
        cases hp : plainC c
        · have hcase : (c.toNat : Int) ≤ 32 ∨ ((33 : Int) ≤ c.toNat ∧ (127 : Int) ≤ c.toNat) ∨ ((33 : Int) ≤ c.toNat ∧ (c.toNat : Int) ≤ 126 ∧ ((c.toNat : Int) != 37) = false) := by
            rw [u8_lit_ne c 37 37 rfl]
            by_cases h1 : (33 : Int) ≤ c.toNat
            · by_cases h2 : (c.toNat : Int) ≤ 126
              · refine .inr (.inr ⟨h1, h2, ?_⟩)
                simp [plainC, h1, h2] at hp
                simp [hp]
              · exact .inr (.inl ⟨h1, by omega⟩)
            · exact .inl (by omega)
          have HH := Lib.hid hp
          clear hp
          have hq0 : (0 : Int) ≤ (c.toNat : Int) / 16 := by omega
          have hq1 : (c.toNat : Int) / 16 < 16 := by have := c.toNat_lt; omega
          have hqx : ∀ h, ([48, 49, 50, 51, 52, 53, 54, 55, 56, 57, 65, 66, 67, 68, 69, 70] : List UInt8)[((c.toNat : Int) / 16).toNat]'h = hexU (c.toNat / 16) := fun h => hex_at _ h
          have ha : bits .and .u8 (c.toNat : Int) 15 = (c.toNat : Int) % 16 := low_nibble c
          have hr0 : (0 : Int) ≤ (c.toNat : Int) % 16 := by omega
          have hr1 : (c.toNat : Int) % 16 < 16 := by omega
          have hrx : ∀ h, ([48, 49, 50, 51, 52, 53, 54, 55, 56, 57, 65, 66, 67, 68, 69, 70] : List UInt8)[((c.toNat : Int) % 16).toNat]'h = hexU (c.toNat % 16) := fun h => hex_at _ h
          rcases hcase with h1 | ⟨h1, h2⟩ | ⟨h1, h2, h3⟩
          all_goals
            go_wp2
            go_region_law (refine step_append_bytes rfl (.tmp 29) (.tmp 36) rfl (w.heap.size + 1) _ _ A rfl (HO.out.alloc _).drew _ _ _ [37, hexU (c.toNat / 16), hexU (c.toNat % 16)] rfl rfl (bytesAt_new3 _ _ _ _ _).drew (by first | omega | (simp; done) | (simp; omega) | (simp [go_sem]; done) | (simp [go_sem]; omega)) (by first | omega | (simp; done) | (simp; omega) | (simp [go_sem]; done) | (simp [go_sem]; omega)) ?_; intro v' w1 ho1 hb1; have HO1 := Lib.hid ho1; have HB1 := Lib.hid hb1; clear ho1 hb1)
            all_goals
              go_wp2
              go_roundw
              case rel => exact ⟨k + 1, by omega, by go_num, (below_drew (HB.out.alloc (by first | omega | (simp; done) | (simp; omega) | (simp [go_sem]; done) | (simp [go_sem]; omega)) _)).trans HB1.out, by rw [HE.out, wordC, if_neg (by rw [HH.out]; decide)]; exact HO1.out⟩
              case measure => simp [intOf]; omega
        · have h1 : (33 : Int) ≤ c.toNat := by simp [plainC] at hp; omega
          have h2 : (c.toNat : Int) ≤ 126 := by simp [plainC] at hp; omega
          have h3 : ((c.toNat : Int) != 37) = true := by
            rw [u8_lit_ne c 37 37 rfl]
            simp [plainC] at hp
            simp [hp.2.2]
          go_wp2_with (at_builtin; refine wpList_append_bytes rfl (.tmp 25) (.tmp 27) rfl (w.heap.size + 1) _ _ A rfl (HO.out.alloc _) _ _ _ [c] rfl rfl (bytesAt_new1 _ c _) (by first | omega | (simp; done) | (simp; omega) | (simp [go_sem]; done) | (simp [go_sem]; omega)) (by first | omega | (simp; done) | (simp; omega) | (simp [go_sem]; done) | (simp [go_sem]; omega)) ?_; intro v' w1 ho1 hb1; have HO1 := Lib.hid ho1; have HB1 := Lib.hid hb1; clear ho1 hb1)
          go_roundw
          case rel => exact ⟨k + 1, by omega, by go_num, (HB.out.alloc (by first | omega | (simp; done) | (simp; omega) | (simp [go_sem]; done) | (simp [go_sem]; omega)) _).trans HB1.out, by rw [HE.out, wordC, if_pos hp]; exact HO1.out⟩
          case measure => simp [intOf]; omega
      · obtain rfl : k = l.length := by omega
        rw [List.take_length] at ho
        have hs := ho.str
        have HB := Lib.hid hb
        rcases ho.form with ⟨rfl, e⟩ | ⟨g, cap, rfl, _⟩
        all_goals
          clear hb ho
          go_wp2
          go_ret
          first
            | exact ⟨rfl, (below_bytesW' w l).trans (HB.out.mono (Nat.le_succ _))⟩
            | exact ⟨ret_str e.symm, (below_bytesW' w l).trans (HB.out.mono (Nat.le_succ _))⟩
end Go.Proofs.YthklfbakffaioaaGreatDoor
