/- IndexAny on any bytes: a rune from 128 on is not among ASCII bytes. -/
import Derived.Test.YtfnhkpfkaiamjaaDoorUrlWn
import Derived.Stop.FmtQuoteTie
import Derived.Laws.RangeAny
import Derived.Scope
import Derived.WalkMore
namespace Go.Proofs.YtfnhkpfkaiamjaaDoor
open Go Go.RowKit
set_option maxRecDepth 20000
set_option linter.unusedSimpArgs false
set_option linter.unusedVariables false

def slashes (cs : List UInt8) : Prop := cs = [47, 63, 35] ∨ cs = [63, 35]
theorem enc_high (r : Nat) (h : 128 ≤ r) : ∃ (A : List UInt8) (d : UInt8), Utf8.encode (r : Int) = ⟨(A ++ [d]).toArray⟩ ∧ (128 : Int) ≤ d.toNat ∧ (A.length = 1 ∨ A.length = 2 ∨ A.length = 3) := by
  have mk : ∀ (B : ByteArray) (l : List UInt8), B.data.toList = l → B = ⟨l.toArray⟩ := fun B l e => by
    cases B with
    | mk a => simp at e; subst e; simp
  have dd : ∀ k : Nat, (128 : Int) ≤ (UInt8.ofNat (128 + k % 64)).toNat := fun k => by
    rw [UInt8.toNat_ofNat']; omega
  by_cases c2 : r < 2048
  · exact ⟨[UInt8.ofNat (192 + r / 64)], _, mk _ _ (Extern.FmtText.enc2 r (by omega) c2), dd r, .inl rfl⟩
  · by_cases hb : (55296 ≤ r ∧ r ≤ 57343) ∨ 1114111 < r
    · exact ⟨[239, 191], 189, mk _ _ (Extern.FmtText.encBad r hb), by decide, .inr (.inl rfl)⟩
    · by_cases c3 : r < 65536
      · exact ⟨[UInt8.ofNat (224 + r / 4096), UInt8.ofNat (128 + r / 64 % 64)], _, mk _ _ (Extern.FmtText.enc3 r c2 c3 (by omega)), dd r, .inr (.inl rfl)⟩
      · exact ⟨[UInt8.ofNat (240 + r / 262144), UInt8.ofNat (128 + r / 4096 % 64), UInt8.ofNat (128 + r / 64 % 64)], _, mk _ _ (Extern.FmtText.enc4 r c3 (by omega)), dd r, .inr (.inr rfl)⟩
theorem valid_any (r : Int) (w : World) : Calls Tryd.prog 35 #[.int .i32 r] w fun e w' => e = .returned (.bool (Lib.validRune r)) ∧ w = w' :=
  (Tryd.utf8_ValidRune r w).mono fun e w' ⟨h1, h2⟩ => ⟨h1, h2.symm⟩
theorem ix_none (b : UInt8) : ∀ l : List UInt8, b ∉ l → Lib.indexByte l b = -1
  | [], _ => rfl
  | c :: l, h => by
    have ih := ix_none b l (fun hm => h (by simp [hm]))
    have hc : (c == b) = false := by rw [beq_eq_false_iff_ne]; rintro rfl; exact h (by simp)
    rw [Lib.indexByte, hc, ih]; rfl
set_option maxHeartbeats 4000000 in
theorem indexRune_high (cs : List UInt8) (hcs : slashes cs) (r : Nat) (h1 : 128 ≤ r) (h2 : r ≤ 2147483647) (w : World) :
    Calls Tryd.prog 21 #[.string ⟨cs.toArray⟩, .int .i32 (r : Int)] w fun e w' => e = .returned (.int .i64 (-1)) ∧ Below w.heap.size w w' := by
  have k1 : ¬ (r : Int) < 128 := by omega
  have k2 : (0 : Int) ≤ (r : Int) := by omega
  have HV := Lib.hid (fun w => valid_any (r : Int) w)
  by_cases hE : r = 65533
  · subst hE
    have hasc : ∀ (i : Nat) (h : i < cs.length), (cs[i]'h).toNat < 128 := by
      rcases hcs with rfl | rfl
      · intro i h
        match i, h with
        | 0, _ => exact (by decide : (47 : UInt8).toNat < 128)
        | 1, _ => exact (by decide : (63 : UInt8).toNat < 128)
        | 2, _ => exact (by decide : (35 : UInt8).toNat < 128)
      · intro i h
        match i, h with
        | 0, _ => exact (by decide : (63 : UInt8).toNat < 128)
        | 1, _ => exact (by decide : (35 : UInt8).toNat < 128)
    have HAS := Lib.hid hasc
    clear hasc hcs HV
    have hsz : (ByteArray.mk cs.toArray).size = cs.length := by simp [ByteArray.size]
    go_enter Tryd.func21, Tryd.ntmps21
    go_wp2
    go_loopg [5, 6] cs.length (fun g _ _ wx => ∃ i : Nat, i + g = cs.length ∧ wx = w.iter ⟨cs.toArray⟩ i)
    case atStart => exact ⟨0, by omega, rfl⟩
    case round =>
      obtain ⟨i, hig, rfl⟩ := hrel
      cases gk with
      | zero =>
        obtain rfl : i = cs.length := by omega
        have hnx := run_next_end (P := Tryd.prog) w ⟨cs.toArray⟩ cs.length
        rw [hsz] at hnx
        have hnx2 := fun ty => hnx ty (Nat.lt_irrefl _)
        clear hnx
        go_wp2
        go_ret
        exact ⟨rfl, (Below.refl _ _).alloc (Nat.le_refl _) _⟩
      | succ g =>
        have hi : i < cs.length := by omega
        obtain ⟨x, hx⟩ : ∃ x : UInt8, (ByteArray.mk cs.toArray)[i]'(by rw [hsz]; exact hi) = x := ⟨_, rfl⟩
        have hx128 : x.toNat < 128 := by
          rw [← hx]
          exact HAS.out i hi
        have hnx := fun ty => run_next_ascii (P := Tryd.prog) w ⟨cs.toArray⟩ i ty (by rw [hsz]; exact hi) (by rw [hx]; exact hx128)
        rw [hx] at hnx
        have hne : ((x.toNat : Int) == 65533) = false := by rw [beq_eq_false_iff_ne]; omega
        go_wp2
        go_roundg g
        case measure => omega
        case rel => exact ⟨i + 1, by omega, rfl⟩
  · have hE' : (((r : Nat) : Int) == 65533) = false := by rw [beq_eq_false_iff_ne]; omega
    cases hv : Lib.validRune (r : Int)
    · rw [hv] at HV
      rcases hcs with rfl | rfl
      all_goals
        go_enter Tryd.func21, Tryd.ntmps21
        go_wp2_with (go_at_call 35; refine (HV.out _).mono ?_; intro e w' h; obtain ⟨rfl, h2⟩ := h; subst w')
        go_ret
        exact ⟨rfl, (by repeat (first | exact Below.refl _ _ | assumption | refine below_grown ?_ (by first | omega | (simp [go_sem]; done) | (simp [go_sem] <;> omega)) _ | refine Below.alloc ?_ (by first | omega | (simp [go_sem]; done) | (simp [go_sem] <;> omega)) _ | refine below_bytesW ?_ (by first | omega | (simp [go_sem]; done) | (simp [go_sem] <;> omega)) _ | refine Below.drew ?_ | refine below_drewN ?_ _))⟩
    · rw [hv] at HV
      obtain ⟨A, d, hAd, hd, hl⟩ := enc_high r h1
      have HI : Hid (∀ (l : List UInt8) (w : World), d ∉ l → Calls Tryd.prog 34 #[.string ⟨l.toArray⟩, .int .u8 (d.toNat : Int)] w fun e w' => e = .returned (.int .i64 (-1)) ∧ w = w') := fun l w hn => by
        refine (Tryd.strings_IndexByte ⟨l.toArray⟩ (d.toNat : Int) w).mono fun e w1 ⟨he, hw⟩ => ⟨?_, hw.symm⟩
        rw [he]
        have : Lib.indexByte l d = -1 := ix_none d l hn
        simp [this]
      have q1 : ((35 : Int) != (d.toNat : Int)) = true := by rw [bne_iff_ne]; omega
      have q2 : ((63 : Int) != (d.toNat : Int)) = true := by rw [bne_iff_ne]; omega
      have q3 : ((47 : Int) != (d.toNat : Int)) = true := by rw [bne_iff_ne]; omega
      have hw2 : IntKind.i64.wrap 2 = 2 := by decide
      have hw3 : IntKind.i64.wrap 3 = 3 := by decide
      have dn0 : d ∉ ([] : List UInt8) := by simp
      have dn1 : d ∉ ([35] : List UInt8) := by intro h; rw [List.mem_singleton] at h; subst h; revert hd; decide
      have hA : (∃ a, A = [a]) ∨ (∃ a b, A = [a, b]) ∨ (∃ a b c, A = [a, b, c]) := by
        match A, hl with
        | [a], _ => exact .inl ⟨a, rfl⟩
        | [a, b], _ => exact .inr (.inl ⟨a, b, rfl⟩)
        | [a, b, c], _ => exact .inr (.inr ⟨a, b, c, rfl⟩)
        | [], h => exact absurd h (by simp)
        | _ :: _ :: _ :: _ :: _, h => exact absurd h (by simp)
      clear hl
      rcases hA with ⟨a, rfl⟩ | ⟨a, b, rfl⟩ | ⟨a, b, c, rfl⟩
      · rcases hcs with rfl | rfl
        · go_enter Tryd.func21, Tryd.ntmps21
          go_wp2_with (go_at_call 35; refine (HV.out _).mono ?_; intro e w' h; obtain ⟨rfl, h2⟩ := h; subst w')
          refine wp_scope_straight ?_
          go_wp2
          go_loop [9, 10, 11, 12] (fun i f _ _ => i = .int .i64 1 ∧ f = .int .i64 0) (fun _ _ _ _ => 0)
          case atStart => exact ⟨rfl, rfl⟩
          case round =>
            obtain ⟨rfl, rfl⟩ := hrel
            go_wp2
            refine wp_scope_straight ?_
            go_wp2
            go_region
            go_wp2
            go_region_law (first | (go_simp; with_reducible refine (HI.out _ _ (by first | exact dn0 | exact dn1 | (rw [show ByteArray.empty.1.toList = ([] : List UInt8) from rfl]; exact dn0))).mono ?_; intro e w' h; obtain ⟨rfl, h2⟩ := h; subst w'; dsimp only))
            all_goals
              go_wp2
              dsimp +zetaDelta only [Exit.inBlock, Exit.noGoto, Exit.then]
              go_ret
              exact ⟨rfl, (by repeat (first | exact Below.refl _ _ | assumption | refine below_grown ?_ (by first | omega | (simp [go_sem]; done) | (simp [go_sem] <;> omega)) _ | refine Below.alloc ?_ (by first | omega | (simp [go_sem]; done) | (simp [go_sem] <;> omega)) _ | refine below_bytesW ?_ (by first | omega | (simp [go_sem]; done) | (simp [go_sem] <;> omega)) _ | refine Below.drew ?_ | refine below_drewN ?_ _))⟩
        · go_enter Tryd.func21, Tryd.ntmps21
          go_wp2_with (go_at_call 35; refine (HV.out _).mono ?_; intro e w' h; obtain ⟨rfl, h2⟩ := h; subst w')
          refine wp_scope_straight ?_
          go_wp2
          go_loop [9, 10, 11, 12] (fun i f _ _ => i = .int .i64 1 ∧ f = .int .i64 0) (fun _ _ _ _ => 0)
          case atStart => exact ⟨rfl, rfl⟩
          case round =>
            obtain ⟨rfl, rfl⟩ := hrel
            go_wp2
            refine wp_scope_straight ?_
            go_wp2
            go_region
            go_wp2
            go_region_law (first | (go_simp; with_reducible refine (HI.out _ _ (by first | exact dn0 | exact dn1 | (rw [show ByteArray.empty.1.toList = ([] : List UInt8) from rfl]; exact dn0))).mono ?_; intro e w' h; obtain ⟨rfl, h2⟩ := h; subst w'; dsimp only))
            all_goals
              go_wp2
              dsimp +zetaDelta only [Exit.inBlock, Exit.noGoto, Exit.then]
              go_ret
              exact ⟨rfl, (by repeat (first | exact Below.refl _ _ | assumption | refine below_grown ?_ (by first | omega | (simp [go_sem]; done) | (simp [go_sem] <;> omega)) _ | refine Below.alloc ?_ (by first | omega | (simp [go_sem]; done) | (simp [go_sem] <;> omega)) _ | refine below_bytesW ?_ (by first | omega | (simp [go_sem]; done) | (simp [go_sem] <;> omega)) _ | refine Below.drew ?_ | refine below_drewN ?_ _))⟩
      · rcases hcs with rfl | rfl
        · go_enter Tryd.func21, Tryd.ntmps21
          go_wp2_with (go_at_call 35; refine (HV.out _).mono ?_; intro e w' h; obtain ⟨rfl, h2⟩ := h; subst w')
          refine wp_scope_straight ?_
          go_wp2
          go_loop [9, 10, 11, 12] (fun i f _ _ => i = .int .i64 2 ∧ f = .int .i64 0) (fun _ _ _ _ => 0)
          case atStart => exact ⟨rfl, rfl⟩
          case round =>
            obtain ⟨rfl, rfl⟩ := hrel
            go_wp2
            refine wp_scope_straight ?_
            go_wp2
            go_region
            go_wp2
            go_region_law (first | (go_simp; with_reducible refine (HI.out _ _ (by first | exact dn0 | exact dn1 | (rw [show ByteArray.empty.1.toList = ([] : List UInt8) from rfl]; exact dn0))).mono ?_; intro e w' h; obtain ⟨rfl, h2⟩ := h; subst w'; dsimp only))
            all_goals
              go_wp2
              dsimp +zetaDelta only [Exit.inBlock, Exit.noGoto, Exit.then]
              go_ret
              exact ⟨rfl, (by repeat (first | exact Below.refl _ _ | assumption | refine below_grown ?_ (by first | omega | (simp [go_sem]; done) | (simp [go_sem] <;> omega)) _ | refine Below.alloc ?_ (by first | omega | (simp [go_sem]; done) | (simp [go_sem] <;> omega)) _ | refine below_bytesW ?_ (by first | omega | (simp [go_sem]; done) | (simp [go_sem] <;> omega)) _ | refine Below.drew ?_ | refine below_drewN ?_ _))⟩
        · go_enter Tryd.func21, Tryd.ntmps21
          go_wp2_with (go_at_call 35; refine (HV.out _).mono ?_; intro e w' h; obtain ⟨rfl, h2⟩ := h; subst w')
          refine wp_scope_straight ?_
          go_wp2
          go_loop [9, 10, 11, 12] (fun i f _ _ => i = .int .i64 2 ∧ f = .int .i64 0) (fun _ _ _ _ => 0)
          case atStart => exact ⟨rfl, rfl⟩
          case round =>
            obtain ⟨rfl, rfl⟩ := hrel
            go_wp2
            go_ret
            exact ⟨rfl, (by repeat (first | exact Below.refl _ _ | assumption | refine below_grown ?_ (by first | omega | (simp [go_sem]; done) | (simp [go_sem] <;> omega)) _ | refine Below.alloc ?_ (by first | omega | (simp [go_sem]; done) | (simp [go_sem] <;> omega)) _ | refine below_bytesW ?_ (by first | omega | (simp [go_sem]; done) | (simp [go_sem] <;> omega)) _ | refine Below.drew ?_ | refine below_drewN ?_ _))⟩
      · rcases hcs with rfl | rfl
        · go_enter Tryd.func21, Tryd.ntmps21
          go_wp2_with (go_at_call 35; refine (HV.out _).mono ?_; intro e w' h; obtain ⟨rfl, h2⟩ := h; subst w')
          refine wp_scope_straight ?_
          go_wp2
          go_loop [9, 10, 11, 12] (fun i f _ _ => i = .int .i64 3 ∧ f = .int .i64 0) (fun _ _ _ _ => 0)
          case atStart => exact ⟨rfl, rfl⟩
          case round =>
            obtain ⟨rfl, rfl⟩ := hrel
            go_wp2
            go_ret
            exact ⟨rfl, (by repeat (first | exact Below.refl _ _ | assumption | refine below_grown ?_ (by first | omega | (simp [go_sem]; done) | (simp [go_sem] <;> omega)) _ | refine Below.alloc ?_ (by first | omega | (simp [go_sem]; done) | (simp [go_sem] <;> omega)) _ | refine below_bytesW ?_ (by first | omega | (simp [go_sem]; done) | (simp [go_sem] <;> omega)) _ | refine Below.drew ?_ | refine below_drewN ?_ _))⟩
        · go_enter Tryd.func21, Tryd.ntmps21
          go_wp2_with (go_at_call 35; refine (HV.out _).mono ?_; intro e w' h; obtain ⟨rfl, h2⟩ := h; subst w')
          refine wp_scope_straight ?_
          go_wp2
          go_loop [9, 10, 11, 12] (fun i f _ _ => i = .int .i64 3 ∧ f = .int .i64 0) (fun _ _ _ _ => 0)
          case atStart => exact ⟨rfl, rfl⟩
          case round =>
            obtain ⟨rfl, rfl⟩ := hrel
            go_wp2
            go_ret
            exact ⟨rfl, (by repeat (first | exact Below.refl _ _ | assumption | refine below_grown ?_ (by first | omega | (simp [go_sem]; done) | (simp [go_sem] <;> omega)) _ | refine Below.alloc ?_ (by first | omega | (simp [go_sem]; done) | (simp [go_sem] <;> omega)) _ | refine below_bytesW ?_ (by first | omega | (simp [go_sem]; done) | (simp [go_sem] <;> omega)) _ | refine Below.drew ?_ | refine below_drewN ?_ _))⟩
end Go.Proofs.YtfnhkpfkaiamjaaDoor
