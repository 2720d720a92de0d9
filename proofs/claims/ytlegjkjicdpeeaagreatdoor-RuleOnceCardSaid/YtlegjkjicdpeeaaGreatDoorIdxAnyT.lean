/- Merged: IdxAnyt, IdxAny2t. -/
import Derived.Test.YtlegjkjicdpeeaaGreatDoorRuleP
import Derived.Stop.FmtQuoteTie
import Derived.Laws.RangeAny
import Derived.Scope
import Derived.WalkMore
import Derived.Lib.OthersKept
namespace Go.Proofs.YtlegjkjicdpeeaaGreatDoor
section
open Go Go.RowKit
set_option maxRecDepth 20000
set_option linter.unusedSimpArgs false
set_option linter.unusedVariables false

def slashes (cs : List UInt8) : Prop := cs = [47, 63, 35] ∨ cs = [63, 35] ∨ cs = [32, 9]
theorem enc_high (r : Nat) (h : 128 ≤ r) : ∃ (A : List UInt8) (d : UInt8), Utf8.encode (r : Int) = ⟨(A ++ [d]).toArray⟩ ∧ (128 : Int) ≤ d.toNat ∧ (A.length = 1 ∨ A.length = 2 ∨ A.length = 3) := by
  have mk : ∀ (B : ByteArray) (l : List UInt8), B.data.toList = l → B = ⟨l.toArray⟩ := fun B l e => by
    cases B with
    | mk a => simp at e; subst e; simp
  have dd : ∀ k : Nat, (128 : Int) ≤ (UInt8.ofNat (128 + k % 64)).toNat := fun k => by
    rw [UInt8.toNat_ofNat']; omega
  by_cases c2 : r < 2048
  · exact ⟨[UInt8.ofNat (192 + r / 64)], _, mk _ _ (Extern.FmtText.enc2 r (by omega) c2), dd r, .inl rfl⟩
  · by_cases hb : (55296 ≤ r ∧ r ≤ 57343) ∨ 1114111 < r
    · exact ⟨[239, 191], 189, mk _ _ (Extern.FmtText.encBad r hb), by decide, .inr (.inl rfl)⟩
    · by_cases c3 : r < 65536
      · exact ⟨[UInt8.ofNat (224 + r / 4096), UInt8.ofNat (128 + r / 64 % 64)], _, mk _ _ (Extern.FmtText.enc3 r c2 c3 (by omega)), dd r, .inr (.inl rfl)⟩
      · exact ⟨[UInt8.ofNat (240 + r / 262144), UInt8.ofNat (128 + r / 4096 % 64), UInt8.ofNat (128 + r / 64 % 64)], _, mk _ _ (Extern.FmtText.enc4 r c3 (by omega)), dd r, .inr (.inr rfl)⟩
theorem valid_any (r : Int) (w : World) : Calls Tryz.prog 99 #[.int .i32 r] w fun e w' => e = .returned (.bool (Lib.validRune r)) ∧ w = w' :=
  (Tryz.utf8_ValidRune r w).mono fun e w' ⟨h1, h2⟩ => ⟨h1, h2.symm⟩
theorem ix_none (b : UInt8) : ∀ l : List UInt8, b ∉ l → Lib.indexByte l b = -1
  | [], _ => rfl
  | c :: l, h => by
    have ih := ix_none b l (fun hm => h (by simp [hm]))
    have hc : (c == b) = false := by rw [beq_eq_false_iff_ne]; rintro rfl; exact h (by simp)
    rw [Lib.indexByte, hc, ih]; rfl
set_option maxHeartbeats 4000000 in
theorem indexRune_high (cs : List UInt8) (hcs : slashes cs) (r : Nat) (h1 : 128 ≤ r) (h2 : r ≤ 2147483647) (w : World) :
    Calls Tryz.prog 65 #[.string ⟨cs.toArray⟩, .int .i32 (r : Int)] w fun e w' => e = .returned (.int .i64 (-1)) ∧ Below w.heap.size w w' := by
  have k1 : ¬ (r : Int) < 128 := by omega
  have k2 : (0 : Int) ≤ (r : Int) := by omega
  have HV := Lib.hid (fun w => valid_any (r : Int) w)
  by_cases hE : r = 65533
  · subst hE
    have hasc : ∀ (i : Nat) (h : i < cs.length), (cs[i]'h).toNat < 128 := by
      rcases hcs with rfl | rfl | rfl
      · intro i h
        match i, h with
        | 0, _ => exact (by decide : (47 : UInt8).toNat < 128)
        | 1, _ => exact (by decide : (63 : UInt8).toNat < 128)
        | 2, _ => exact (by decide : (35 : UInt8).toNat < 128)
      · intro i h
        match i, h with
        | 0, _ => exact (by decide : (63 : UInt8).toNat < 128)
        | 1, _ => exact (by decide : (35 : UInt8).toNat < 128)
      · intro i h
        match i, h with
        | 0, _ => exact (by decide : (32 : UInt8).toNat < 128)
        | 1, _ => exact (by decide : (9 : UInt8).toNat < 128)
    have HAS := Lib.hid hasc
    clear hasc hcs HV
    have hsz : (ByteArray.mk cs.toArray).size = cs.length := by simp [ByteArray.size]
    go_enter Tryz.func65, Tryz.ntmps65
    go_wp2
    go_loopg [5, 6] cs.length (fun g _ _ wx => ∃ i : Nat, i + g = cs.length ∧ wx = w.iter ⟨cs.toArray⟩ i)
    case atStart => exact ⟨0, by omega, rfl⟩
    case round =>
      obtain ⟨i, hig, rfl⟩ := hrel
      cases gk with
      | zero =>
        obtain rfl : i = cs.length := by omega
        have hnx := run_next_end (P := Tryz.prog) w ⟨cs.toArray⟩ cs.length
        rw [hsz] at hnx
        have hnx2 := fun ty => hnx ty (Nat.lt_irrefl _)
        clear hnx
        go_wp2
        go_ret
        exact ⟨rfl, (Below.refl _ _).alloc (Nat.le_refl _) _⟩
      | succ g =>
        have hi : i < cs.length := by omega
        obtain ⟨x, hx⟩ : ∃ x : UInt8, (ByteArray.mk cs.toArray)[i]'(by rw [hsz]; exact hi) = x := ⟨_, rfl⟩
        have hx128 : x.toNat < 128 := by
          rw [← hx]
          exact HAS.out i hi
        have hnx := fun ty => run_next_ascii (P := Tryz.prog) w ⟨cs.toArray⟩ i ty (by rw [hsz]; exact hi) (by rw [hx]; exact hx128)
        rw [hx] at hnx
        have hne : ((x.toNat : Int) == 65533) = false := by rw [beq_eq_false_iff_ne]; omega
        go_wp2
        go_roundg g
        case measure => omega
        case rel => exact ⟨i + 1, by omega, rfl⟩
  · have hE' : (((r : Nat) : Int) == 65533) = false := by rw [beq_eq_false_iff_ne]; omega
    cases hv : Lib.validRune (r : Int)
    · rw [hv] at HV
      rcases hcs with rfl | rfl | rfl
      all_goals
        go_enter Tryz.func65, Tryz.ntmps65
        go_wp2_with (go_at_call 99; refine (HV.out _).mono ?_; intro e w' h; obtain ⟨rfl, h2⟩ := h; subst w')
        go_ret
        exact ⟨rfl, (by repeat (first | exact Below.refl _ _ | assumption | refine below_grown ?_ (by first | omega | (simp [go_sem]; done) | (simp [go_sem] <;> omega)) _ | refine Below.alloc ?_ (by first | omega | (simp [go_sem]; done) | (simp [go_sem] <;> omega)) _ | refine below_bytesW ?_ (by first | omega | (simp [go_sem]; done) | (simp [go_sem] <;> omega)) _ | refine Below.drew ?_ | refine below_drewN ?_ _))⟩
    · rw [hv] at HV
      obtain ⟨A, d, hAd, hd, hl⟩ := enc_high r h1
      have HI : Hid (∀ (l : List UInt8) (w : World), d ∉ l → Calls Tryz.prog 98 #[.string ⟨l.toArray⟩, .int .u8 (d.toNat : Int)] w fun e w' => e = .returned (.int .i64 (-1)) ∧ w = w') := fun l w hn => by
        refine (Tryz.strings_IndexByte ⟨l.toArray⟩ (d.toNat : Int) w).mono fun e w1 ⟨he, hw⟩ => ⟨?_, hw.symm⟩
        rw [he]
        have : Lib.indexByte l d = -1 := ix_none d l hn
        simp [this]
      have q1 : ((35 : Int) != (d.toNat : Int)) = true := by rw [bne_iff_ne]; omega
      have q2 : ((63 : Int) != (d.toNat : Int)) = true := by rw [bne_iff_ne]; omega
      have q4 : ((9 : Int) != (d.toNat : Int)) = true := by rw [bne_iff_ne]; omega
      have q5 : ((32 : Int) != (d.toNat : Int)) = true := by rw [bne_iff_ne]; omega
      have q3 : ((47 : Int) != (d.toNat : Int)) = true := by rw [bne_iff_ne]; omega
      have hw2 : IntKind.i64.wrap 2 = 2 := by decide
      have hw3 : IntKind.i64.wrap 3 = 3 := by decide
      have dn0 : d ∉ ([] : List UInt8) := by simp
      have dn1 : d ∉ ([35] : List UInt8) := by intro h; rw [List.mem_singleton] at h; subst h; revert hd; decide
      have dn9 : d ∉ ([9] : List UInt8) := by intro h; rw [List.mem_singleton] at h; subst h; revert hd; decide
      have hA : (∃ a, A = [a]) ∨ (∃ a b, A = [a, b]) ∨ (∃ a b c, A = [a, b, c]) := by
        match A, hl with
        | [a], _ => exact .inl ⟨a, rfl⟩
        | [a, b], _ => exact .inr (.inl ⟨a, b, rfl⟩)
        | [a, b, c], _ => exact .inr (.inr ⟨a, b, c, rfl⟩)
        | [], h => exact absurd h (by simp)
        | _ :: _ :: _ :: _ :: _, h => exact absurd h (by simp)
      clear hl
      rcases hA with ⟨a, rfl⟩ | ⟨a, b, rfl⟩ | ⟨a, b, c, rfl⟩
      · rcases hcs with rfl | rfl | rfl
        · go_enter Tryz.func65, Tryz.ntmps65
          go_wp2_with (go_at_call 99; refine (HV.out _).mono ?_; intro e w' h; obtain ⟨rfl, h2⟩ := h; subst w')
          refine wp_scope_straight ?_
          go_wp2
          go_loop [9, 10, 11, 12] (fun i f _ _ => i = .int .i64 1 ∧ f = .int .i64 0) (fun _ _ _ _ => 0)
          case atStart => exact ⟨rfl, rfl⟩
          case round =>
            obtain ⟨rfl, rfl⟩ := hrel
            go_wp2
            refine wp_scope_straight ?_
            go_wp2
            go_region
            go_wp2
            go_region_law (first | (go_simp; with_reducible refine (HI.out _ _ (by first | exact dn0 | exact dn1 | exact dn9 | (rw [show ByteArray.empty.1.toList = ([] : List UInt8) from rfl]; exact dn0))).mono ?_; intro e w' h; obtain ⟨rfl, h2⟩ := h; subst w'; dsimp only))
            all_goals
              go_wp2
              dsimp +zetaDelta only [Exit.inBlock, Exit.noGoto, Exit.then]
              go_ret
              exact ⟨rfl, (by repeat (first | exact Below.refl _ _ | assumption | refine below_grown ?_ (by first | omega | (simp [go_sem]; done) | (simp [go_sem] <;> omega)) _ | refine Below.alloc ?_ (by first | omega | (simp [go_sem]; done) | (simp [go_sem] <;> omega)) _ | refine below_bytesW ?_ (by first | omega | (simp [go_sem]; done) | (simp [go_sem] <;> omega)) _ | refine Below.drew ?_ | refine below_drewN ?_ _))⟩
        · go_enter Tryz.func65, Tryz.ntmps65
          go_wp2_with (go_at_call 99; refine (HV.out _).mono ?_; intro e w' h; obtain ⟨rfl, h2⟩ := h; subst w')
          refine wp_scope_straight ?_
          go_wp2
          go_loop [9, 10, 11, 12] (fun i f _ _ => i = .int .i64 1 ∧ f = .int .i64 0) (fun _ _ _ _ => 0)
          case atStart => exact ⟨rfl, rfl⟩
          case round =>
            obtain ⟨rfl, rfl⟩ := hrel
            go_wp2
            refine wp_scope_straight ?_
            go_wp2
            go_region
            go_wp2
            go_region_law (first | (go_simp; with_reducible refine (HI.out _ _ (by first | exact dn0 | exact dn1 | exact dn9 | (rw [show ByteArray.empty.1.toList = ([] : List UInt8) from rfl]; exact dn0))).mono ?_; intro e w' h; obtain ⟨rfl, h2⟩ := h; subst w'; dsimp only))
            all_goals
              go_wp2
              dsimp +zetaDelta only [Exit.inBlock, Exit.noGoto, Exit.then]
              go_ret
              exact ⟨rfl, (by repeat (first | exact Below.refl _ _ | assumption | refine below_grown ?_ (by first | omega | (simp [go_sem]; done) | (simp [go_sem] <;> omega)) _ | refine Below.alloc ?_ (by first | omega | (simp [go_sem]; done) | (simp [go_sem] <;> omega)) _ | refine below_bytesW ?_ (by first | omega | (simp [go_sem]; done) | (simp [go_sem] <;> omega)) _ | refine Below.drew ?_ | refine below_drewN ?_ _))⟩
        · go_enter Tryz.func65, Tryz.ntmps65
          go_wp2_with (go_at_call 99; refine (HV.out _).mono ?_; intro e w' h; obtain ⟨rfl, h2⟩ := h; subst w')
          refine wp_scope_straight ?_
          go_wp2
          go_loop [9, 10, 11, 12] (fun i f _ _ => i = .int .i64 1 ∧ f = .int .i64 0) (fun _ _ _ _ => 0)
          case atStart => exact ⟨rfl, rfl⟩
          case round =>
            obtain ⟨rfl, rfl⟩ := hrel
            go_wp2
            refine wp_scope_straight ?_
            go_wp2
            go_region
            go_wp2
            go_region_law (first | (go_simp; with_reducible refine (HI.out _ _ (by first | exact dn0 | exact dn1 | exact dn9 | (rw [show ByteArray.empty.1.toList = ([] : List UInt8) from rfl]; exact dn0))).mono ?_; intro e w' h; obtain ⟨rfl, h2⟩ := h; subst w'; dsimp only))
            all_goals
              go_wp2
              dsimp +zetaDelta only [Exit.inBlock, Exit.noGoto, Exit.then]
              go_ret
              exact ⟨rfl, (by repeat (first | exact Below.refl _ _ | assumption | refine below_grown ?_ (by first | omega | (simp [go_sem]; done) | (simp [go_sem] <;> omega)) _ | refine Below.alloc ?_ (by first | omega | (simp [go_sem]; done) | (simp [go_sem] <;> omega)) _ | refine below_bytesW ?_ (by first | omega | (simp [go_sem]; done) | (simp [go_sem] <;> omega)) _ | refine Below.drew ?_ | refine below_drewN ?_ _))⟩
      · rcases hcs with rfl | rfl | rfl
        · go_enter Tryz.func65, Tryz.ntmps65
          go_wp2_with (go_at_call 99; refine (HV.out _).mono ?_; intro e w' h; obtain ⟨rfl, h2⟩ := h; subst w')
          refine wp_scope_straight ?_
          go_wp2
          go_loop [9, 10, 11, 12] (fun i f _ _ => i = .int .i64 2 ∧ f = .int .i64 0) (fun _ _ _ _ => 0)
          case atStart => exact ⟨rfl, rfl⟩
          case round =>
            obtain ⟨rfl, rfl⟩ := hrel
            go_wp2
            refine wp_scope_straight ?_
            go_wp2
            go_region
            go_wp2
            go_region_law (first | (go_simp; with_reducible refine (HI.out _ _ (by first | exact dn0 | exact dn1 | exact dn9 | (rw [show ByteArray.empty.1.toList = ([] : List UInt8) from rfl]; exact dn0))).mono ?_; intro e w' h; obtain ⟨rfl, h2⟩ := h; subst w'; dsimp only))
            all_goals
              go_wp2
              dsimp +zetaDelta only [Exit.inBlock, Exit.noGoto, Exit.then]
              go_ret
              exact ⟨rfl, (by repeat (first | exact Below.refl _ _ | assumption | refine below_grown ?_ (by first | omega | (simp [go_sem]; done) | (simp [go_sem] <;> omega)) _ | refine Below.alloc ?_ (by first | omega | (simp [go_sem]; done) | (simp [go_sem] <;> omega)) _ | refine below_bytesW ?_ (by first | omega | (simp [go_sem]; done) | (simp [go_sem] <;> omega)) _ | refine Below.drew ?_ | refine below_drewN ?_ _))⟩
        · go_enter Tryz.func65, Tryz.ntmps65
          go_wp2_with (go_at_call 99; refine (HV.out _).mono ?_; intro e w' h; obtain ⟨rfl, h2⟩ := h; subst w')
          refine wp_scope_straight ?_
          go_wp2
          go_loop [9, 10, 11, 12] (fun i f _ _ => i = .int .i64 2 ∧ f = .int .i64 0) (fun _ _ _ _ => 0)
          case atStart => exact ⟨rfl, rfl⟩
          case round =>
            obtain ⟨rfl, rfl⟩ := hrel
            go_wp2
            go_ret
            exact ⟨rfl, (by repeat (first | exact Below.refl _ _ | assumption | refine below_grown ?_ (by first | omega | (simp [go_sem]; done) | (simp [go_sem] <;> omega)) _ | refine Below.alloc ?_ (by first | omega | (simp [go_sem]; done) | (simp [go_sem] <;> omega)) _ | refine below_bytesW ?_ (by first | omega | (simp [go_sem]; done) | (simp [go_sem] <;> omega)) _ | refine Below.drew ?_ | refine below_drewN ?_ _))⟩
        · go_enter Tryz.func65, Tryz.ntmps65
          go_wp2_with (go_at_call 99; refine (HV.out _).mono ?_; intro e w' h; obtain ⟨rfl, h2⟩ := h; subst w')
          refine wp_scope_straight ?_
          go_wp2
          go_loop [9, 10, 11, 12] (fun i f _ _ => i = .int .i64 2 ∧ f = .int .i64 0) (fun _ _ _ _ => 0)
          case atStart => exact ⟨rfl, rfl⟩
          case round =>
            obtain ⟨rfl, rfl⟩ := hrel
            go_wp2
            go_ret
            exact ⟨rfl, (by repeat (first | exact Below.refl _ _ | assumption | refine below_grown ?_ (by first | omega | (simp [go_sem]; done) | (simp [go_sem] <;> omega)) _ | refine Below.alloc ?_ (by first | omega | (simp [go_sem]; done) | (simp [go_sem] <;> omega)) _ | refine below_bytesW ?_ (by first | omega | (simp [go_sem]; done) | (simp [go_sem] <;> omega)) _ | refine Below.drew ?_ | refine below_drewN ?_ _))⟩
      · rcases hcs with rfl | rfl | rfl
        · go_enter Tryz.func65, Tryz.ntmps65
          go_wp2_with (go_at_call 99; refine (HV.out _).mono ?_; intro e w' h; obtain ⟨rfl, h2⟩ := h; subst w')
          refine wp_scope_straight ?_
          go_wp2
          go_loop [9, 10, 11, 12] (fun i f _ _ => i = .int .i64 3 ∧ f = .int .i64 0) (fun _ _ _ _ => 0)
          case atStart => exact ⟨rfl, rfl⟩
          case round =>
            obtain ⟨rfl, rfl⟩ := hrel
            go_wp2
            go_ret
            exact ⟨rfl, (by repeat (first | exact Below.refl _ _ | assumption | refine below_grown ?_ (by first | omega | (simp [go_sem]; done) | (simp [go_sem] <;> omega)) _ | refine Below.alloc ?_ (by first | omega | (simp [go_sem]; done) | (simp [go_sem] <;> omega)) _ | refine below_bytesW ?_ (by first | omega | (simp [go_sem]; done) | (simp [go_sem] <;> omega)) _ | refine Below.drew ?_ | refine below_drewN ?_ _))⟩
        · go_enter Tryz.func65, Tryz.ntmps65
          go_wp2_with (go_at_call 99; refine (HV.out _).mono ?_; intro e w' h; obtain ⟨rfl, h2⟩ := h; subst w')
          refine wp_scope_straight ?_
          go_wp2
          go_loop [9, 10, 11, 12] (fun i f _ _ => i = .int .i64 3 ∧ f = .int .i64 0) (fun _ _ _ _ => 0)
          case atStart => exact ⟨rfl, rfl⟩
          case round =>
            obtain ⟨rfl, rfl⟩ := hrel
            go_wp2
            go_ret
            exact ⟨rfl, (by repeat (first | exact Below.refl _ _ | assumption | refine below_grown ?_ (by first | omega | (simp [go_sem]; done) | (simp [go_sem] <;> omega)) _ | refine Below.alloc ?_ (by first | omega | (simp [go_sem]; done) | (simp [go_sem] <;> omega)) _ | refine below_bytesW ?_ (by first | omega | (simp [go_sem]; done) | (simp [go_sem] <;> omega)) _ | refine Below.drew ?_ | refine below_drewN ?_ _))⟩
        · go_enter Tryz.func65, Tryz.ntmps65
          go_wp2_with (go_at_call 99; refine (HV.out _).mono ?_; intro e w' h; obtain ⟨rfl, h2⟩ := h; subst w')
          refine wp_scope_straight ?_
          go_wp2
          go_loop [9, 10, 11, 12] (fun i f _ _ => i = .int .i64 3 ∧ f = .int .i64 0) (fun _ _ _ _ => 0)
          case atStart => exact ⟨rfl, rfl⟩
          case round =>
            obtain ⟨rfl, rfl⟩ := hrel
            go_wp2
            go_ret
            exact ⟨rfl, (by repeat (first | exact Below.refl _ _ | assumption | refine below_grown ?_ (by first | omega | (simp [go_sem]; done) | (simp [go_sem] <;> omega)) _ | refine Below.alloc ?_ (by first | omega | (simp [go_sem]; done) | (simp [go_sem] <;> omega)) _ | refine below_bytesW ?_ (by first | omega | (simp [go_sem]; done) | (simp [go_sem] <;> omega)) _ | refine Below.drew ?_ | refine below_drewN ?_ _))⟩
end

section
open Go Go.RowKit
set_option maxRecDepth 20000
set_option linter.unusedSimpArgs false
set_option linter.unusedVariables false

theorem decode_run (s : ByteArray) (pos : Nat) (h : pos < s.size) (ha : 128 ≤ (s[pos]'h).toNat) (k : Nat) (hk : k < (Utf8.decode s pos).2) : 128 ≤ (s.get! (pos + k)).toNat := by
  have h0 : 128 ≤ (s.get! (pos + 0)).toNat := by rw [get_at s pos h]; exact ha
  have hn : ¬ (s.get! (pos + 0)).toNat < 128 := by omega
  simp only [Utf8.decode, hn, if_false] at hk
  have c : k = 0 ∨ k = 1 ∨ k = 2 ∨ k = 3 ∨ 4 ≤ k := by omega
  rcases c with rfl | rfl | rfl | rfl | hc
  · exact h0
  all_goals
    revert hk
    repeat' split
    all_goals intro hk
    all_goals simp_all
    all_goals omega
theorem iterAt_heap {w : World} {k : Nat} {S : ByteArray} {p q : Nat} (h : w.heap[k]? = some (.stringIter S p)) : (w.iterAt k S q).heap[k]? = some (.stringIter S q) := by
  have hl := (Array.getElem?_eq_some_iff.1 h).1
  simp [World.iterAt, Array.getElem?_setIfInBounds, hl]
theorem iterAt_below {B k : Nat} {w w2 : World} (h : Below B w w2) (hB : B ≤ k) (S : ByteArray) (q : Nat) : Below B w (w2.iterAt k S q) :=
  ⟨h.os, h.tape, h.output, by simp [World.iterAt]; exact h.size, fun j hj => by
    rw [show (w2.iterAt k S q).heap[j]? = w2.heap[j]? by simp [World.iterAt, Array.getElem?_setIfInBounds]; intro e; omega]
    exact h.block j hj⟩
theorem slash_no {cs : List UInt8} (hcs : slashes cs) (c : UInt8) (h : 128 ≤ c.toNat) : cs.contains c = false := by
  have key : ∀ i : Fin 256, 128 ≤ i.val → ([47, 63, 35] : List UInt8).contains (UInt8.ofNat i.val) = false ∧ ([63, 35] : List UInt8).contains (UInt8.ofNat i.val) = false ∧ ([32, 9] : List UInt8).contains (UInt8.ofNat i.val) = false := by decide +kernel
  have := key ⟨c.toNat, c.toNat_lt⟩ h
  simp only [UInt8.ofNat_toNat] at this
  rcases hcs with rfl | rfl | rfl
  · exact this.1
  · exact this.2.1
  · exact this.2.2
theorem ba_get (s : List UInt8) (j : Nat) (b : UInt8) (h : s[j]? = some b) : (ByteArray.mk s.toArray).get! j = b := by
  obtain ⟨hl, rfl⟩ := List.getElem?_eq_some_iff.1 h
  show (s.toArray)[j]! = _
  simp [hl]
theorem noAny_run {s cs : List UInt8} (hcs : slashes cs) {i : Nat} (h : Lib.NoAny s cs i) (hi : i < (ByteArray.mk s.toArray).size) (ha : 128 ≤ ((ByteArray.mk s.toArray)[i]'hi).toNat) : Lib.NoAny s cs (i + (Utf8.decode ⟨s.toArray⟩ i).2) := fun j b hj hb => by
  by_cases e : j < i
  · exact h j b e hb
  · have hk := decode_run ⟨s.toArray⟩ i hi ha (j - i) (by omega)
    rw [show i + (j - i) = j by omega, ba_get s j b hb] at hk
    exact slash_no hcs b hk
set_option maxHeartbeats 4000000 in
theorem indexAny_any (s cs : List UInt8) (hs : s.length ≤ 4294967000) (hcs : slashes cs) (w : World) :
    Calls Tryz.prog 37 #[.string ⟨s.toArray⟩, .string ⟨cs.toArray⟩] w fun e w' => e = .returned (.int .i64 (Lib.indexAny s cs)) ∧ Below w.heap.size w w' := by
  have hsz : (ByteArray.mk s.toArray).size = s.length := by simp [ByteArray.size]
  by_cases h8 : 8 < s.length
  · have hca : ∀ (j : Nat) b, cs[j]? = some b → b.toNat < 128 := fun j b hb => by
      rcases Nat.lt_or_ge b.toNat 128 with h | h
      · exact h
      · have := slash_no hcs b h
        have hm := List.mem_of_getElem? hb
        rw [List.contains_eq_mem] at this
        simp [hm] at this
    refine (Tryz.strings_IndexAny_long (fun w => by kernel_rfl) ⟨s.toArray⟩ ⟨cs.toArray⟩ w (by rcases hcs with rfl | rfl | rfl <;> decide) (by rw [hsz]; exact h8) (by rw [hsz]; omega) (by rcases hcs with rfl | rfl | rfl <;> decide) (by simpa using hca)).mono fun e w' ⟨e1, e2⟩ => ⟨by simpa using e1, ?_⟩
    rw [e2]
    exact (by repeat (first | exact Below.refl _ _ | assumption | refine below_grown ?_ (by first | omega | (simp [go_sem]; done) | (simp [go_sem] <;> omega)) _ | refine Below.alloc ?_ (by first | omega | (simp [go_sem]; done) | (simp [go_sem] <;> omega)) _ | refine below_bytesW ?_ (by first | omega | (simp [go_sem]; done) | (simp [go_sem] <;> omega)) _ | refine Below.drew ?_ | refine below_drewN ?_ _))
  · have h8z : decide ((8 : Int) < (s.length : Int)) = false := decide_eq_false (by omega)
    have HU : Hid (∀ w, Calls Tryz.prog 66 #[.int .i64 (s.length : Int)] w fun e w' => e = .returned (.bool false) ∧ w = w') := fun w =>
      (Tryz.strings_shouldUseASCIISet (s.length : Int) w).mono fun e w' ⟨e1, e2⟩ => ⟨by rw [e1, h8z], e2.symm⟩
    have HR : Hid (∀ (r : Nat) (w : World), 128 ≤ r → r ≤ 2147483647 → Calls Tryz.prog 65 #[.string ⟨cs.toArray⟩, .int .i32 (r : Int)] w fun e w' => e = .returned (.int .i64 (-1)) ∧ Below w.heap.size w w') := fun r w a b => indexRune_high cs hcs r a b w
    have HRA : Hid (∀ (x : UInt8) (w : World), x.toNat < 128 → Calls Tryz.prog 65 #[.string ⟨cs.toArray⟩, .int .i32 (x.toNat : Int)] w fun e w' => e = .returned (.int .i64 (Lib.indexByte cs x)) ∧ w = w') := fun x w a =>
      (Tryz.strings_IndexRune_ascii ⟨cs.toArray⟩ (x.toNat : Int) w (by omega) (by omega)).mono fun e w' ⟨e1, e2⟩ => ⟨by rw [e1]; simp, e2.symm⟩
    have HCS := Lib.hid hcs
    have hn1 : ((cs.length : Int) == 1) = false := by rcases hcs with rfl | rfl | rfl <;> decide
    have hemp : cs.isEmpty = false := by rcases hcs with rfl | rfl | rfl <;> rfl
    have hemp2 : (cs == []) = false := by rcases hcs with rfl | rfl | rfl <;> rfl
    clear hcs
    go_enter Tryz.func37, Tryz.ntmps37
    go_wp2_with (go_at_call 66; refine (HU.out _).mono ?_; intro e w' h; obtain ⟨rfl, h2⟩ := h; subst w')
    obtain ⟨B, hB⟩ : ∃ B, B = w.heap.size := ⟨_, rfl⟩
    go_loopg [9, 10] s.length (fun g _ _ wx => ∃ i : Nat, s.length ≤ i + g ∧ wx.heap[w.heap.size]? = some (.stringIter ⟨s.toArray⟩ i) ∧ Below w.heap.size w wx ∧ Lib.NoAny s cs i)
    case atStart => exact ⟨0, by omega, World.iter_heap _ _ _, (Below.refl _ _).alloc (Nat.le_refl _) _, Lib.NoAny.zero _ _⟩
    case round =>
      obtain ⟨i, hig, hit, hb, hno⟩ := hrel
      have HN := Lib.hid hno
      have HIT := Lib.hid hit
      have HB := Lib.hid hb
      clear hno hb
      by_cases hi : i < s.length
      · cases gk with
        | zero => omega
        | succ g =>
          have hi' : i < (ByteArray.mk s.toArray).size := by rw [hsz]; exact hi
          obtain ⟨x, hx⟩ : ∃ x : UInt8, (ByteArray.mk s.toArray)[i]'hi' = x := ⟨_, rfl⟩
          have hxs : s[i]? = some x := by rw [List.getElem?_eq_getElem hi, ← hx]; rfl
          by_cases h128 : x.toNat < 128
          · have hnx := fun ty => Lib.run_next_ascii_at (P := Tryz.prog) _ w.heap.size ⟨s.toArray⟩ i ty hit hi' (by rw [hx]; exact h128)
            rw [hx] at hnx
            have HXS := Lib.hid hxs
            have hcon := Lib.contains_iff_indexByte cs x
            have HRX := Lib.hid (fun w => HRA.out x w h128)
            clear hit hx hxs
            cases hin : cs.contains x
            · rw [hin] at hcon
              have hlt : ¬ ((0 : Int) ≤ Lib.indexByte cs x) := of_decide_eq_false hcon.symm
              clear hcon
              go_wp2_with (go_at_call 65; refine (HRX.out _).mono ?_; intro e w' h; obtain ⟨rfl, h2⟩ := h; subst w')
              go_roundg g
              case measure => omega
              case rel => exact ⟨i + 1, by omega, iterAt_heap HIT.out, iterAt_below HB.out (Nat.le_refl _) _ _, HN.out.succ HXS.out hin⟩
            · rw [hin] at hcon
              have hge : (0 : Int) ≤ Lib.indexByte cs x := of_decide_eq_true hcon.symm
              have HH : Hid (Lib.indexAny s cs = i) := Lib.indexAny_hit HN.out HXS.out hin
              clear hcon
              go_wp2_with (go_at_call 65; refine (HRX.out _).mono ?_; intro e w' h; obtain ⟨rfl, h2⟩ := h; subst w')
              go_ret
              exact ⟨by rw [HH.out]; rfl, iterAt_below HB.out (Nat.le_refl _) _ _⟩
          · have hnx := fun ty => Lib.run_next_any_at (P := Tryz.prog) _ w.heap.size ⟨s.toArray⟩ i ty hit hi'
            obtain ⟨d1, d2⟩ := decode_high ⟨s.toArray⟩ i hi' (by rw [hx]; omega)
            have d3 := decode_le ⟨s.toArray⟩ i
            have HNR := Lib.hid (noAny_run HCS.out HN.out hi' (by rw [hx]; omega))
            generalize (Utf8.decode ⟨s.toArray⟩ i).1 = r at *
            generalize (Utf8.decode ⟨s.toArray⟩ i).2 = v at *
            have HRX := Lib.hid (fun w => HR.out r w d1 d3)
            clear hit hx hxs
            have hkl := (Array.getElem?_eq_some_iff.1 HIT.out).1
            go_wp2_with (go_at_call 65; refine (HRX.out _).mono ?_; rintro e w1 ⟨rfl, hb1⟩; obtain ⟨p1, rfl⟩ := grown_of hb1; clear hb1)
            go_roundg g
            case measure => omega
            case rel => exact ⟨i + v, by omega, ((below_grown' _ _).block _ (Array.getElem?_eq_some_iff.1 (iterAt_heap HIT.out)).1).trans (iterAt_heap HIT.out), below_grown (iterAt_below HB.out (Nat.le_refl _) _ _) (by simp [World.iterAt]; omega) _, HNR.out⟩
      · have hnx := fun ty => Lib.run_next_end_at (P := Tryz.prog) _ w.heap.size ⟨s.toArray⟩ i ty hit (by rw [hsz]; exact hi)
        have HE : Hid (Lib.indexAny s cs = -1) := Lib.indexAny_none (fun j b hj hb => HN.out j b (by omega) hb)
        clear hit
        go_wp2
        go_ret
        exact ⟨by rw [HE.out]; rfl, HB.out⟩
end
end Go.Proofs.YtlegjkjicdpeeaaGreatDoor
