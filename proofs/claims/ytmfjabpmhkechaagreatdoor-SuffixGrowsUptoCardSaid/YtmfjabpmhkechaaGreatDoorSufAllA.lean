/- Merged: IdxAnyT, RuleAll, Fault, HostBack, RuleCol, RuleFileP, RuleFileR, RuleMap, RuleFileW, RuleSame, SufT, SufP, SufM, SufE, SufN, SufNew. -/
import Derived.Test.YtmfjabpmhkechaaGreatDoorRuleP
import Derived.Stop.FmtQuoteTie
import Derived.Laws.RangeAny
import Derived.Scope
import Derived.WalkMore
import Derived.Lib.OthersKept
import Derived.Test.YtmfjabpmhkechaaGreatDoorSufM1
import Derived.Deep.DeepCutAuto
import Derived.Test.YtmfjabpmhkechaaGreatDoorHost
import Derived.Test.YtmfjabpmhkechaaGreatDoorVar
import Derived.Test.YtmfjabpmhkechaaGreatDoorHostQ
import Derived.Test.YtmfjabpmhkechaaGreatDoorLines
import Derived.Test.YtmfjabpmhkechaaGreatDoorLinesR
import Derived.Maps.Own
import Derived.WideKeyEntry
import Derived.DeepKeys4
namespace Go.Proofs.YtmfjabpmhkechaaGreatDoor
section
section
open Go Go.RowKit
set_option maxRecDepth 20000
set_option linter.unusedSimpArgs false
set_option linter.unusedVariables false

def slashes (cs : List UInt8) : Prop := cs = [47, 63, 35] ∨ cs = [63, 35] ∨ cs = [32, 9]
theorem enc_high (r : Nat) (h : 128 ≤ r) : ∃ (A : List UInt8) (d : UInt8), Utf8.encode (r : Int) = ⟨(A ++ [d]).toArray⟩ ∧ (128 : Int) ≤ d.toNat ∧ (A.length = 1 ∨ A.length = 2 ∨ A.length = 3) := by
  have mk : ∀ (B : ByteArray) (l : List UInt8), B.data.toList = l → B = ⟨l.toArray⟩ := fun B l e => by
    cases B with
    | mk a => simp at e; subst e; simp
  have dd : ∀ k : Nat, (128 : Int) ≤ (UInt8.ofNat (128 + k % 64)).toNat := fun k => by
    rw [UInt8.toNat_ofNat']; omega
  by_cases c2 : r < 2048
  · exact ⟨[UInt8.ofNat (192 + r / 64)], _, mk _ _ (Extern.FmtText.enc2 r (by omega) c2), dd r, .inl rfl⟩
  · by_cases hb : (55296 ≤ r ∧ r ≤ 57343) ∨ 1114111 < r
    · exact ⟨[239, 191], 189, mk _ _ (Extern.FmtText.encBad r hb), by decide, .inr (.inl rfl)⟩
    · by_cases c3 : r < 65536
      · exact ⟨[UInt8.ofNat (224 + r / 4096), UInt8.ofNat (128 + r / 64 % 64)], _, mk _ _ (Extern.FmtText.enc3 r c2 c3 (by omega)), dd r, .inr (.inl rfl)⟩
      · exact ⟨[UInt8.ofNat (240 + r / 262144), UInt8.ofNat (128 + r / 4096 % 64), UInt8.ofNat (128 + r / 64 % 64)], _, mk _ _ (Extern.FmtText.enc4 r c3 (by omega)), dd r, .inr (.inr rfl)⟩
theorem valid_any (r : Int) (w : World) : Calls Tryz.prog 96 #[.int .i32 r] w fun e w' => e = .returned (.bool (Lib.validRune r)) ∧ w = w' :=
  (Tryz.utf8_ValidRune r w).mono fun e w' ⟨h1, h2⟩ => ⟨h1, h2.symm⟩
theorem ix_none (b : UInt8) : ∀ l : List UInt8, b ∉ l → Lib.indexByte l b = -1
  | [], _ => rfl
  | c :: l, h => by
    have ih := ix_none b l (fun hm => h (by simp [hm]))
    have hc : (c == b) = false := by rw [beq_eq_false_iff_ne]; rintro rfl; exact h (by simp)
    rw [Lib.indexByte, hc, ih]; rfl
set_option maxHeartbeats 4000000 in
theorem indexRune_high (cs : List UInt8) (hcs : slashes cs) (r : Nat) (h1 : 128 ≤ r) (h2 : r ≤ 2147483647) (w : World) :
    Calls Tryz.prog 64 #[.string ⟨cs.toArray⟩, .int .i32 (r : Int)] w fun e w' => e = .returned (.int .i64 (-1)) ∧ Below w.heap.size w w' := by
  have k1 : ¬ (r : Int) < 128 := by omega
  have k2 : (0 : Int) ≤ (r : Int) := by omega
  have HV := Lib.hid (fun w => valid_any (r : Int) w)
  by_cases hE : r = 65533
  · subst hE
    have hasc : ∀ (i : Nat) (h : i < cs.length), (cs[i]'h).toNat < 128 := by
      rcases hcs with rfl | rfl | rfl
      · intro i h
        match i, h with
        | 0, _ => exact (by decide : (47 : UInt8).toNat < 128)
        | 1, _ => exact (by decide : (63 : UInt8).toNat < 128)
        | 2, _ => exact (by decide : (35 : UInt8).toNat < 128)
      · intro i h
        match i, h with
        | 0, _ => exact (by decide : (63 : UInt8).toNat < 128)
        | 1, _ => exact (by decide : (35 : UInt8).toNat < 128)
      · intro i h
        match i, h with
        | 0, _ => exact (by decide : (32 : UInt8).toNat < 128)
        | 1, _ => exact (by decide : (9 : UInt8).toNat < 128)
    have HAS := Lib.hid hasc
    clear hasc hcs HV
    have hsz : (ByteArray.mk cs.toArray).size = cs.length := by simp [ByteArray.size]
    go_enter Tryz.func64, Tryz.ntmps64
    go_wp2
    go_loopg [5, 6] cs.length (fun g _ _ wx => ∃ i : Nat, i + g = cs.length ∧ wx = w.iter ⟨cs.toArray⟩ i)
    case atStart => exact ⟨0, by omega, rfl⟩
    case round =>
      obtain ⟨i, hig, rfl⟩ := hrel
      cases gk with
      | zero =>
        obtain rfl : i = cs.length := by omega
        have hnx := run_next_end (P := Tryz.prog) w ⟨cs.toArray⟩ cs.length
        rw [hsz] at hnx
        have hnx2 := fun ty => hnx ty (Nat.lt_irrefl _)
        clear hnx
        go_wp2
        go_ret
        exact ⟨rfl, (Below.refl _ _).alloc (Nat.le_refl _) _⟩
      | succ g =>
        have hi : i < cs.length := by omega
        obtain ⟨x, hx⟩ : ∃ x : UInt8, (ByteArray.mk cs.toArray)[i]'(by rw [hsz]; exact hi) = x := ⟨_, rfl⟩
        have hx128 : x.toNat < 128 := by
          rw [← hx]
          exact HAS.out i hi
        have hnx := fun ty => run_next_ascii (P := Tryz.prog) w ⟨cs.toArray⟩ i ty (by rw [hsz]; exact hi) (by rw [hx]; exact hx128)
        rw [hx] at hnx
        have hne : ((x.toNat : Int) == 65533) = false := by rw [beq_eq_false_iff_ne]; omega
        go_wp2
        go_roundg g
        case measure => omega
        case rel => exact ⟨i + 1, by omega, rfl⟩
  · have hE' : (((r : Nat) : Int) == 65533) = false := by rw [beq_eq_false_iff_ne]; omega
    cases hv : Lib.validRune (r : Int)
    · rw [hv] at HV
      rcases hcs with rfl | rfl | rfl
      all_goals
        go_enter Tryz.func64, Tryz.ntmps64
        go_wp2_with (go_at_call 96; refine (HV.out _).mono ?_; intro e w' h; obtain ⟨rfl, h2⟩ := h; subst w')
        go_ret
        exact ⟨rfl, (by repeat (first | exact Below.refl _ _ | assumption | refine below_grown ?_ (by first | omega | (simp [go_sem]; done) | (simp [go_sem] <;> omega)) _ | refine Below.alloc ?_ (by first | omega | (simp [go_sem]; done) | (simp [go_sem] <;> omega)) _ | refine below_bytesW ?_ (by first | omega | (simp [go_sem]; done) | (simp [go_sem] <;> omega)) _ | refine Below.drew ?_ | refine below_drewN ?_ _))⟩
    · rw [hv] at HV
      obtain ⟨A, d, hAd, hd, hl⟩ := enc_high r h1
      have HI : Hid (∀ (l : List UInt8) (w : World), d ∉ l → Calls Tryz.prog 95 #[.string ⟨l.toArray⟩, .int .u8 (d.toNat : Int)] w fun e w' => e = .returned (.int .i64 (-1)) ∧ w = w') := fun l w hn => by
        refine (Tryz.strings_IndexByte ⟨l.toArray⟩ (d.toNat : Int) w).mono fun e w1 ⟨he, hw⟩ => ⟨?_, hw.symm⟩
        rw [he]
        have : Lib.indexByte l d = -1 := ix_none d l hn
        simp [this]
      have q1 : ((35 : Int) != (d.toNat : Int)) = true := by rw [bne_iff_ne]; omega
      have q2 : ((63 : Int) != (d.toNat : Int)) = true := by rw [bne_iff_ne]; omega
      have q4 : ((9 : Int) != (d.toNat : Int)) = true := by rw [bne_iff_ne]; omega
      have q5 : ((32 : Int) != (d.toNat : Int)) = true := by rw [bne_iff_ne]; omega
      have q3 : ((47 : Int) != (d.toNat : Int)) = true := by rw [bne_iff_ne]; omega
      have hw2 : IntKind.i64.wrap 2 = 2 := by decide
      have hw3 : IntKind.i64.wrap 3 = 3 := by decide
      have dn0 : d ∉ ([] : List UInt8) := by simp
      have dn1 : d ∉ ([35] : List UInt8) := by intro h; rw [List.mem_singleton] at h; subst h; revert hd; decide
      have dn9 : d ∉ ([9] : List UInt8) := by intro h; rw [List.mem_singleton] at h; subst h; revert hd; decide
      have hA : (∃ a, A = [a]) ∨ (∃ a b, A = [a, b]) ∨ (∃ a b c, A = [a, b, c]) := by
        match A, hl with
        | [a], _ => exact .inl ⟨a, rfl⟩
        | [a, b], _ => exact .inr (.inl ⟨a, b, rfl⟩)
        | [a, b, c], _ => exact .inr (.inr ⟨a, b, c, rfl⟩)
        | [], h => exact absurd h (by simp)
        | _ :: _ :: _ :: _ :: _, h => exact absurd h (by simp)
      clear hl
      rcases hA with ⟨a, rfl⟩ | ⟨a, b, rfl⟩ | ⟨a, b, c, rfl⟩
      · rcases hcs with rfl | rfl | rfl
        · go_enter Tryz.func64, Tryz.ntmps64
          go_wp2_with (go_at_call 96; refine (HV.out _).mono ?_; intro e w' h; obtain ⟨rfl, h2⟩ := h; subst w')
          refine wp_scope_straight ?_
          go_wp2
          go_loop [9, 10, 11, 12] (fun i f _ _ => i = .int .i64 1 ∧ f = .int .i64 0) (fun _ _ _ _ => 0)
          case atStart => exact ⟨rfl, rfl⟩
          case round =>
            obtain ⟨rfl, rfl⟩ := hrel
            go_wp2
            refine wp_scope_straight ?_
            go_wp2
            go_region
            go_wp2
            go_region_law (first | (go_simp; with_reducible refine (HI.out _ _ (by first | exact dn0 | exact dn1 | exact dn9 | (rw [show ByteArray.empty.1.toList = ([] : List UInt8) from rfl]; exact dn0))).mono ?_; intro e w' h; obtain ⟨rfl, h2⟩ := h; subst w'; dsimp only))
            all_goals
              go_wp2
              dsimp +zetaDelta only [Exit.inBlock, Exit.noGoto, Exit.then]
              go_ret
              exact ⟨rfl, (by repeat (first | exact Below.refl _ _ | assumption | refine below_grown ?_ (by first | omega | (simp [go_sem]; done) | (simp [go_sem] <;> omega)) _ | refine Below.alloc ?_ (by first | omega | (simp [go_sem]; done) | (simp [go_sem] <;> omega)) _ | refine below_bytesW ?_ (by first | omega | (simp [go_sem]; done) | (simp [go_sem] <;> omega)) _ | refine Below.drew ?_ | refine below_drewN ?_ _))⟩
        · go_enter Tryz.func64, Tryz.ntmps64
          go_wp2_with (go_at_call 96; refine (HV.out _).mono ?_; intro e w' h; obtain ⟨rfl, h2⟩ := h; subst w')
          refine wp_scope_straight ?_
          go_wp2
          go_loop [9, 10, 11, 12] (fun i f _ _ => i = .int .i64 1 ∧ f = .int .i64 0) (fun _ _ _ _ => 0)
          case atStart => exact ⟨rfl, rfl⟩
          case round =>
            obtain ⟨rfl, rfl⟩ := hrel
            go_wp2
            refine wp_scope_straight ?_
            go_wp2
            go_region
            go_wp2
            go_region_law (first | (go_simp; with_reducible refine (HI.out _ _ (by first | exact dn0 | exact dn1 | exact dn9 | (rw [show ByteArray.empty.1.toList = ([] : List UInt8) from rfl]; exact dn0))).mono ?_; intro e w' h; obtain ⟨rfl, h2⟩ := h; subst w'; dsimp only))
            all_goals
              go_wp2
              dsimp +zetaDelta only [Exit.inBlock, Exit.noGoto, Exit.then]
              go_ret
              exact ⟨rfl, (by repeat (first | exact Below.refl _ _ | assumption | refine below_grown ?_ (by first | omega | (simp [go_sem]; done) | (simp [go_sem] <;> omega)) _ | refine Below.alloc ?_ (by first | omega | (simp [go_sem]; done) | (simp [go_sem] <;> omega)) _ | refine below_bytesW ?_ (by first | omega | (simp [go_sem]; done) | (simp [go_sem] <;> omega)) _ | refine Below.drew ?_ | refine below_drewN ?_ _))⟩
        · go_enter Tryz.func64, Tryz.ntmps64
          go_wp2_with (go_at_call 96; refine (HV.out _).mono ?_; intro e w' h; obtain ⟨rfl, h2⟩ := h; subst w')
          refine wp_scope_straight ?_
          go_wp2
          go_loop [9, 10, 11, 12] (fun i f _ _ => i = .int .i64 1 ∧ f = .int .i64 0) (fun _ _ _ _ => 0)
          case atStart => exact ⟨rfl, rfl⟩
          case round =>
            obtain ⟨rfl, rfl⟩ := hrel
            go_wp2
            refine wp_scope_straight ?_
            go_wp2
            go_region
            go_wp2
            go_region_law (first | (go_simp; with_reducible refine (HI.out _ _ (by first | exact dn0 | exact dn1 | exact dn9 | (rw [show ByteArray.empty.1.toList = ([] : List UInt8) from rfl]; exact dn0))).mono ?_; intro e w' h; obtain ⟨rfl, h2⟩ := h; subst w'; dsimp only))
            all_goals
              go_wp2
              dsimp +zetaDelta only [Exit.inBlock, Exit.noGoto, Exit.then]
              go_ret
              exact ⟨rfl, (by repeat (first | exact Below.refl _ _ | assumption | refine below_grown ?_ (by first | omega | (simp [go_sem]; done) | (simp [go_sem] <;> omega)) _ | refine Below.alloc ?_ (by first | omega | (simp [go_sem]; done) | (simp [go_sem] <;> omega)) _ | refine below_bytesW ?_ (by first | omega | (simp [go_sem]; done) | (simp [go_sem] <;> omega)) _ | refine Below.drew ?_ | refine below_drewN ?_ _))⟩
      · rcases hcs with rfl | rfl | rfl
        · go_enter Tryz.func64, Tryz.ntmps64
          go_wp2_with (go_at_call 96; refine (HV.out _).mono ?_; intro e w' h; obtain ⟨rfl, h2⟩ := h; subst w')
          refine wp_scope_straight ?_
          go_wp2
          go_loop [9, 10, 11, 12] (fun i f _ _ => i = .int .i64 2 ∧ f = .int .i64 0) (fun _ _ _ _ => 0)
          case atStart => exact ⟨rfl, rfl⟩
          case round =>
            obtain ⟨rfl, rfl⟩ := hrel
            go_wp2
            refine wp_scope_straight ?_
            go_wp2
            go_region
            go_wp2
            go_region_law (first | (go_simp; with_reducible refine (HI.out _ _ (by first | exact dn0 | exact dn1 | exact dn9 | (rw [show ByteArray.empty.1.toList = ([] : List UInt8) from rfl]; exact dn0))).mono ?_; intro e w' h; obtain ⟨rfl, h2⟩ := h; subst w'; dsimp only))
            all_goals
              go_wp2
              dsimp +zetaDelta only [Exit.inBlock, Exit.noGoto, Exit.then]
              go_ret
              exact ⟨rfl, (by repeat (first | exact Below.refl _ _ | assumption | refine below_grown ?_ (by first | omega | (simp [go_sem]; done) | (simp [go_sem] <;> omega)) _ | refine Below.alloc ?_ (by first | omega | (simp [go_sem]; done) | (simp [go_sem] <;> omega)) _ | refine below_bytesW ?_ (by first | omega | (simp [go_sem]; done) | (simp [go_sem] <;> omega)) _ | refine Below.drew ?_ | refine below_drewN ?_ _))⟩
        · go_enter Tryz.func64, Tryz.ntmps64
          go_wp2_with (go_at_call 96; refine (HV.out _).mono ?_; intro e w' h; obtain ⟨rfl, h2⟩ := h; subst w')
          refine wp_scope_straight ?_
          go_wp2
          go_loop [9, 10, 11, 12] (fun i f _ _ => i = .int .i64 2 ∧ f = .int .i64 0) (fun _ _ _ _ => 0)
          case atStart => exact ⟨rfl, rfl⟩
          case round =>
            obtain ⟨rfl, rfl⟩ := hrel
            go_wp2
            go_ret
            exact ⟨rfl, (by repeat (first | exact Below.refl _ _ | assumption | refine below_grown ?_ (by first | omega | (simp [go_sem]; done) | (simp [go_sem] <;> omega)) _ | refine Below.alloc ?_ (by first | omega | (simp [go_sem]; done) | (simp [go_sem] <;> omega)) _ | refine below_bytesW ?_ (by first | omega | (simp [go_sem]; done) | (simp [go_sem] <;> omega)) _ | refine Below.drew ?_ | refine below_drewN ?_ _))⟩
        · go_enter Tryz.func64, Tryz.ntmps64
          go_wp2_with (go_at_call 96; refine (HV.out _).mono ?_; intro e w' h; obtain ⟨rfl, h2⟩ := h; subst w')
          refine wp_scope_straight ?_
          go_wp2
          go_loop [9, 10, 11, 12] (fun i f _ _ => i = .int .i64 2 ∧ f = .int .i64 0) (fun _ _ _ _ => 0)
          case atStart => exact ⟨rfl, rfl⟩
          case round =>
            obtain ⟨rfl, rfl⟩ := hrel
            go_wp2
            go_ret
            exact ⟨rfl, (by repeat (first | exact Below.refl _ _ | assumption | refine below_grown ?_ (by first | omega | (simp [go_sem]; done) | (simp [go_sem] <;> omega)) _ | refine Below.alloc ?_ (by first | omega | (simp [go_sem]; done) | (simp [go_sem] <;> omega)) _ | refine below_bytesW ?_ (by first | omega | (simp [go_sem]; done) | (simp [go_sem] <;> omega)) _ | refine Below.drew ?_ | refine below_drewN ?_ _))⟩
      · rcases hcs with rfl | rfl | rfl
        · go_enter Tryz.func64, Tryz.ntmps64
          go_wp2_with (go_at_call 96; refine (HV.out _).mono ?_; intro e w' h; obtain ⟨rfl, h2⟩ := h; subst w')
          refine wp_scope_straight ?_
          go_wp2
          go_loop [9, 10, 11, 12] (fun i f _ _ => i = .int .i64 3 ∧ f = .int .i64 0) (fun _ _ _ _ => 0)
          case atStart => exact ⟨rfl, rfl⟩
          case round =>
            obtain ⟨rfl, rfl⟩ := hrel
            go_wp2
            go_ret
            exact ⟨rfl, (by repeat (first | exact Below.refl _ _ | assumption | refine below_grown ?_ (by first | omega | (simp [go_sem]; done) | (simp [go_sem] <;> omega)) _ | refine Below.alloc ?_ (by first | omega | (simp [go_sem]; done) | (simp [go_sem] <;> omega)) _ | refine below_bytesW ?_ (by first | omega | (simp [go_sem]; done) | (simp [go_sem] <;> omega)) _ | refine Below.drew ?_ | refine below_drewN ?_ _))⟩
        · go_enter Tryz.func64, Tryz.ntmps64
          go_wp2_with (go_at_call 96; refine (HV.out _).mono ?_; intro e w' h; obtain ⟨rfl, h2⟩ := h; subst w')
          refine wp_scope_straight ?_
          go_wp2
          go_loop [9, 10, 11, 12] (fun i f _ _ => i = .int .i64 3 ∧ f = .int .i64 0) (fun _ _ _ _ => 0)
          case atStart => exact ⟨rfl, rfl⟩
          case round =>
            obtain ⟨rfl, rfl⟩ := hrel
            go_wp2
            go_ret
            exact ⟨rfl, (by repeat (first | exact Below.refl _ _ | assumption | refine below_grown ?_ (by first | omega | (simp [go_sem]; done) | (simp [go_sem] <;> omega)) _ | refine Below.alloc ?_ (by first | omega | (simp [go_sem]; done) | (simp [go_sem] <;> omega)) _ | refine below_bytesW ?_ (by first | omega | (simp [go_sem]; done) | (simp [go_sem] <;> omega)) _ | refine Below.drew ?_ | refine below_drewN ?_ _))⟩
        · go_enter Tryz.func64, Tryz.ntmps64
          go_wp2_with (go_at_call 96; refine (HV.out _).mono ?_; intro e w' h; obtain ⟨rfl, h2⟩ := h; subst w')
          refine wp_scope_straight ?_
          go_wp2
          go_loop [9, 10, 11, 12] (fun i f _ _ => i = .int .i64 3 ∧ f = .int .i64 0) (fun _ _ _ _ => 0)
          case atStart => exact ⟨rfl, rfl⟩
          case round =>
            obtain ⟨rfl, rfl⟩ := hrel
            go_wp2
            go_ret
            exact ⟨rfl, (by repeat (first | exact Below.refl _ _ | assumption | refine below_grown ?_ (by first | omega | (simp [go_sem]; done) | (simp [go_sem] <;> omega)) _ | refine Below.alloc ?_ (by first | omega | (simp [go_sem]; done) | (simp [go_sem] <;> omega)) _ | refine below_bytesW ?_ (by first | omega | (simp [go_sem]; done) | (simp [go_sem] <;> omega)) _ | refine Below.drew ?_ | refine below_drewN ?_ _))⟩
end

section
open Go Go.RowKit
set_option maxRecDepth 20000
set_option linter.unusedSimpArgs false
set_option linter.unusedVariables false

theorem decode_run (s : ByteArray) (pos : Nat) (h : pos < s.size) (ha : 128 ≤ (s[pos]'h).toNat) (k : Nat) (hk : k < (Utf8.decode s pos).2) : 128 ≤ (s.get! (pos + k)).toNat := by
  have h0 : 128 ≤ (s.get! (pos + 0)).toNat := by rw [get_at s pos h]; exact ha
  have hn : ¬ (s.get! (pos + 0)).toNat < 128 := by omega
  simp only [Utf8.decode, hn, if_false] at hk
  have c : k = 0 ∨ k = 1 ∨ k = 2 ∨ k = 3 ∨ 4 ≤ k := by omega
  rcases c with rfl | rfl | rfl | rfl | hc
  · exact h0
  all_goals
    revert hk
    repeat' split
    all_goals intro hk
    all_goals simp_all
    all_goals omega
theorem iterAt_heap {w : World} {k : Nat} {S : ByteArray} {p q : Nat} (h : w.heap[k]? = some (.stringIter S p)) : (w.iterAt k S q).heap[k]? = some (.stringIter S q) := by
  have hl := (Array.getElem?_eq_some_iff.1 h).1
  simp [World.iterAt, Array.getElem?_setIfInBounds, hl]
theorem iterAt_below {B k : Nat} {w w2 : World} (h : Below B w w2) (hB : B ≤ k) (S : ByteArray) (q : Nat) : Below B w (w2.iterAt k S q) :=
  ⟨h.os, h.tape, h.output, by simp [World.iterAt]; exact h.size, fun j hj => by
    rw [show (w2.iterAt k S q).heap[j]? = w2.heap[j]? by simp [World.iterAt, Array.getElem?_setIfInBounds]; intro e; omega]
    exact h.block j hj⟩
theorem slash_no {cs : List UInt8} (hcs : slashes cs) (c : UInt8) (h : 128 ≤ c.toNat) : cs.contains c = false := by
  have key : ∀ i : Fin 256, 128 ≤ i.val → ([47, 63, 35] : List UInt8).contains (UInt8.ofNat i.val) = false ∧ ([63, 35] : List UInt8).contains (UInt8.ofNat i.val) = false ∧ ([32, 9] : List UInt8).contains (UInt8.ofNat i.val) = false := by decide +kernel
  have := key ⟨c.toNat, c.toNat_lt⟩ h
  simp only [UInt8.ofNat_toNat] at this
  rcases hcs with rfl | rfl | rfl
  · exact this.1
  · exact this.2.1
  · exact this.2.2
theorem ba_get (s : List UInt8) (j : Nat) (b : UInt8) (h : s[j]? = some b) : (ByteArray.mk s.toArray).get! j = b := by
  obtain ⟨hl, rfl⟩ := List.getElem?_eq_some_iff.1 h
  show (s.toArray)[j]! = _
  simp [hl]
theorem noAny_run {s cs : List UInt8} (hcs : slashes cs) {i : Nat} (h : Lib.NoAny s cs i) (hi : i < (ByteArray.mk s.toArray).size) (ha : 128 ≤ ((ByteArray.mk s.toArray)[i]'hi).toNat) : Lib.NoAny s cs (i + (Utf8.decode ⟨s.toArray⟩ i).2) := fun j b hj hb => by
  by_cases e : j < i
  · exact h j b e hb
  · have hk := decode_run ⟨s.toArray⟩ i hi ha (j - i) (by omega)
    rw [show i + (j - i) = j by omega, ba_get s j b hb] at hk
    exact slash_no hcs b hk
set_option maxHeartbeats 4000000 in
theorem indexAny_any (s cs : List UInt8) (hs : s.length ≤ 4294967000) (hcs : slashes cs) (w : World) :
    Calls Tryz.prog 46 #[.string ⟨s.toArray⟩, .string ⟨cs.toArray⟩] w fun e w' => e = .returned (.int .i64 (Lib.indexAny s cs)) ∧ Below w.heap.size w w' := by
  have hsz : (ByteArray.mk s.toArray).size = s.length := by simp [ByteArray.size]
  by_cases h8 : 8 < s.length
  · have hca : ∀ (j : Nat) b, cs[j]? = some b → b.toNat < 128 := fun j b hb => by
      rcases Nat.lt_or_ge b.toNat 128 with h | h
      · exact h
      · have := slash_no hcs b h
        have hm := List.mem_of_getElem? hb
        rw [List.contains_eq_mem] at this
        simp [hm] at this
    refine (Tryz.strings_IndexAny_long (fun w => by kernel_rfl) ⟨s.toArray⟩ ⟨cs.toArray⟩ w (by rcases hcs with rfl | rfl | rfl <;> decide) (by rw [hsz]; exact h8) (by rw [hsz]; omega) (by rcases hcs with rfl | rfl | rfl <;> decide) (by simpa using hca)).mono fun e w' ⟨e1, e2⟩ => ⟨by simpa using e1, ?_⟩
    rw [e2]
    exact (by repeat (first | exact Below.refl _ _ | assumption | refine below_grown ?_ (by first | omega | (simp [go_sem]; done) | (simp [go_sem] <;> omega)) _ | refine Below.alloc ?_ (by first | omega | (simp [go_sem]; done) | (simp [go_sem] <;> omega)) _ | refine below_bytesW ?_ (by first | omega | (simp [go_sem]; done) | (simp [go_sem] <;> omega)) _ | refine Below.drew ?_ | refine below_drewN ?_ _))
  · have h8z : decide ((8 : Int) < (s.length : Int)) = false := decide_eq_false (by omega)
    have HU : Hid (∀ w, Calls Tryz.prog 65 #[.int .i64 (s.length : Int)] w fun e w' => e = .returned (.bool false) ∧ w = w') := fun w =>
      (Tryz.strings_shouldUseASCIISet (s.length : Int) w).mono fun e w' ⟨e1, e2⟩ => ⟨by rw [e1, h8z], e2.symm⟩
    have HR : Hid (∀ (r : Nat) (w : World), 128 ≤ r → r ≤ 2147483647 → Calls Tryz.prog 64 #[.string ⟨cs.toArray⟩, .int .i32 (r : Int)] w fun e w' => e = .returned (.int .i64 (-1)) ∧ Below w.heap.size w w') := fun r w a b => indexRune_high cs hcs r a b w
    have HRA : Hid (∀ (x : UInt8) (w : World), x.toNat < 128 → Calls Tryz.prog 64 #[.string ⟨cs.toArray⟩, .int .i32 (x.toNat : Int)] w fun e w' => e = .returned (.int .i64 (Lib.indexByte cs x)) ∧ w = w') := fun x w a =>
      (Tryz.strings_IndexRune_ascii ⟨cs.toArray⟩ (x.toNat : Int) w (by omega) (by omega)).mono fun e w' ⟨e1, e2⟩ => ⟨by rw [e1]; simp, e2.symm⟩
    have HCS := Lib.hid hcs
    have hn1 : ((cs.length : Int) == 1) = false := by rcases hcs with rfl | rfl | rfl <;> decide
    have hemp : cs.isEmpty = false := by rcases hcs with rfl | rfl | rfl <;> rfl
    have hemp2 : (cs == []) = false := by rcases hcs with rfl | rfl | rfl <;> rfl
    clear hcs
    go_enter Tryz.func46, Tryz.ntmps46
    go_wp2_with (go_at_call 65; refine (HU.out _).mono ?_; intro e w' h; obtain ⟨rfl, h2⟩ := h; subst w')
    obtain ⟨B, hB⟩ : ∃ B, B = w.heap.size := ⟨_, rfl⟩
    go_loopg [9, 10] s.length (fun g _ _ wx => ∃ i : Nat, s.length ≤ i + g ∧ wx.heap[w.heap.size]? = some (.stringIter ⟨s.toArray⟩ i) ∧ Below w.heap.size w wx ∧ Lib.NoAny s cs i)
    case atStart => exact ⟨0, by omega, World.iter_heap _ _ _, (Below.refl _ _).alloc (Nat.le_refl _) _, Lib.NoAny.zero _ _⟩
    case round =>
      obtain ⟨i, hig, hit, hb, hno⟩ := hrel
      have HN := Lib.hid hno
      have HIT := Lib.hid hit
      have HB := Lib.hid hb
      clear hno hb
      by_cases hi : i < s.length
      · cases gk with
        | zero => omega
        | succ g =>
          have hi' : i < (ByteArray.mk s.toArray).size := by rw [hsz]; exact hi
          obtain ⟨x, hx⟩ : ∃ x : UInt8, (ByteArray.mk s.toArray)[i]'hi' = x := ⟨_, rfl⟩
          have hxs : s[i]? = some x := by rw [List.getElem?_eq_getElem hi, ← hx]; rfl
          by_cases h128 : x.toNat < 128
          · have hnx := fun ty => Lib.run_next_ascii_at (P := Tryz.prog) _ w.heap.size ⟨s.toArray⟩ i ty hit hi' (by rw [hx]; exact h128)
            rw [hx] at hnx
            have HXS := Lib.hid hxs
            have hcon := Lib.contains_iff_indexByte cs x
            have HRX := Lib.hid (fun w => HRA.out x w h128)
            clear hit hx hxs
            cases hin : cs.contains x
            · rw [hin] at hcon
              have hlt : ¬ ((0 : Int) ≤ Lib.indexByte cs x) := of_decide_eq_false hcon.symm
              clear hcon
              go_wp2_with (go_at_call 64; refine (HRX.out _).mono ?_; intro e w' h; obtain ⟨rfl, h2⟩ := h; subst w')
              go_roundg g
              case measure => omega
              case rel => exact ⟨i + 1, by omega, iterAt_heap HIT.out, iterAt_below HB.out (Nat.le_refl _) _ _, HN.out.succ HXS.out hin⟩
            · rw [hin] at hcon
              have hge : (0 : Int) ≤ Lib.indexByte cs x := of_decide_eq_true hcon.symm
              have HH : Hid (Lib.indexAny s cs = i) := Lib.indexAny_hit HN.out HXS.out hin
              clear hcon
              go_wp2_with (go_at_call 64; refine (HRX.out _).mono ?_; intro e w' h; obtain ⟨rfl, h2⟩ := h; subst w')
              go_ret
              exact ⟨by rw [HH.out]; rfl, iterAt_below HB.out (Nat.le_refl _) _ _⟩
          · have hnx := fun ty => Lib.run_next_any_at (P := Tryz.prog) _ w.heap.size ⟨s.toArray⟩ i ty hit hi'
            obtain ⟨d1, d2⟩ := decode_high ⟨s.toArray⟩ i hi' (by rw [hx]; omega)
            have d3 := decode_le ⟨s.toArray⟩ i
            have HNR := Lib.hid (noAny_run HCS.out HN.out hi' (by rw [hx]; omega))
            generalize (Utf8.decode ⟨s.toArray⟩ i).1 = r at *
            generalize (Utf8.decode ⟨s.toArray⟩ i).2 = v at *
            have HRX := Lib.hid (fun w => HR.out r w d1 d3)
            clear hit hx hxs
            have hkl := (Array.getElem?_eq_some_iff.1 HIT.out).1
            go_wp2_with (go_at_call 64; refine (HRX.out _).mono ?_; rintro e w1 ⟨rfl, hb1⟩; obtain ⟨p1, rfl⟩ := grown_of hb1; clear hb1)
            go_roundg g
            case measure => omega
            case rel => exact ⟨i + v, by omega, ((below_grown' _ _).block _ (Array.getElem?_eq_some_iff.1 (iterAt_heap HIT.out)).1).trans (iterAt_heap HIT.out), below_grown (iterAt_below HB.out (Nat.le_refl _) _ _) (by simp [World.iterAt]; omega) _, HNR.out⟩
      · have hnx := fun ty => Lib.run_next_end_at (P := Tryz.prog) _ w.heap.size ⟨s.toArray⟩ i ty hit (by rw [hsz]; exact hi)
        have HE : Hid (Lib.indexAny s cs = -1) := Lib.indexAny_none (fun j b hj hb => HN.out j b (by omega) hb)
        clear hit
        go_wp2
        go_ret
        exact ⟨by rw [HE.out]; rfl, HB.out⟩
end
end

section
section
open Go Go.RowKit
set_option maxRecDepth 20000
set_option linter.unusedSimpArgs false
set_option linter.unusedVariables false

theorem mark_any (k : Int) (w : World) :
    Calls Tryz.prog 49 #[.int .i64 k] w fun e w' => e = .returned (.string ⟨(markL k).toArray⟩) ∧ w = w' := by
  by_cases h2 : k = 2
  · subst h2
    go_enter Tryz.func49, Tryz.ntmps49
    go_wp2
    go_ret
    exact ⟨rfl, rfl⟩
  · by_cases h3 : k = 3
    · subst h3
      go_enter Tryz.func49, Tryz.ntmps49
      go_wp2
      go_ret
      exact ⟨rfl, rfl⟩
    · have e : markL k = [] := by unfold markL; rw [if_neg h2, if_neg h3]
      rw [e]
      have e2 : (k == 2) = false := by rw [beq_eq_false_iff_ne]; exact h2
      have e3 : (k == 3) = false := by rw [beq_eq_false_iff_ne]; exact h3
      clear e
      go_enter Tryz.func49, Tryz.ntmps49
      go_wp2
      go_ret
      exact ⟨rfl, rfl⟩
theorem kind_cut (u : List UInt8) : (Lib.hasPrefix u [42, 46] = true → ruleKind u = (2, Lib.trimPrefix u [42, 46])) ∧
    (Lib.hasPrefix u [42, 46] = false → Lib.hasPrefix u [33] = true → ruleKind u = (3, Lib.trimPrefix u [33])) ∧
    (Lib.hasPrefix u [42, 46] = false → Lib.hasPrefix u [33] = false → ruleKind u = (1, u)) := by
  unfold ruleKind Lib.trimPrefix
  refine ⟨fun h => ?_, fun h1 h2 => ?_, fun h1 h2 => ?_⟩
  · rw [if_pos h, if_pos h]; rfl
  · rw [if_neg (by rw [h1]; decide), if_pos h2, if_pos h2]; rfl
  · rw [if_neg (by rw [h1]; decide), if_neg (by rw [h2]; decide)]
@[go_sem ↓ high] theorem run_kinds0 (w : World) : Sem.run Tryz.prog (Instr.index 97 (.agg #[.int .i64 2, .int .i64 3]) (.int .i64 0)) w = .ok (.int .i64 2) w := by kernel_rfl
@[go_sem ↓ high] theorem run_kinds1 (w : World) : Sem.run Tryz.prog (Instr.index 97 (.agg #[.int .i64 2, .int .i64 3]) (.int .i64 1)) w = .ok (.int .i64 3) w := by kernel_rfl
set_option maxHeartbeats 1000000 in
theorem kindOf_any (u : List UInt8) (hu : u.length ≤ maxLen) (w : World) :
    Calls Tryz.prog 47 #[.string ⟨u.toArray⟩] w fun e w' => e = .returned (.tuple #[.int .i64 (ruleKind u).1, .string ⟨(ruleKind u).2.toArray⟩]) ∧ w = w' := by
  obtain ⟨k1, k2, k3⟩ := kind_cut u
  have HC2 : Hid (∀ w, Calls Tryz.prog 68 #[.string ⟨u.toArray⟩, .string ⟨[42, 46].toArray⟩] w fun e w' => e = .returned (.tuple #[.string ⟨(Lib.trimPrefix u [42, 46]).toArray⟩, .bool (Lib.hasPrefix u [42, 46])]) ∧ w = w') := fun w => cutPre_any u [42, 46] w
  have HC3 : Hid (∀ w, Calls Tryz.prog 68 #[.string ⟨u.toArray⟩, .string ⟨[33].toArray⟩] w fun e w' => e = .returned (.tuple #[.string ⟨(Lib.trimPrefix u [33]).toArray⟩, .bool (Lib.hasPrefix u [33])]) ∧ w = w') := fun w => cutPre_any u [33] w
  have HM2 : Hid (∀ w, Calls Tryz.prog 49 #[.int .i64 2] w fun e w' => e = .returned (.string ⟨[42, 46].toArray⟩) ∧ w = w') := fun w => mark_any 2 w
  have HM3 : Hid (∀ w, Calls Tryz.prog 49 #[.int .i64 3] w fun e w' => e = .returned (.string ⟨[33].toArray⟩) ∧ w = w') := fun w => mark_any 3 w
  have K1 := Lib.hid k1
  have K2 := Lib.hid k2
  have K3 := Lib.hid k3
  clear k1 k2 k3
  generalize Lib.trimPrefix u [42, 46] = x2 at *
  generalize Lib.trimPrefix u [33] = x3 at *
  generalize Lib.hasPrefix u [42, 46] = p2 at *
  generalize Lib.hasPrefix u [33] = p3 at *
  generalize ruleKind u = r at *
  go_enter Tryz.func47, Tryz.ntmps47
  go_wp2
  go_loop [5, 6, 7, 9] (fun _ _ _ i => i = .int .i64 0 ∨ (p2 = false ∧ i = .int .i64 1) ∨ (p2 = false ∧ p3 = false ∧ i = .int .i64 2)) (fun _ _ _ i => 2 - (intOf i).toNat)
  case atStart => exact .inl rfl
  case round =>
    rcases hrel with rfl | ⟨rfl, rfl⟩ | ⟨rfl, rfl, rfl⟩
    · cases p2
      · go_wp2_with (first
          | (go_at_call 49; refine (HM2.out _).mono ?_; intro e w' h; obtain ⟨rfl, h2⟩ := h; subst w')
          | (go_at_call 68; refine (HC2.out _).mono ?_; intro e w' h; obtain ⟨rfl, h2⟩ := h; subst w'))
        go_round
        case rel => exact .inr (.inl ⟨by first | exact trivial | rfl, rfl⟩)
        case measure => simp [intOf]
      · obtain rfl := K1.out rfl
        go_wp2_with (first
          | (go_at_call 49; refine (HM2.out _).mono ?_; intro e w' h; obtain ⟨rfl, h2⟩ := h; subst w')
          | (go_at_call 68; refine (HC2.out _).mono ?_; intro e w' h; obtain ⟨rfl, h2⟩ := h; subst w'))
        go_ret2
        exact ⟨rfl, rfl⟩
    · cases p3
      · go_wp2_with (first
          | (go_at_call 49; refine (HM3.out _).mono ?_; intro e w' h; obtain ⟨rfl, h2⟩ := h; subst w')
          | (go_at_call 68; refine (HC3.out _).mono ?_; intro e w' h; obtain ⟨rfl, h2⟩ := h; subst w'))
        go_round
        case rel => exact .inr (.inr ⟨by first | exact trivial | rfl, by first | exact trivial | rfl, rfl⟩)
        case measure => simp [intOf]
      · obtain rfl := K2.out rfl rfl
        go_wp2_with (first
          | (go_at_call 49; refine (HM3.out _).mono ?_; intro e w' h; obtain ⟨rfl, h2⟩ := h; subst w')
          | (go_at_call 68; refine (HC3.out _).mono ?_; intro e w' h; obtain ⟨rfl, h2⟩ := h; subst w'))
        go_ret2
        exact ⟨rfl, rfl⟩
    · obtain rfl := K3.out rfl rfl
      go_wp2
      go_ret2
      exact ⟨rfl, rfl⟩
set_option maxHeartbeats 1000000 in
theorem ruleText_any (k : Int) (n : List UInt8) (hn : n.length ≤ 4294967000) (w : World) :
    Calls Tryz.prog 24 #[.agg (ruleV k n)] w fun e w' => e = .returned (.string ⟨(ruleTextL k n).toArray⟩) ∧ Below w.heap.size w w' := by
  have HM : Hid (∀ w, Calls Tryz.prog 49 #[.int .i64 k] w fun e w' => e = .returned (.string ⟨(markL k).toArray⟩) ∧ Below w.heap.size w w') := fun w => (mark_any k w).mono fun e w' ⟨h1, h2⟩ => ⟨h1, h2 ▸ Below.refl _ _⟩
  have hml : (markL k).length ≤ 2 := by
    unfold markL
    split
    · decide
    · split <;> decide
  have HT : Hid (ruleTextL k n = markL k ++ n) := rfl
  rw [HT.out]
  generalize markL k = mk at *
  have n1 : ¬ 9223372036854775807 < mk.length + n.length := by omega
  go_enter Tryz.func24, Tryz.ntmps24
  go_wp2
  refine wp_region_quiet_grown (by kernel_rfl) (by kernel_rfl) ?_
  repeat (quiet_step ((go_at_call 49; with_reducible exact quiet_grown (HM.out _))))
  refine wpQuiet_nil ?_; intro _ hw'; obtain ⟨pq, hw''⟩ := hw'; subst hw''
  go_wp2
  go_ret
  exact ⟨rfl, (by repeat (first | exact Below.refl _ _ | assumption | refine below_grown ?_ (by first | omega | (simp [go_sem]; done) | (simp [go_sem] <;> omega)) _ | refine Below.alloc ?_ (by first | omega | (simp [go_sem]; done) | (simp [go_sem] <;> omega)) _ | refine below_bytesW ?_ (by first | omega | (simp [go_sem]; done) | (simp [go_sem] <;> omega)) _ | refine Below.drew ?_ | refine below_drewN ?_ _))⟩
end

section
open Go Go.RowKit
set_option maxRecDepth 20000
set_option linter.unusedSimpArgs false
set_option linter.unusedVariables false

/-! ### Line -/
theorem ixAny_two' (r cs : List UInt8) : (Lib.indexAny r cs = -1 ∧ r.take (cutAny r cs) = r) ∨ ∃ k : Nat, Lib.indexAny r cs = k ∧ k < r.length ∧ r.take (cutAny r cs) = r.take k := by
  have h1 := Lib.indexAny_ge cs r
  have h2 : Lib.indexAny r cs < (r.length : Int) := by
    clear h1
    induction r with
    | nil => simp [Lib.indexAny]
    | cons x s ih =>
      unfold Lib.indexAny
      simp only [List.length_cons]
      split
      · omega
      · split
        · omega
        · omega
  unfold cutAny
  by_cases h : 0 ≤ Lib.indexAny r cs
  · exact .inr ⟨(Lib.indexAny r cs).toNat, by omega, by omega, by rw [if_pos h]⟩
  · exact .inl ⟨by omega, by rw [if_neg h, List.take_length]⟩
theorem parseE_cases' (s : List UInt8) : (parseOk s = true ∧ parseE s = 0) ∨ (parseOk s = false ∧ parseE s = 31) := by
  unfold parseE
  cases parseOk s
  · exact .inr ⟨rfl, rfl⟩
  · exact .inl ⟨rfl, rfl⟩
theorem hasPre_any' (s p : List UInt8) (w : World) : Calls Tryz.prog 45 #[.string ⟨s.toArray⟩, .string ⟨p.toArray⟩] w fun e w' => e = .returned (.bool (Lib.hasPrefix s p)) ∧ w = w' :=
  (Tryz.strings_HasPrefix ⟨s.toArray⟩ ⟨p.toArray⟩ w).mono fun e w' ⟨h1, h2⟩ => ⟨by simpa using h1, h2.symm⟩
theorem ret_cell_two {P : Program} {fn : Func} {p u x : Tmp} {ty : TypeId} {R : Ending → World → Prop} {a : Act} {w : World} (g : Nat) (cs : Array Value) (v v2 : Value) (h : fn.results = #[.cell p ty, .tmp u, .tmp x]) (hp : a.tmps.getD p undef = .pointer (some ⟨g, 0, none⟩)) (hv : a.tmps.getD u undef = v) (hx : a.tmps.getD x undef = v2) (hagg : isAggT P ty = true)
    (hr : hasRow w ⟨g, 0, none⟩ (P.cellsOf ty) = true) (hc : rowAt w ⟨g, 0, none⟩ (P.cellsOf ty) = cs) (hd : a.defers = []) (hR : R (.returned (.tuple #[.agg cs, v, v2])) w) : bodyPost P fn R .ret a w := by
  refine bodyPost_ret (v := .tuple #[.agg cs, v, v2]) ?_ hd hR
  have hp' : a.tmps[p]?.getD undef = .pointer (some ⟨g, 0, none⟩) := by simpa using hp
  have hv' : a.tmps[u]?.getD undef = v := by simpa using hv
  have hx' : a.tmps[x]?.getD undef = v2 := by simpa using hx
  have := run_loadVar_agg (P := P) hagg ⟨g, 0, none⟩ w hr
  rw [hc] at this
  simp [results, h, hp', hv', hx', asAddr, this]
set_option maxRecDepth 100000 in
set_option maxHeartbeats 4000000 in
theorem ruleLine_any (s : List UInt8) (hs : s.length ≤ 1000000000) (m : Int) (w : World) (hm : HasMax m w) (htz : HasTz w) (hd : HasDec w) :
    Calls Tryz.prog 23 #[.string ⟨s.toArray⟩] w fun e w' => e = .returned (.tuple #[.agg (ruleV (ruleOut s).1.1 (ruleOut s).1.2), .bool (ruleOut s).2.1, .int .i64 (ruleOut s).2.2]) ∧ Below w.heap.size w w' := by
  have HT : Hid (∀ w, Calls Tryz.prog 44 #[.string ⟨s.toArray⟩] w fun e w' => e = .returned (.string ⟨(trimL s).toArray⟩) ∧ Below w.heap.size w w') := fun w => trim_any s (by unfold maxLen; omega) w
  have htl : (trimL s).length ≤ s.length := trimL_length s
  rcases rule_ways s with ⟨h1, hO⟩ | ⟨h1, h2, hO⟩ | ⟨h1, h2, hW⟩
  · rw [hO]
    rw [h1] at HT
    clear hO h1
    go_enter Tryz.func23, Tryz.ntmps23
    go_wp2_with (go_at_call 44; refine (HT.out _).mono ?_; rintro e w1 ⟨rfl, hb1⟩; obtain ⟨p1, rfl⟩ := grown_of hb1; clear hb1)
    exact ret_cell_two w.heap.size (ruleV 0 []) (.bool false) (.int .i64 0) rfl rfl rfl rfl agg_rule (by simp [go_sem]) (by simp [go_sem]) rfl ⟨rfl, below_setRow (by repeat (first | exact Below.refl _ _ | assumption | refine below_grown ?_ (by first | omega | (simp [go_sem]; done) | (simp [go_sem] <;> omega)) _ | refine Below.alloc ?_ (by first | omega | (simp [go_sem]; done) | (simp [go_sem] <;> omega)) _ | refine below_bytesW ?_ (by first | omega | (simp [go_sem]; done) | (simp [go_sem] <;> omega)) _ | refine Below.drew ?_ | refine below_drewN ?_ _)) (Nat.le_refl _) _⟩
  · rw [hO]
    have HPR : Hid (∀ w, Calls Tryz.prog 45 #[.string ⟨(trimL s).toArray⟩, .string ⟨[47, 47].toArray⟩] w fun e w' => e = .returned (.bool true) ∧ w = w') := fun w => by have := hasPre_any' (trimL s) [47, 47] w; rwa [h2] at this
    clear hO h2
    generalize trimL s = t at *
    have hem : t.isEmpty = false := by rw [List.isEmpty_eq_false_iff]; exact h1
    have hem2 : (t == []) = false := by rw [beq_eq_false_iff_ne]; exact h1
    clear h1
    go_enter Tryz.func23, Tryz.ntmps23
    go_wp2_with (first
      | (go_at_call 44; refine (HT.out _).mono ?_; rintro e w1 ⟨rfl, hb1⟩; obtain ⟨p1, rfl⟩ := grown_of hb1; clear hb1)
      | (go_at_call 45; refine (HPR.out _).mono ?_; intro e w' h; obtain ⟨rfl, h2⟩ := h; subst w'))
    exact ret_cell_two w.heap.size (ruleV 0 []) (.bool false) (.int .i64 0) rfl rfl rfl rfl agg_rule (by simp [go_sem]) (by simp [go_sem]) rfl ⟨rfl, below_setRow (by repeat (first | exact Below.refl _ _ | assumption | refine below_grown ?_ (by first | omega | (simp [go_sem]; done) | (simp [go_sem] <;> omega)) _ | refine Below.alloc ?_ (by first | omega | (simp [go_sem]; done) | (simp [go_sem] <;> omega)) _ | refine below_bytesW ?_ (by first | omega | (simp [go_sem]; done) | (simp [go_sem] <;> omega)) _ | refine Below.drew ?_ | refine below_drewN ?_ _)) (Nat.le_refl _) _⟩
  · have HPR : Hid (∀ w, Calls Tryz.prog 45 #[.string ⟨(trimL s).toArray⟩, .string ⟨[47, 47].toArray⟩] w fun e w' => e = .returned (.bool false) ∧ w = w') := fun w => by have := hasPre_any' (trimL s) [47, 47] w; rwa [h2] at this
    have HIX : Hid (∀ w, Calls Tryz.prog 46 #[.string ⟨(trimL s).toArray⟩, .string ⟨[32, 9].toArray⟩] w fun e w' => e = .returned (.int .i64 (Lib.indexAny (trimL s) [32, 9])) ∧ Below w.heap.size w w') := fun w => indexAny_any (trimL s) [32, 9] (by omega) (.inr (.inr rfl)) w
    have hul : (blankTake (trimL s)).length ≤ (trimL s).length := by unfold blankTake; rw [List.length_take]; omega
    have hix := ixAny_two' (trimL s) [32, 9]
    have hub : blankTake (trimL s) = (trimL s).take (cutAny (trimL s) [32, 9]) := rfl
    rw [← hub] at hix
    clear hub
    have HKD : Hid (∀ w, Calls Tryz.prog 47 #[.string ⟨(blankTake (trimL s)).toArray⟩] w fun e w' => e = .returned (.tuple #[.int .i64 (ruleKind (blankTake (trimL s))).1, .string ⟨(ruleKind (blankTake (trimL s))).2.toArray⟩]) ∧ w = w') := fun w => kindOf_any _ (by unfold maxLen; omega) w
    have hkl := ruleKind_len (blankTake (trimL s))
    clear h2
    generalize trimL s = t at *
    generalize Lib.indexAny t [32, 9] = ix at *
    generalize blankTake t = u at *
    obtain ⟨⟨k, nm⟩, hkn⟩ : ∃ r, ruleKind u = r := ⟨_, rfl⟩
    rw [hkn] at HKD hkl hW
    dsimp only at HKD hkl hW
    clear hkn
    have HPA : Hid (∀ w, HasMax m w → Calls Tryz.prog 48 #[.string ⟨nm.toArray⟩] w fun e w' => e = .returned (.tuple #[.agg (hostC (parseH nm)), .int .i64 (parseE nm)]) ∧ Below w.heap.size w w') := fun w h => parse_any nm (by omega) m w h
    have hhn : (parseH nm).name.length ≤ 253 := parseH_name nm
    have HLA : Hid (∀ w, HasMax m w → HasTz w → HasDec w → Calls Tryz.prog 26 #[.agg (hostC (parseH nm))] w (Gives strCod (labelsL (parseH nm)) w)) := fun w a b c => labels_any (parseH nm) (by omega) m w a b c
    have hE := parseE_cases' nm
    have hem : t.isEmpty = false := by rw [List.isEmpty_eq_false_iff]; exact h1
    have hem2 : (t == []) = false := by rw [beq_eq_false_iff_ne]; exact h1
    clear h1 hhn
    generalize parseH nm = H at *
    generalize parseE nm = eH at *
    generalize parseOk nm = ok at *
    generalize labelsL H = LL at *
    rcases hW with ⟨w1, hO⟩ | ⟨w1, w2, hO⟩ | ⟨w1, w2, w3, w4, hO⟩ | ⟨w1, w2, w3, w4, hO⟩ | ⟨w1, w2, w3, hO⟩
    · rw [hO]
      obtain rfl : eH = 31 := by
        rcases hE with ⟨h, h'⟩ | ⟨h, h'⟩
        · rw [w1] at h; cases h
        · exact h'
      clear hO hE w1
      rcases hix with ⟨rfl, rfl⟩ | ⟨kx, rfl, hkx, rfl⟩
      all_goals
        go_enter Tryz.func23, Tryz.ntmps23
        go_wp2_with (first
          | (go_at_call 44; (with_reducible refine (HT.out _).mono ?_); rintro e w1 ⟨rfl, hb1⟩; obtain ⟨p1, rfl⟩ := grown_of hb1; clear hb1)
          | (go_at_call 45; (with_reducible refine (HPR.out _).mono ?_); intro e w' h; obtain ⟨rfl, h2⟩ := h; subst w')
          | (go_at_call 46; (with_reducible refine (HIX.out _).mono ?_); rintro e w1 ⟨rfl, hb1⟩; obtain ⟨p1, rfl⟩ := grown_of hb1; clear hb1)
          | (go_at_call 47; (with_reducible refine (HKD.out _).mono ?_); intro e w' h; obtain ⟨rfl, h2⟩ := h; subst w')
          | (go_at_call 48; refine (HPA.out _ (by repeat (first | exact hm | apply HasMax.grown | apply HasMax.alloc | apply HasMax.drew))).mono ?_; rintro e w1 ⟨rfl, hb1⟩; obtain ⟨p1, rfl⟩ := grown_of hb1; clear hb1)
          | (go_at_call 26; refine (HLA.out _ (by repeat (first | exact hm | apply HasMax.grown | apply HasMax.alloc | apply HasMax.drew)) (by repeat (first | exact htz | apply HasTz.grown | apply HasTz.alloc | apply HasTz.drew)) (by repeat (first | exact hd | apply HasDec.grown | apply HasDec.alloc | apply HasDec.drew))).mono ?_; intro e w1 hg; obtain ⟨a1, c1, rfl, hc1, hb1, hl1⟩ := hg; obtain ⟨p1, rfl⟩ := grown_of hb1; clear hb1))
        exact ret_cell_two w.heap.size (ruleV 0 []) (.bool false) (.int .i64 51) rfl rfl rfl rfl agg_rule (by simp [go_sem]) (by simp [go_sem]) rfl ⟨rfl, below_setRow (by repeat (first | exact Below.refl _ _ | assumption | refine below_grown ?_ (by first | omega | (simp [go_sem]; done) | (simp [go_sem] <;> omega)) _ | refine Below.alloc ?_ (by first | omega | (simp [go_sem]; done) | (simp [go_sem] <;> omega)) _ | refine below_bytesW ?_ (by first | omega | (simp [go_sem]; done) | (simp [go_sem] <;> omega)) _ | refine Below.drew ?_ | refine below_drewN ?_ _)) (Nat.le_refl _) _⟩
    · rw [hO]
      obtain rfl : eH = 0 := by
        rcases hE with ⟨h, h'⟩ | ⟨h, h'⟩
        · exact h'
        · rw [w1] at h; cases h
      have hk1 : (H.kind != 1) = true := by rw [bne_iff_ne]; exact w2
      clear hO hE w1 w2
      rcases hix with ⟨rfl, rfl⟩ | ⟨kx, rfl, hkx, rfl⟩
      all_goals
        go_enter Tryz.func23, Tryz.ntmps23
        go_wp2_with (first
          | (go_at_call 44; (with_reducible refine (HT.out _).mono ?_); rintro e w1 ⟨rfl, hb1⟩; obtain ⟨p1, rfl⟩ := grown_of hb1; clear hb1)
          | (go_at_call 45; (with_reducible refine (HPR.out _).mono ?_); intro e w' h; obtain ⟨rfl, h2⟩ := h; subst w')
          | (go_at_call 46; (with_reducible refine (HIX.out _).mono ?_); rintro e w1 ⟨rfl, hb1⟩; obtain ⟨p1, rfl⟩ := grown_of hb1; clear hb1)
          | (go_at_call 47; (with_reducible refine (HKD.out _).mono ?_); intro e w' h; obtain ⟨rfl, h2⟩ := h; subst w')
          | (go_at_call 48; refine (HPA.out _ (by repeat (first | exact hm | apply HasMax.grown | apply HasMax.alloc | apply HasMax.drew))).mono ?_; rintro e w1 ⟨rfl, hb1⟩; obtain ⟨p1, rfl⟩ := grown_of hb1; clear hb1)
          | (go_at_call 26; refine (HLA.out _ (by repeat (first | exact hm | apply HasMax.grown | apply HasMax.alloc | apply HasMax.drew)) (by repeat (first | exact htz | apply HasTz.grown | apply HasTz.alloc | apply HasTz.drew)) (by repeat (first | exact hd | apply HasDec.grown | apply HasDec.alloc | apply HasDec.drew))).mono ?_; intro e w1 hg; obtain ⟨a1, c1, rfl, hc1, hb1, hl1⟩ := hg; obtain ⟨p1, rfl⟩ := grown_of hb1; clear hb1))
        exact ret_cell_two w.heap.size (ruleV 0 []) (.bool false) (.int .i64 51) rfl rfl rfl rfl agg_rule (by simp [go_sem]) (by simp [go_sem]) rfl ⟨rfl, below_setRow (by repeat (first | exact Below.refl _ _ | assumption | refine below_grown ?_ (by first | omega | (simp [go_sem]; done) | (simp [go_sem] <;> omega)) _ | refine Below.alloc ?_ (by first | omega | (simp [go_sem]; done) | (simp [go_sem] <;> omega)) _ | refine below_bytesW ?_ (by first | omega | (simp [go_sem]; done) | (simp [go_sem] <;> omega)) _ | refine Below.drew ?_ | refine below_drewN ?_ _)) (Nat.le_refl _) _⟩
    · rw [hO]
      obtain rfl : eH = 0 := by
        rcases hE with ⟨h, h'⟩ | ⟨h, h'⟩
        · exact h'
        · rw [w1] at h; cases h
      have hk1 : (H.kind != 1) = false := by rw [w2]; rfl
      subst w3
      have hl2 : (LL.length : Int) < 2 := by omega
      clear hO hE w1 w2 w4
      rcases hix with ⟨rfl, rfl⟩ | ⟨kx, rfl, hkx, rfl⟩
      all_goals
        go_enter Tryz.func23, Tryz.ntmps23
        go_wp2_with (first
          | (go_at_call 44; (with_reducible refine (HT.out _).mono ?_); rintro e w1 ⟨rfl, hb1⟩; obtain ⟨p1, rfl⟩ := grown_of hb1; clear hb1)
          | (go_at_call 45; (with_reducible refine (HPR.out _).mono ?_); intro e w' h; obtain ⟨rfl, h2⟩ := h; subst w')
          | (go_at_call 46; (with_reducible refine (HIX.out _).mono ?_); rintro e w1 ⟨rfl, hb1⟩; obtain ⟨p1, rfl⟩ := grown_of hb1; clear hb1)
          | (go_at_call 47; (with_reducible refine (HKD.out _).mono ?_); intro e w' h; obtain ⟨rfl, h2⟩ := h; subst w')
          | (go_at_call 48; refine (HPA.out _ (by repeat (first | exact hm | apply HasMax.grown | apply HasMax.alloc | apply HasMax.drew))).mono ?_; rintro e w1 ⟨rfl, hb1⟩; obtain ⟨p1, rfl⟩ := grown_of hb1; clear hb1)
          | (go_at_call 26; refine (HLA.out _ (by repeat (first | exact hm | apply HasMax.grown | apply HasMax.alloc | apply HasMax.drew)) (by repeat (first | exact htz | apply HasTz.grown | apply HasTz.alloc | apply HasTz.drew)) (by repeat (first | exact hd | apply HasDec.grown | apply HasDec.alloc | apply HasDec.drew))).mono ?_; intro e w1 hg; obtain ⟨a1, c1, rfl, hc1, hb1, hl1⟩ := hg; obtain ⟨p1, rfl⟩ := grown_of hb1; clear hb1))
        exact ret_cell_two w.heap.size (ruleV 0 []) (.bool false) (.int .i64 51) rfl rfl rfl rfl agg_rule (by simp [go_sem]) (by simp [go_sem]) rfl ⟨rfl, below_setRow (by repeat (first | exact Below.refl _ _ | assumption | refine below_grown ?_ (by first | omega | (simp [go_sem]; done) | (simp [go_sem] <;> omega)) _ | refine Below.alloc ?_ (by first | omega | (simp [go_sem]; done) | (simp [go_sem] <;> omega)) _ | refine below_bytesW ?_ (by first | omega | (simp [go_sem]; done) | (simp [go_sem] <;> omega)) _ | refine Below.drew ?_ | refine below_drewN ?_ _)) (Nat.le_refl _) _⟩
    · rw [hO]
      obtain rfl : eH = 0 := by
        rcases hE with ⟨h, h'⟩ | ⟨h, h'⟩
        · exact h'
        · rw [w1] at h; cases h
      have hk1 : (H.kind != 1) = false := by rw [w2]; rfl
      subst w3
      have hl2 : ¬ (LL.length : Int) < 2 := by omega
      clear hO hE w1 w2 w4
      rcases hix with ⟨rfl, rfl⟩ | ⟨kx, rfl, hkx, rfl⟩
      all_goals
        go_enter Tryz.func23, Tryz.ntmps23
        go_wp2_with (first
          | (go_at_call 44; (with_reducible refine (HT.out _).mono ?_); rintro e w1 ⟨rfl, hb1⟩; obtain ⟨p1, rfl⟩ := grown_of hb1; clear hb1)
          | (go_at_call 45; (with_reducible refine (HPR.out _).mono ?_); intro e w' h; obtain ⟨rfl, h2⟩ := h; subst w')
          | (go_at_call 46; (with_reducible refine (HIX.out _).mono ?_); rintro e w1 ⟨rfl, hb1⟩; obtain ⟨p1, rfl⟩ := grown_of hb1; clear hb1)
          | (go_at_call 47; (with_reducible refine (HKD.out _).mono ?_); intro e w' h; obtain ⟨rfl, h2⟩ := h; subst w')
          | (go_at_call 48; refine (HPA.out _ (by repeat (first | exact hm | apply HasMax.grown | apply HasMax.alloc | apply HasMax.drew))).mono ?_; rintro e w1 ⟨rfl, hb1⟩; obtain ⟨p1, rfl⟩ := grown_of hb1; clear hb1)
          | (go_at_call 26; refine (HLA.out _ (by repeat (first | exact hm | apply HasMax.grown | apply HasMax.alloc | apply HasMax.drew)) (by repeat (first | exact htz | apply HasTz.grown | apply HasTz.alloc | apply HasTz.drew)) (by repeat (first | exact hd | apply HasDec.grown | apply HasDec.alloc | apply HasDec.drew))).mono ?_; intro e w1 hg; obtain ⟨a1, c1, rfl, hc1, hb1, hl1⟩ := hg; obtain ⟨p1, rfl⟩ := grown_of hb1; clear hb1))
        exact ret_cell_two w.heap.size (ruleV 3 H.name) (.bool true) (.int .i64 0) rfl rfl rfl rfl agg_rule (by simp [go_sem]) (by simp [go_sem]) rfl ⟨rfl, below_setRow (by repeat (first | exact Below.refl _ _ | assumption | refine below_grown ?_ (by first | omega | (simp [go_sem]; done) | (simp [go_sem] <;> omega)) _ | refine Below.alloc ?_ (by first | omega | (simp [go_sem]; done) | (simp [go_sem] <;> omega)) _ | refine below_bytesW ?_ (by first | omega | (simp [go_sem]; done) | (simp [go_sem] <;> omega)) _ | refine Below.drew ?_ | refine below_drewN ?_ _)) (Nat.le_refl _) _⟩
    · rw [hO]
      obtain rfl : eH = 0 := by
        rcases hE with ⟨h, h'⟩ | ⟨h, h'⟩
        · exact h'
        · rw [w1] at h; cases h
      have hk1 : (H.kind != 1) = false := by rw [w2]; rfl
      have hk3 : (k == 3) = false := by rw [beq_eq_false_iff_ne]; exact w3
      clear hO hE w1 w2 w3
      rcases hix with ⟨rfl, rfl⟩ | ⟨kx, rfl, hkx, rfl⟩
      all_goals
        go_enter Tryz.func23, Tryz.ntmps23
        go_wp2_with (first
          | (go_at_call 44; (with_reducible refine (HT.out _).mono ?_); rintro e w1 ⟨rfl, hb1⟩; obtain ⟨p1, rfl⟩ := grown_of hb1; clear hb1)
          | (go_at_call 45; (with_reducible refine (HPR.out _).mono ?_); intro e w' h; obtain ⟨rfl, h2⟩ := h; subst w')
          | (go_at_call 46; (with_reducible refine (HIX.out _).mono ?_); rintro e w1 ⟨rfl, hb1⟩; obtain ⟨p1, rfl⟩ := grown_of hb1; clear hb1)
          | (go_at_call 47; (with_reducible refine (HKD.out _).mono ?_); intro e w' h; obtain ⟨rfl, h2⟩ := h; subst w')
          | (go_at_call 48; refine (HPA.out _ (by repeat (first | exact hm | apply HasMax.grown | apply HasMax.alloc | apply HasMax.drew))).mono ?_; rintro e w1 ⟨rfl, hb1⟩; obtain ⟨p1, rfl⟩ := grown_of hb1; clear hb1)
          | (go_at_call 26; refine (HLA.out _ (by repeat (first | exact hm | apply HasMax.grown | apply HasMax.alloc | apply HasMax.drew)) (by repeat (first | exact htz | apply HasTz.grown | apply HasTz.alloc | apply HasTz.drew)) (by repeat (first | exact hd | apply HasDec.grown | apply HasDec.alloc | apply HasDec.drew))).mono ?_; intro e w1 hg; obtain ⟨a1, c1, rfl, hc1, hb1, hl1⟩ := hg; obtain ⟨p1, rfl⟩ := grown_of hb1; clear hb1))
        exact ret_cell_two w.heap.size (ruleV k H.name) (.bool true) (.int .i64 0) rfl rfl rfl rfl agg_rule (by simp [go_sem]) (by simp [go_sem]) rfl ⟨rfl, below_setRow (by repeat (first | exact Below.refl _ _ | assumption | refine below_grown ?_ (by first | omega | (simp [go_sem]; done) | (simp [go_sem] <;> omega)) _ | refine Below.alloc ?_ (by first | omega | (simp [go_sem]; done) | (simp [go_sem] <;> omega)) _ | refine below_bytesW ?_ (by first | omega | (simp [go_sem]; done) | (simp [go_sem] <;> omega)) _ | refine Below.drew ?_ | refine below_drewN ?_ _)) (Nat.le_refl _) _⟩
end

section
open Go Go.RowKit
set_option maxRecDepth 20000
set_option linter.unusedSimpArgs false
set_option linter.unusedVariables false

theorem pre_take (s p : List UInt8) (h : p.length ≤ s.length) : (s.take p.length == p) = Lib.hasPrefix s p := by
  unfold Lib.hasPrefix
  rw [Bool.eq_iff_iff, beq_iff_eq, List.isPrefixOf_iff_prefix, List.prefix_iff_eq_take]
  exact ⟨fun e => e.symm, fun e => e.symm⟩
theorem pre_short (s p : List UInt8) (h : s.length < p.length) : Lib.hasPrefix s p = false := by
  unfold Lib.hasPrefix
  cases hx : p.isPrefixOf s
  · rfl
  · have := (List.isPrefixOf_iff_prefix.1 hx).length_le
    omega
theorem begins05_any (s p : List UInt8) (hs : s.length ≤ maxLen) (hp : p.length ≤ maxLen) (w : World) :
    Calls Tryz.prog 56 #[.string ⟨s.toArray⟩, .string ⟨p.toArray⟩] w fun e w' => e = .returned (.bool (Lib.hasPrefix s p)) ∧ w = w' := by
  unfold maxLen at hs hp
  by_cases h : p.length ≤ s.length
  · have hq := pre_take s p h
    generalize Lib.hasPrefix s p = b at *
    have HQ := Lib.hid hq
    clear hq
    go_enter Tryz.func56, Tryz.ntmps56
    go_wp2
    go_ret
    exact ⟨ret_bool (by rw [← HQ.out]), rfl⟩
  · rw [pre_short s p (by omega)]
    have h2 : ¬ (p.length : Int) ≤ s.length := by omega
    go_enter Tryz.func56, Tryz.ntmps56
    go_wp2
    go_ret
    exact ⟨rfl, rfl⟩
set_option maxHeartbeats 1000000 in
theorem refRuleText_any (k : Int) (n : List UInt8) (hn : n.length ≤ 4294967000) (w : World) :
    Calls Tryz.prog 51 #[.agg (ruleV k n)] w fun e w' => e = .returned (.string ⟨(ruleTextL k n).toArray⟩) ∧ Below w.heap.size w w' := by
  have n1 : ¬ 9223372036854775807 < 2 + n.length := by omega
  have n2 : ¬ 9223372036854775807 < 1 + n.length := by omega
  have n3 : ¬ 9223372036854775807 < n.length + 2 := by omega
  have n4 : ¬ 9223372036854775807 < n.length + 1 := by omega
  by_cases h2 : k = 2
  · subst h2
    go_enter Tryz.func51, Tryz.ntmps51
    go_wp2
    go_ret
    exact ⟨rfl, (by repeat (first | exact Below.refl _ _ | assumption | refine below_grown ?_ (by first | omega | (simp [go_sem]; done) | (simp [go_sem] <;> omega)) _ | refine Below.alloc ?_ (by first | omega | (simp [go_sem]; done) | (simp [go_sem] <;> omega)) _ | refine below_bytesW ?_ (by first | omega | (simp [go_sem]; done) | (simp [go_sem] <;> omega)) _ | refine Below.drew ?_ | refine below_drewN ?_ _))⟩
  · by_cases h3 : k = 3
    · subst h3
      go_enter Tryz.func51, Tryz.ntmps51
      go_wp2
      go_ret
      exact ⟨rfl, (by repeat (first | exact Below.refl _ _ | assumption | refine below_grown ?_ (by first | omega | (simp [go_sem]; done) | (simp [go_sem] <;> omega)) _ | refine Below.alloc ?_ (by first | omega | (simp [go_sem]; done) | (simp [go_sem] <;> omega)) _ | refine below_bytesW ?_ (by first | omega | (simp [go_sem]; done) | (simp [go_sem] <;> omega)) _ | refine Below.drew ?_ | refine below_drewN ?_ _))⟩
    · have e : ruleTextL k n = n := by unfold ruleTextL markL; rw [if_neg h2, if_neg h3]; rfl
      rw [e]
      have e2 : (k == 2) = false := by rw [beq_eq_false_iff_ne]; exact h2
      have e3 : (k == 3) = false := by rw [beq_eq_false_iff_ne]; exact h3
      clear e
      go_enter Tryz.func51, Tryz.ntmps51
      go_wp2
      go_ret
      exact ⟨rfl, (by repeat (first | exact Below.refl _ _ | assumption | refine below_grown ?_ (by first | omega | (simp [go_sem]; done) | (simp [go_sem] <;> omega)) _ | refine Below.alloc ?_ (by first | omega | (simp [go_sem]; done) | (simp [go_sem] <;> omega)) _ | refine below_bytesW ?_ (by first | omega | (simp [go_sem]; done) | (simp [go_sem] <;> omega)) _ | refine Below.drew ?_ | refine below_drewN ?_ _))⟩
end

section
open Go Go.RowKit
set_option maxRecDepth 20000
set_option linter.unusedSimpArgs false
set_option linter.unusedVariables false

theorem cutAny_cons' (c : UInt8) (t cs : List UInt8) : cutAny (c :: t) cs = if cs.contains c = true then 0 else cutAny t cs + 1 := by
  unfold cutAny
  rw [Lib.indexAny]
  have hge := Lib.indexAny_ge cs t
  by_cases h : cs.contains c = true
  · rw [if_pos h, if_pos h]; rfl
  · rw [if_neg h, if_neg h]
    by_cases h1 : Lib.indexAny t cs = -1
    · rw [h1]; rfl
    · have : ¬ ((Lib.indexAny t cs) == -1) = true := by rw [beq_iff_eq]; omega
      rw [if_neg this, if_pos (by omega), if_pos (by omega)]
      omega
theorem cut_stop' (cs : List UInt8) : ∀ (s : List UInt8) (k : Nat) (h : k < s.length), (s.take k).all (fun c => !cs.contains c) = true → cs.contains (s[k]'h) = true → cutAny s cs = k
  | [], k, h, _, _ => by cases h
  | c :: t, 0, h, _, hc => by rw [cutAny_cons', if_pos (by simpa using hc)]
  | c :: t, k + 1, h, ha, hc => by
    simp only [List.take_succ_cons, List.all_cons, Bool.and_eq_true] at ha
    rw [cutAny_cons', if_neg (by have := ha.1; intro e; rw [e] at this; cases this), cut_stop' cs t k (by simpa using h) ha.2 (by simpa using hc)]
theorem cut_end' (cs : List UInt8) : ∀ (s : List UInt8), s.all (fun c => !cs.contains c) = true → cutAny s cs = s.length
  | [], _ => rfl
  | c :: t, ha => by
    simp only [List.all_cons, Bool.and_eq_true] at ha
    rw [cutAny_cons', if_neg (by have := ha.1; intro e; rw [e] at this; cases this), cut_end' cs t ha.2]; rfl
def blankSp (c : UInt8) : Bool := ([32, 9] : List UInt8).contains c
theorem blank_stop (t : List UInt8) (k : Nat) (h : k < t.length) (ha : (t.take k).all (fun c => !blankSp c) = true) (hc : blankSp (t[k]'h) = true) : blankTake t = t.take k := by
  unfold blankTake
  rw [cut_stop' [32, 9] t k h ha hc]
theorem blank_end (t : List UInt8) (ha : (t.take t.length).all (fun c => !blankSp c) = true) : blankTake t = t := by
  unfold blankTake
  rw [cut_end' [32, 9] t (by rwa [List.take_length] at ha), List.take_length]
theorem all_take_blank (l : List UInt8) (k : Nat) (h : k < l.length) : (l.take (k + 1)).all (fun c => !blankSp c) = ((l.take k).all (fun c => !blankSp c) && !blankSp (l[k]'h)) := by
  rw [List.take_succ_eq_append_getElem h, List.all_append]; simp
theorem blank_cases (c : UInt8) : (((c.toNat : Int) == 32) = true ∧ blankSp c = true) ∨ (((c.toNat : Int) == 32) = false ∧ ((c.toNat : Int) == 9) = true ∧ blankSp c = true) ∨ (((c.toNat : Int) == 32) = false ∧ ((c.toNat : Int) == 9) = false ∧ blankSp c = false) := by
  have h1 := u8_lit c 32 32 rfl
  have h2 := u8_lit c 9 9 rfl
  have h3 : blankSp c = (c == 32 || c == 9) := by rw [Bool.eq_iff_iff]; simp [blankSp]
  rw [h1, h2, h3]
  cases hc : (c == 32)
  · cases hd : (c == 9)
    · exact .inr (.inr ⟨rfl, rfl, rfl⟩)
    · exact .inr (.inl ⟨rfl, rfl, rfl⟩)
  · exact .inl ⟨rfl, rfl⟩
theorem kind_ways (u : List UInt8) : (Lib.hasPrefix u [33] = true ∧ ruleKind u = (3, u.drop 1)) ∨ (Lib.hasPrefix u [33] = false ∧ Lib.hasPrefix u [42, 46] = true ∧ ruleKind u = (2, u.drop 2)) ∨ (Lib.hasPrefix u [33] = false ∧ Lib.hasPrefix u [42, 46] = false ∧ ruleKind u = (1, u)) := by
  unfold ruleKind
  cases h2 : Lib.hasPrefix u [42, 46]
  · cases h3 : Lib.hasPrefix u [33]
    · exact .inr (.inr ⟨rfl, rfl, rfl⟩)
    · exact .inl ⟨rfl, rfl⟩
  · rw [pre_two h2]
    exact .inr (.inl ⟨rfl, rfl, rfl⟩)
theorem pre_len {u p : List UInt8} (h : Lib.hasPrefix u p = true) : p.length ≤ u.length := by
  unfold Lib.hasPrefix at h
  exact (List.isPrefixOf_iff_prefix.1 h).length_le
theorem setCell_rule {w : World} {b : Nat} {k : Int} {n : List UInt8} (hv : Var w b (ruleR k n)) (q : List UInt8) : w.setCell ⟨b, 1, none⟩ (.string ⟨q.toArray⟩) = w.setRow b (ruleV k q) := by
  obtain ⟨t, hh⟩ := hv
  simp only [World.setRow, World.setCell]
  congr 1
  apply Array.ext_getElem?
  intro j
  simp only [Array.getElem?_modify]
  by_cases hj : b = j
  · subst hj
    simp [hh, ruleR, ruleV]
  · simp only [if_neg hj]
set_option maxRecDepth 100000 in
set_option maxHeartbeats 8000000 in
theorem refRuleLine_any (s : List UInt8) (hs : s.length ≤ 1000000000) (w : World) :
    Calls Tryz.prog 35 #[.string ⟨s.toArray⟩] w fun e w' => e = .returned (.tuple #[.agg (ruleV (ruleOut s).1.1 (ruleOut s).1.2), .bool (ruleOut s).2.1, .int .i64 (ruleOut s).2.2]) ∧ Below w.heap.size w w' := by
  have HT : Hid (∀ w, Calls Tryz.prog 55 #[.string ⟨s.toArray⟩] w fun e w' => e = .returned (.string ⟨(trimL s).toArray⟩) ∧ w = w') := fun w => refTrim_any s (by unfold maxLen; omega) w
  have htl : (trimL s).length ≤ s.length := trimL_length s
  rcases rule_ways s with ⟨h1, hO⟩ | ⟨h1, h2, hO⟩ | ⟨h1, h2, hW⟩
  · rw [hO]
    rw [h1] at HT
    clear hO h1
    go_enter Tryz.func35, Tryz.ntmps35
    go_wp2_with (go_at_call 55; refine (HT.out _).mono ?_; intro e w' h; obtain ⟨rfl, h2⟩ := h; subst w')
    exact ret_cell_two w.heap.size (ruleV 0 []) (.bool false) (.int .i64 0) rfl rfl rfl rfl agg_rule (by simp [go_sem]) (by simp [go_sem]) rfl ⟨rfl, (by repeat (first | exact Below.refl _ _ | assumption | refine below_grown ?_ (by first | omega | (simp [go_sem]; done) | (simp [go_sem] <;> omega)) _ | refine Below.alloc ?_ (by first | omega | (simp [go_sem]; done) | (simp [go_sem] <;> omega)) _ | refine below_bytesW ?_ (by first | omega | (simp [go_sem]; done) | (simp [go_sem] <;> omega)) _ | refine Below.drew ?_ | refine below_drewN ?_ _))⟩
  · rw [hO]
    have HPR : Hid (∀ w, Calls Tryz.prog 56 #[.string ⟨(trimL s).toArray⟩, .string ⟨[47, 47].toArray⟩] w fun e w' => e = .returned (.bool true) ∧ w = w') := fun w => by have := begins05_any (trimL s) [47, 47] (by unfold maxLen; omega) (by decide) w; rwa [h2] at this
    clear hO h2
    generalize trimL s = t at *
    have hem : t.isEmpty = false := by rw [List.isEmpty_eq_false_iff]; exact h1
    have hem2 : (t == []) = false := by rw [beq_eq_false_iff_ne]; exact h1
    clear h1
    go_enter Tryz.func35, Tryz.ntmps35
    go_wp2_with (first
      | (go_at_call 55; refine (HT.out _).mono ?_; intro e w' h; obtain ⟨rfl, h2⟩ := h; subst w')
      | (go_at_call 56; refine (HPR.out _).mono ?_; intro e w' h; obtain ⟨rfl, h2⟩ := h; subst w'))
    exact ret_cell_two w.heap.size (ruleV 0 []) (.bool false) (.int .i64 0) rfl rfl rfl rfl agg_rule (by simp [go_sem]) (by simp [go_sem]) rfl ⟨rfl, (by repeat (first | exact Below.refl _ _ | assumption | refine below_grown ?_ (by first | omega | (simp [go_sem]; done) | (simp [go_sem] <;> omega)) _ | refine Below.alloc ?_ (by first | omega | (simp [go_sem]; done) | (simp [go_sem] <;> omega)) _ | refine below_bytesW ?_ (by first | omega | (simp [go_sem]; done) | (simp [go_sem] <;> omega)) _ | refine Below.drew ?_ | refine below_drewN ?_ _))⟩
  · have HPR : Hid (∀ w, Calls Tryz.prog 56 #[.string ⟨(trimL s).toArray⟩, .string ⟨[47, 47].toArray⟩] w fun e w' => e = .returned (.bool false) ∧ w = w') := fun w => by have := begins05_any (trimL s) [47, 47] (by unfold maxLen; omega) (by decide) w; rwa [h2] at this
    have hul : (blankTake (trimL s)).length ≤ (trimL s).length := by unfold blankTake; rw [List.length_take]; omega
    have hul2 := hul
    have HP3 : Hid (∀ w, Calls Tryz.prog 56 #[.string ⟨(blankTake (trimL s)).toArray⟩, .string ⟨[33].toArray⟩] w fun e w' => e = .returned (.bool (Lib.hasPrefix (blankTake (trimL s)) [33])) ∧ w = w') := fun w => begins05_any _ [33] (by unfold maxLen; omega) (by decide) w
    have HP2 : Hid (∀ w, Calls Tryz.prog 56 #[.string ⟨(blankTake (trimL s)).toArray⟩, .string ⟨[42, 46].toArray⟩] w fun e w' => e = .returned (.bool (Lib.hasPrefix (blankTake (trimL s)) [42, 46])) ∧ w = w') := fun w => begins05_any _ [42, 46] (by unfold maxLen; omega) (by decide) w
    have HST := Lib.hid (blank_stop (trimL s))
    have HEN := Lib.hid (blank_end (trimL s))
    have hkl := ruleKind_len (blankTake (trimL s))
    have HKW := Lib.hid (kind_ways (blankTake (trimL s)))
    have HL1 : Hid (Lib.hasPrefix (blankTake (trimL s)) [33] = true → 1 ≤ (blankTake (trimL s)).length) := fun h => pre_len h
    have HL2 : Hid (Lib.hasPrefix (blankTake (trimL s)) [42, 46] = true → 2 ≤ (blankTake (trimL s)).length) := fun h => pre_len h
    clear h2
    generalize trimL s = t at *
    generalize blankTake t = u at *
    generalize Lib.hasPrefix u [33] = p3 at *
    generalize Lib.hasPrefix u [42, 46] = p2 at *
    obtain ⟨⟨k, nm⟩, hkn⟩ : ∃ r, ruleKind u = r := ⟨_, rfl⟩
    rw [hkn] at HKW hkl hW
    dsimp only at hkl hW
    clear hkn
    have HPA : Hid (∀ w, Calls Tryz.prog 18 #[.string ⟨nm.toArray⟩] w fun e w' => e = .returned (.tuple #[.agg (hostC (parseH nm)), .int .i64 (parseE nm)]) ∧ Below w.heap.size w w') := fun w => refParse_any nm (by omega) w
    have hhn : (parseH nm).name.length ≤ 253 := parseH_name nm
    have HLA : Hid (∀ w, Calls Tryz.prog 22 #[.agg (hostC (parseH nm))] w (Gives strCod (labelsL (parseH nm)) w)) := fun w => refLabels_any (parseH nm) (by omega) w
    have hE := parseE_cases' nm
    have hem : t.isEmpty = false := by rw [List.isEmpty_eq_false_iff]; exact h1
    have hem2 : (t == []) = false := by rw [beq_eq_false_iff_ne]; exact h1
    clear h1 hhn
    generalize parseH nm = H at *
    generalize parseE nm = eH at *
    generalize parseOk nm = ok at *
    generalize labelsL H = LL at *
    have HW := Lib.hid hW
    have HE := Lib.hid hE
    clear hW hE
    generalize ruleOut s = out at *
    go_enter Tryz.func35, Tryz.ntmps35
    go_wp2_with (first
      | (go_at_call 55; refine (HT.out _).mono ?_; intro e w' h; obtain ⟨rfl, h2⟩ := h; subst w')
      | (go_at_call 56; refine (HPR.out _).mono ?_; intro e w' h; obtain ⟨rfl, h2⟩ := h; subst w'))
    go_loop [0, 5] (fun s0 i => (∃ n : Nat, n ≤ t.length ∧ s0 = .string ⟨t.toArray⟩ ∧ i = .int .i64 n ∧ Hid ((t.take n).all (fun c => !blankSp c) = true)) ∨ (∃ n : Nat, u.length ≤ n ∧ n ≤ t.length ∧ s0 = .string ⟨u.toArray⟩ ∧ i = .int .i64 n)) (fun _ i => t.length + 1 - (intOf i).toNat)
    case atStart => exact .inl ⟨0, Nat.zero_le _, rfl, rfl, rfl⟩
    case round =>
      rcases hrel with ⟨n, hn, rfl, rfl, hinv⟩ | ⟨n, hun, hn, rfl, rfl⟩
      · by_cases hlt : n < t.length
        · have HS := Lib.hid (all_take_blank t n hlt)
          have HSS := Lib.hid (HST.out n hlt)
          obtain ⟨c, hcc⟩ : ∃ c, ∀ h, t[n]'h = c := ⟨t[n]'hlt, fun _ => rfl⟩
          rw [hcc] at HS HSS
          rcases blank_cases c with ⟨c1, hc⟩ | ⟨c1, c2, hc⟩ | ⟨c1, c2, hc⟩
          · have HU := Lib.hid (HSS.out hinv.out hc)
            go_wp2
            go_round
            case rel => exact .inr ⟨n + 1, by rw [HU.out, List.length_take]; omega, by omega, by rw [HU.out], by go_num⟩
            case measure => simp [intOf]; omega
          · have HU := Lib.hid (HSS.out hinv.out hc)
            go_wp2
            go_round
            case rel => exact .inr ⟨n + 1, by rw [HU.out, List.length_take]; omega, by omega, by rw [HU.out], by go_num⟩
            case measure => simp [intOf]; omega
          · go_wp2
            go_round
            case rel => exact .inl ⟨n + 1, by omega, rfl, by go_num, show _ = true by rw [HS.out, hinv.out, hc]; rfl⟩
            case measure => simp [intOf]; omega
        · obtain rfl : n = t.length := by omega
          obtain rfl := HEN.out hinv.out
          clear HEN HST hinv
          go_upto_if 39 with (go_at_call 56; (with_reducible refine (HP3.out _).mono ?_); intro e w' h; obtain ⟨rfl, h2⟩ := h; subst w')
          go_cut [0] (fun s0 wx => s0 = .string ⟨nm.toArray⟩ ∧ Below w.heap.size w wx ∧ hasVar wx w.heap.size 2 = true ∧ Var wx (w.heap.size + 1) (ruleR k []))
          case first =>
            rcases HKW.out with ⟨rfl, hk⟩ | ⟨rfl, rfl, hk⟩ | ⟨rfl, rfl, hk⟩
            · have hl1 := HL1.out rfl
              obtain ⟨rfl, rfl⟩ := Prod.mk.inj hk
              clear hk
              go_wp2
              go_meet
              exact ⟨by simp, (by repeat (first | exact Below.refl _ _ | assumption | refine below_grown ?_ (by first | omega | (simp [go_sem]; done) | (simp [go_sem] <;> omega)) _ | refine Below.alloc ?_ (by first | omega | (simp [go_sem]; done) | (simp [go_sem] <;> omega)) _ | refine below_bytesW ?_ (by first | omega | (simp [go_sem]; done) | (simp [go_sem] <;> omega)) _ | refine Below.drew ?_ | refine below_drewN ?_ _)), by simp [go_sem], Var.new _ _ _ (by simp [ruleV, ruleR]) (by simp)⟩
            · have hl1 := HL2.out rfl
              obtain ⟨rfl, rfl⟩ := Prod.mk.inj hk
              clear hk
              go_wp2_with (go_at_call 56; (with_reducible refine (HP2.out _).mono ?_); intro e w' h; obtain ⟨rfl, h2⟩ := h; subst w')
              go_meet
              exact ⟨by simp, (by repeat (first | exact Below.refl _ _ | assumption | refine below_grown ?_ (by first | omega | (simp [go_sem]; done) | (simp [go_sem] <;> omega)) _ | refine Below.alloc ?_ (by first | omega | (simp [go_sem]; done) | (simp [go_sem] <;> omega)) _ | refine below_bytesW ?_ (by first | omega | (simp [go_sem]; done) | (simp [go_sem] <;> omega)) _ | refine Below.drew ?_ | refine below_drewN ?_ _)), by simp [go_sem], Var.new _ _ _ (by simp [ruleV, ruleR]) (by simp)⟩
            · obtain ⟨rfl, rfl⟩ := Prod.mk.inj hk
              clear hk
              go_wp2_with (go_at_call 56; (with_reducible refine (HP2.out _).mono ?_); intro e w' h; obtain ⟨rfl, h2⟩ := h; subst w')
              go_meet
              exact ⟨rfl, (by repeat (first | exact Below.refl _ _ | assumption | refine below_grown ?_ (by first | omega | (simp [go_sem]; done) | (simp [go_sem] <;> omega)) _ | refine Below.alloc ?_ (by first | omega | (simp [go_sem]; done) | (simp [go_sem] <;> omega)) _ | refine below_bytesW ?_ (by first | omega | (simp [go_sem]; done) | (simp [go_sem] <;> omega)) _ | refine Below.drew ?_ | refine below_drewN ?_ _)), by simp [go_sem], Var.new _ _ _ (by simp [ruleV, ruleR]) (by simp)⟩
          case rest =>
            obtain ⟨rfl, hbw, hv2, hv4⟩ := hcut
            have hbsz := hbw.size
            have hi4 : isOld (w.heap.size + 1) wc = true := isOld_iff.2 hv4.lt
            have hi2 : isOld w.heap.size wc = true := isOld_iff.2 (by have := hv4.lt; omega)
            have hv4' : hasVar wc (w.heap.size + 1) 2 = true := hv4.has rfl
            have hfz : ∀ (i : Nat), wc.frozen? ⟨w.heap.size + 1, i, none⟩ = false := fun i => hv4.free i
            have hc0 : wc.cell? ⟨w.heap.size + 1, 0, none⟩ = some (.int .i64 k) := hv4.cell 0 (by simp [ruleR])
            have hc1 : wc.cell? ⟨w.heap.size + 1, 1, none⟩ = some (.string ⟨([] : List UInt8).toArray⟩) := hv4.cell 1 (by simp [ruleR])
            have hst1 : ∀ (pp : Regrown) (O : Obj) (v : List UInt8), ((grown wc pp).alloc O).setCell ⟨w.heap.size + 1, 1, none⟩ (.string ⟨v.toArray⟩) = ((grown wc pp).alloc O).setRow (w.heap.size + 1) (ruleV k v) := fun pp O v => setCell_rule ((hv4.grown pp).alloc O) v
            have hst2 : ∀ (pp : Regrown) (O : Obj) (pp2 : Regrown) (v : List UInt8), (grown ((grown wc pp).alloc O) pp2).setCell ⟨w.heap.size + 1, 1, none⟩ (.string ⟨v.toArray⟩) = (grown ((grown wc pp).alloc O) pp2).setRow (w.heap.size + 1) (ruleV k v) := fun pp O pp2 v => setCell_rule (((hv4.grown pp).alloc O).grown pp2) v
            clear hv4 HKW HL1 HL2 HP2 HP3 HPR HT
            rcases HW.out with ⟨w1, hO⟩ | ⟨w1, w2, hO⟩ | ⟨w1, w2, w3, w4, hO⟩ | ⟨w1, w2, w3, w4, hO⟩ | ⟨w1, w2, w3, hO⟩
            · obtain rfl : eH = 31 := by
                rcases HE.out with ⟨h, h'⟩ | ⟨h, h'⟩
                · rw [w1] at h; cases h
                · exact h'
              have HO := Lib.hid hO
              clear hO HE w1 HW
              go_wp2_with (first | (go_at_call 18; (with_reducible refine (HPA.out _).mono ?_); rintro e w1 ⟨rfl, hb1⟩; obtain ⟨p1, rfl⟩ := grown_of hb1; clear hb1) | (go_at_call 22; (with_reducible refine (HLA.out _).mono ?_); intro e w1 hg; obtain ⟨a1, c1, rfl, hc1, hb1, hl1⟩ := hg; obtain ⟨p1, rfl⟩ := grown_of hb1; clear hb1))
              exact ret_cell_two w.heap.size (ruleV 0 []) (.bool false) (.int .i64 51) rfl rfl rfl rfl agg_rule (by simp [go_sem, hv2, hi2, hi4, hv4']) (by simp [go_sem, hv2, hi2, hi4, hv4']) rfl ⟨by rw [HO.out], below_setRow (by repeat (first | exact Below.refl _ _ | assumption | refine below_grown ?_ (by first | omega | (simp [go_sem]; done) | (simp [go_sem] <;> omega)) _ | refine Below.alloc ?_ (by first | omega | (simp [go_sem]; done) | (simp [go_sem] <;> omega)) _ | refine below_bytesW ?_ (by first | omega | (simp [go_sem]; done) | (simp [go_sem] <;> omega)) _ | refine Below.drew ?_ | refine below_drewN ?_ _)) (Nat.le_refl _) _⟩
            · obtain rfl : eH = 0 := by
                rcases HE.out with ⟨h, h'⟩ | ⟨h, h'⟩
                · exact h'
                · rw [w1] at h; cases h
              have HO := Lib.hid hO
              have hk1 : (H.kind != 1) = true := by rw [bne_iff_ne]; exact w2
              clear hO HE w1 w2 HW
              go_wp2_with (first | (go_at_call 18; (with_reducible refine (HPA.out _).mono ?_); rintro e w1 ⟨rfl, hb1⟩; obtain ⟨p1, rfl⟩ := grown_of hb1; clear hb1) | (go_at_call 22; (with_reducible refine (HLA.out _).mono ?_); intro e w1 hg; obtain ⟨a1, c1, rfl, hc1, hb1, hl1⟩ := hg; obtain ⟨p1, rfl⟩ := grown_of hb1; clear hb1))
              exact ret_cell_two w.heap.size (ruleV 0 []) (.bool false) (.int .i64 51) rfl rfl rfl rfl agg_rule (by simp [go_sem, hv2, hi2, hi4, hv4']) (by simp [go_sem, hv2, hi2, hi4, hv4']) rfl ⟨by rw [HO.out], below_setRow (by repeat (first | exact Below.refl _ _ | assumption | refine below_grown ?_ (by first | omega | (simp [go_sem]; done) | (simp [go_sem] <;> omega)) _ | refine Below.alloc ?_ (by first | omega | (simp [go_sem]; done) | (simp [go_sem] <;> omega)) _ | refine below_bytesW ?_ (by first | omega | (simp [go_sem]; done) | (simp [go_sem] <;> omega)) _ | refine Below.drew ?_ | refine below_drewN ?_ _)) (Nat.le_refl _) _⟩
            · obtain rfl : eH = 0 := by
                rcases HE.out with ⟨h, h'⟩ | ⟨h, h'⟩
                · exact h'
                · rw [w1] at h; cases h
              have HO := Lib.hid hO
              have hk1 : (H.kind != 1) = false := by rw [w2]; rfl
              subst w3
              have hl2 : (LL.length : Int) < 2 := by omega
              clear hO HE w1 w2 w4 HW
              go_wp2_with (first | (go_at_call 18; (with_reducible refine (HPA.out _).mono ?_); rintro e w1 ⟨rfl, hb1⟩; obtain ⟨p1, rfl⟩ := grown_of hb1; clear hb1) | (go_at_call 22; (with_reducible refine (HLA.out _).mono ?_); intro e w1 hg; obtain ⟨a1, c1, rfl, hc1, hb1, hl1⟩ := hg; obtain ⟨p1, rfl⟩ := grown_of hb1; clear hb1))
              exact ret_cell_two w.heap.size (ruleV 0 []) (.bool false) (.int .i64 51) rfl rfl rfl rfl agg_rule (by simp [go_sem, hv2, hi2, hi4, hv4']) (by simp [go_sem, hv2, hi2, hi4, hv4']) rfl ⟨by rw [HO.out], below_setRow (by repeat (first | exact Below.refl _ _ | assumption | refine below_grown ?_ (by first | omega | (simp [go_sem]; done) | (simp [go_sem] <;> omega)) _ | refine Below.alloc ?_ (by first | omega | (simp [go_sem]; done) | (simp [go_sem] <;> omega)) _ | refine below_bytesW ?_ (by first | omega | (simp [go_sem]; done) | (simp [go_sem] <;> omega)) _ | refine Below.drew ?_ | refine below_drewN ?_ _)) (Nat.le_refl _) _⟩
            · obtain rfl : eH = 0 := by
                rcases HE.out with ⟨h, h'⟩ | ⟨h, h'⟩
                · exact h'
                · rw [w1] at h; cases h
              have HO := Lib.hid hO
              have hk1 : (H.kind != 1) = false := by rw [w2]; rfl
              subst w3
              have hl2 : ¬ (LL.length : Int) < 2 := by omega
              clear hO HE w1 w2 w4 HW
              go_wp2_with (first | (go_at_call 18; (with_reducible refine (HPA.out _).mono ?_); rintro e w1 ⟨rfl, hb1⟩; obtain ⟨p1, rfl⟩ := grown_of hb1; clear hb1) | (go_at_call 22; (with_reducible refine (HLA.out _).mono ?_); intro e w1 hg; obtain ⟨a1, c1, rfl, hc1, hb1, hl1⟩ := hg; obtain ⟨p1, rfl⟩ := grown_of hb1; clear hb1))
              exact ret_cell_two w.heap.size (ruleV 3 H.name) (.bool true) (.int .i64 0) rfl rfl rfl rfl agg_rule (by simp [go_sem, hv2, hi2, hi4, hv4']) (by simp [go_sem, hv2, hi2, hi4, hv4']) rfl ⟨by rw [HO.out], below_setRow (below_setRow (by repeat (first | exact Below.refl _ _ | assumption | refine below_grown ?_ (by first | omega | (simp [go_sem]; done) | (simp [go_sem] <;> omega)) _ | refine Below.alloc ?_ (by first | omega | (simp [go_sem]; done) | (simp [go_sem] <;> omega)) _ | refine below_bytesW ?_ (by first | omega | (simp [go_sem]; done) | (simp [go_sem] <;> omega)) _ | refine Below.drew ?_ | refine below_drewN ?_ _)) (Nat.le_succ _) _) (Nat.le_refl _) _⟩
            · obtain rfl : eH = 0 := by
                rcases HE.out with ⟨h, h'⟩ | ⟨h, h'⟩
                · exact h'
                · rw [w1] at h; cases h
              have HO := Lib.hid hO
              have hk1 : (H.kind != 1) = false := by rw [w2]; rfl
              have hk3 : (k == 3) = false := by rw [beq_eq_false_iff_ne]; exact w3
              clear hO HE w1 w2 w3 HW
              go_wp2_with (first | (go_at_call 18; (with_reducible refine (HPA.out _).mono ?_); rintro e w1 ⟨rfl, hb1⟩; obtain ⟨p1, rfl⟩ := grown_of hb1; clear hb1) | (go_at_call 22; (with_reducible refine (HLA.out _).mono ?_); intro e w1 hg; obtain ⟨a1, c1, rfl, hc1, hb1, hl1⟩ := hg; obtain ⟨p1, rfl⟩ := grown_of hb1; clear hb1))
              exact ret_cell_two w.heap.size (ruleV k H.name) (.bool true) (.int .i64 0) rfl rfl rfl rfl agg_rule (by simp [go_sem, hv2, hi2, hi4, hv4']) (by simp [go_sem, hv2, hi2, hi4, hv4']) rfl ⟨by rw [HO.out], below_setRow (below_setRow (by repeat (first | exact Below.refl _ _ | assumption | refine below_grown ?_ (by first | omega | (simp [go_sem]; done) | (simp [go_sem] <;> omega)) _ | refine Below.alloc ?_ (by first | omega | (simp [go_sem]; done) | (simp [go_sem] <;> omega)) _ | refine below_bytesW ?_ (by first | omega | (simp [go_sem]; done) | (simp [go_sem] <;> omega)) _ | refine Below.drew ?_ | refine below_drewN ?_ _)) (Nat.le_succ _) _) (Nat.le_refl _) _⟩
      · have hno : ¬ (n : Int) < u.length := by omega
        clear HEN HST
        go_upto_if 39 with (go_at_call 56; (with_reducible refine (HP3.out _).mono ?_); intro e w' h; obtain ⟨rfl, h2⟩ := h; subst w')
        go_cut [0] (fun s0 wx => s0 = .string ⟨nm.toArray⟩ ∧ Below w.heap.size w wx ∧ hasVar wx w.heap.size 2 = true ∧ Var wx (w.heap.size + 1) (ruleR k []))
        case first =>
          rcases HKW.out with ⟨rfl, hk⟩ | ⟨rfl, rfl, hk⟩ | ⟨rfl, rfl, hk⟩
          · have hl1 := HL1.out rfl
            obtain ⟨rfl, rfl⟩ := Prod.mk.inj hk
            clear hk
            go_wp2
            go_meet
            exact ⟨by simp, (by repeat (first | exact Below.refl _ _ | assumption | refine below_grown ?_ (by first | omega | (simp [go_sem]; done) | (simp [go_sem] <;> omega)) _ | refine Below.alloc ?_ (by first | omega | (simp [go_sem]; done) | (simp [go_sem] <;> omega)) _ | refine below_bytesW ?_ (by first | omega | (simp [go_sem]; done) | (simp [go_sem] <;> omega)) _ | refine Below.drew ?_ | refine below_drewN ?_ _)), by simp [go_sem], Var.new _ _ _ (by simp [ruleV, ruleR]) (by simp)⟩
          · have hl1 := HL2.out rfl
            obtain ⟨rfl, rfl⟩ := Prod.mk.inj hk
            clear hk
            go_wp2_with (go_at_call 56; (with_reducible refine (HP2.out _).mono ?_); intro e w' h; obtain ⟨rfl, h2⟩ := h; subst w')
            go_meet
            exact ⟨by simp, (by repeat (first | exact Below.refl _ _ | assumption | refine below_grown ?_ (by first | omega | (simp [go_sem]; done) | (simp [go_sem] <;> omega)) _ | refine Below.alloc ?_ (by first | omega | (simp [go_sem]; done) | (simp [go_sem] <;> omega)) _ | refine below_bytesW ?_ (by first | omega | (simp [go_sem]; done) | (simp [go_sem] <;> omega)) _ | refine Below.drew ?_ | refine below_drewN ?_ _)), by simp [go_sem], Var.new _ _ _ (by simp [ruleV, ruleR]) (by simp)⟩
          · obtain ⟨rfl, rfl⟩ := Prod.mk.inj hk
            clear hk
            go_wp2_with (go_at_call 56; (with_reducible refine (HP2.out _).mono ?_); intro e w' h; obtain ⟨rfl, h2⟩ := h; subst w')
            go_meet
            exact ⟨rfl, (by repeat (first | exact Below.refl _ _ | assumption | refine below_grown ?_ (by first | omega | (simp [go_sem]; done) | (simp [go_sem] <;> omega)) _ | refine Below.alloc ?_ (by first | omega | (simp [go_sem]; done) | (simp [go_sem] <;> omega)) _ | refine below_bytesW ?_ (by first | omega | (simp [go_sem]; done) | (simp [go_sem] <;> omega)) _ | refine Below.drew ?_ | refine below_drewN ?_ _)), by simp [go_sem], Var.new _ _ _ (by simp [ruleV, ruleR]) (by simp)⟩
        case rest =>
          obtain ⟨rfl, hbw, hv2, hv4⟩ := hcut
          have hbsz := hbw.size
          have hi4 : isOld (w.heap.size + 1) wc = true := isOld_iff.2 hv4.lt
          have hi2 : isOld w.heap.size wc = true := isOld_iff.2 (by have := hv4.lt; omega)
          have hv4' : hasVar wc (w.heap.size + 1) 2 = true := hv4.has rfl
          have hfz : ∀ (i : Nat), wc.frozen? ⟨w.heap.size + 1, i, none⟩ = false := fun i => hv4.free i
          have hc0 : wc.cell? ⟨w.heap.size + 1, 0, none⟩ = some (.int .i64 k) := hv4.cell 0 (by simp [ruleR])
          have hc1 : wc.cell? ⟨w.heap.size + 1, 1, none⟩ = some (.string ⟨([] : List UInt8).toArray⟩) := hv4.cell 1 (by simp [ruleR])
          have hst1 : ∀ (pp : Regrown) (O : Obj) (v : List UInt8), ((grown wc pp).alloc O).setCell ⟨w.heap.size + 1, 1, none⟩ (.string ⟨v.toArray⟩) = ((grown wc pp).alloc O).setRow (w.heap.size + 1) (ruleV k v) := fun pp O v => setCell_rule ((hv4.grown pp).alloc O) v
          have hst2 : ∀ (pp : Regrown) (O : Obj) (pp2 : Regrown) (v : List UInt8), (grown ((grown wc pp).alloc O) pp2).setCell ⟨w.heap.size + 1, 1, none⟩ (.string ⟨v.toArray⟩) = (grown ((grown wc pp).alloc O) pp2).setRow (w.heap.size + 1) (ruleV k v) := fun pp O pp2 v => setCell_rule (((hv4.grown pp).alloc O).grown pp2) v
          clear hv4 HKW HL1 HL2 HP2 HP3 HPR HT
          rcases HW.out with ⟨w1, hO⟩ | ⟨w1, w2, hO⟩ | ⟨w1, w2, w3, w4, hO⟩ | ⟨w1, w2, w3, w4, hO⟩ | ⟨w1, w2, w3, hO⟩
          · obtain rfl : eH = 31 := by
              rcases HE.out with ⟨h, h'⟩ | ⟨h, h'⟩
              · rw [w1] at h; cases h
              · exact h'
            have HO := Lib.hid hO
            clear hO HE w1 HW
            go_wp2_with (first | (go_at_call 18; (with_reducible refine (HPA.out _).mono ?_); rintro e w1 ⟨rfl, hb1⟩; obtain ⟨p1, rfl⟩ := grown_of hb1; clear hb1) | (go_at_call 22; (with_reducible refine (HLA.out _).mono ?_); intro e w1 hg; obtain ⟨a1, c1, rfl, hc1, hb1, hl1⟩ := hg; obtain ⟨p1, rfl⟩ := grown_of hb1; clear hb1))
            exact ret_cell_two w.heap.size (ruleV 0 []) (.bool false) (.int .i64 51) rfl rfl rfl rfl agg_rule (by simp [go_sem, hv2, hi2, hi4, hv4']) (by simp [go_sem, hv2, hi2, hi4, hv4']) rfl ⟨by rw [HO.out], below_setRow (by repeat (first | exact Below.refl _ _ | assumption | refine below_grown ?_ (by first | omega | (simp [go_sem]; done) | (simp [go_sem] <;> omega)) _ | refine Below.alloc ?_ (by first | omega | (simp [go_sem]; done) | (simp [go_sem] <;> omega)) _ | refine below_bytesW ?_ (by first | omega | (simp [go_sem]; done) | (simp [go_sem] <;> omega)) _ | refine Below.drew ?_ | refine below_drewN ?_ _)) (Nat.le_refl _) _⟩
          · obtain rfl : eH = 0 := by
              rcases HE.out with ⟨h, h'⟩ | ⟨h, h'⟩
              · exact h'
              · rw [w1] at h; cases h
            have HO := Lib.hid hO
            have hk1 : (H.kind != 1) = true := by rw [bne_iff_ne]; exact w2
            clear hO HE w1 w2 HW
            go_wp2_with (first | (go_at_call 18; (with_reducible refine (HPA.out _).mono ?_); rintro e w1 ⟨rfl, hb1⟩; obtain ⟨p1, rfl⟩ := grown_of hb1; clear hb1) | (go_at_call 22; (with_reducible refine (HLA.out _).mono ?_); intro e w1 hg; obtain ⟨a1, c1, rfl, hc1, hb1, hl1⟩ := hg; obtain ⟨p1, rfl⟩ := grown_of hb1; clear hb1))
            exact ret_cell_two w.heap.size (ruleV 0 []) (.bool false) (.int .i64 51) rfl rfl rfl rfl agg_rule (by simp [go_sem, hv2, hi2, hi4, hv4']) (by simp [go_sem, hv2, hi2, hi4, hv4']) rfl ⟨by rw [HO.out], below_setRow (by repeat (first | exact Below.refl _ _ | assumption | refine below_grown ?_ (by first | omega | (simp [go_sem]; done) | (simp [go_sem] <;> omega)) _ | refine Below.alloc ?_ (by first | omega | (simp [go_sem]; done) | (simp [go_sem] <;> omega)) _ | refine below_bytesW ?_ (by first | omega | (simp [go_sem]; done) | (simp [go_sem] <;> omega)) _ | refine Below.drew ?_ | refine below_drewN ?_ _)) (Nat.le_refl _) _⟩
          · obtain rfl : eH = 0 := by
              rcases HE.out with ⟨h, h'⟩ | ⟨h, h'⟩
              · exact h'
              · rw [w1] at h; cases h
            have HO := Lib.hid hO
            have hk1 : (H.kind != 1) = false := by rw [w2]; rfl
            subst w3
            have hl2 : (LL.length : Int) < 2 := by omega
            clear hO HE w1 w2 w4 HW
            go_wp2_with (first | (go_at_call 18; (with_reducible refine (HPA.out _).mono ?_); rintro e w1 ⟨rfl, hb1⟩; obtain ⟨p1, rfl⟩ := grown_of hb1; clear hb1) | (go_at_call 22; (with_reducible refine (HLA.out _).mono ?_); intro e w1 hg; obtain ⟨a1, c1, rfl, hc1, hb1, hl1⟩ := hg; obtain ⟨p1, rfl⟩ := grown_of hb1; clear hb1))
            exact ret_cell_two w.heap.size (ruleV 0 []) (.bool false) (.int .i64 51) rfl rfl rfl rfl agg_rule (by simp [go_sem, hv2, hi2, hi4, hv4']) (by simp [go_sem, hv2, hi2, hi4, hv4']) rfl ⟨by rw [HO.out], below_setRow (by repeat (first | exact Below.refl _ _ | assumption | refine below_grown ?_ (by first | omega | (simp [go_sem]; done) | (simp [go_sem] <;> omega)) _ | refine Below.alloc ?_ (by first | omega | (simp [go_sem]; done) | (simp [go_sem] <;> omega)) _ | refine below_bytesW ?_ (by first | omega | (simp [go_sem]; done) | (simp [go_sem] <;> omega)) _ | refine Below.drew ?_ | refine below_drewN ?_ _)) (Nat.le_refl _) _⟩
          · obtain rfl : eH = 0 := by
              rcases HE.out with ⟨h, h'⟩ | ⟨h, h'⟩
              · exact h'
              · rw [w1] at h; cases h
            have HO := Lib.hid hO
            have hk1 : (H.kind != 1) = false := by rw [w2]; rfl
            subst w3
            have hl2 : ¬ (LL.length : Int) < 2 := by omega
            clear hO HE w1 w2 w4 HW
            go_wp2_with (first | (go_at_call 18; (with_reducible refine (HPA.out _).mono ?_); rintro e w1 ⟨rfl, hb1⟩; obtain ⟨p1, rfl⟩ := grown_of hb1; clear hb1) | (go_at_call 22; (with_reducible refine (HLA.out _).mono ?_); intro e w1 hg; obtain ⟨a1, c1, rfl, hc1, hb1, hl1⟩ := hg; obtain ⟨p1, rfl⟩ := grown_of hb1; clear hb1))
            exact ret_cell_two w.heap.size (ruleV 3 H.name) (.bool true) (.int .i64 0) rfl rfl rfl rfl agg_rule (by simp [go_sem, hv2, hi2, hi4, hv4']) (by simp [go_sem, hv2, hi2, hi4, hv4']) rfl ⟨by rw [HO.out], below_setRow (below_setRow (by repeat (first | exact Below.refl _ _ | assumption | refine below_grown ?_ (by first | omega | (simp [go_sem]; done) | (simp [go_sem] <;> omega)) _ | refine Below.alloc ?_ (by first | omega | (simp [go_sem]; done) | (simp [go_sem] <;> omega)) _ | refine below_bytesW ?_ (by first | omega | (simp [go_sem]; done) | (simp [go_sem] <;> omega)) _ | refine Below.drew ?_ | refine below_drewN ?_ _)) (Nat.le_succ _) _) (Nat.le_refl _) _⟩
          · obtain rfl : eH = 0 := by
              rcases HE.out with ⟨h, h'⟩ | ⟨h, h'⟩
              · exact h'
              · rw [w1] at h; cases h
            have HO := Lib.hid hO
            have hk1 : (H.kind != 1) = false := by rw [w2]; rfl
            have hk3 : (k == 3) = false := by rw [beq_eq_false_iff_ne]; exact w3
            clear hO HE w1 w2 w3 HW
            go_wp2_with (first | (go_at_call 18; (with_reducible refine (HPA.out _).mono ?_); rintro e w1 ⟨rfl, hb1⟩; obtain ⟨p1, rfl⟩ := grown_of hb1; clear hb1) | (go_at_call 22; (with_reducible refine (HLA.out _).mono ?_); intro e w1 hg; obtain ⟨a1, c1, rfl, hc1, hb1, hl1⟩ := hg; obtain ⟨p1, rfl⟩ := grown_of hb1; clear hb1))
            exact ret_cell_two w.heap.size (ruleV k H.name) (.bool true) (.int .i64 0) rfl rfl rfl rfl agg_rule (by simp [go_sem, hv2, hi2, hi4, hv4']) (by simp [go_sem, hv2, hi2, hi4, hv4']) rfl ⟨by rw [HO.out], below_setRow (below_setRow (by repeat (first | exact Below.refl _ _ | assumption | refine below_grown ?_ (by first | omega | (simp [go_sem]; done) | (simp [go_sem] <;> omega)) _ | refine Below.alloc ?_ (by first | omega | (simp [go_sem]; done) | (simp [go_sem] <;> omega)) _ | refine below_bytesW ?_ (by first | omega | (simp [go_sem]; done) | (simp [go_sem] <;> omega)) _ | refine Below.drew ?_ | refine below_drewN ?_ _)) (Nat.le_succ _) _) (Nat.le_refl _) _⟩
end
end

section
open Go Go.RowKit
set_option maxRecDepth 20000
set_option linter.unusedSimpArgs false
set_option linter.unusedVariables false

structure GFault where
  code : Int
  line : Int
  col : Int
def faultR (c l k : Int) : List Value := [.int .i64 c, .int .i64 l, .int .i64 k]
def faultV (c l k : Int) : Array Value := (faultR c l k).toArray
@[go_sem] theorem faultV_size (c l k : Int) : (faultV c l k).size = 3 := by simp [faultV, faultR]
theorem fault_one (c l k : Int) : ∀ v ∈ faultR c l k, v.oneCell' = true := by
  intro v hv
  simp only [faultR, List.mem_cons, List.not_mem_nil, or_false] at hv
  rcases hv with rfl | rfl | rfl <;> rfl
@[go_sem] theorem faultV_one (c l k : Int) : allOne (faultV c l k) = true := allOne_of (fault_one c l k)
@[go_sem ↓ high] theorem faultV_0 (c l k : Int) : (faultV c l k)[0]? = some (.int .i64 c) := by simp [faultV, faultR]
@[go_sem ↓ high] theorem faultV_1 (c l k : Int) : (faultV c l k)[1]? = some (.int .i64 l) := by simp [faultV, faultR]
@[go_sem ↓ high] theorem faultV_2 (c l k : Int) : (faultV c l k)[2]? = some (.int .i64 k) := by simp [faultV, faultR]
@[go_sem] theorem faultV_all (c l k : Int) : (faultV c l k).extract 0 3 = faultV c l k := by
  rw [← faultV_size c l k]; simp
@[go_sem] theorem agg_fault : isAggT Tryz.prog 38 = true := by kernel_rfl
@[go_sem] theorem cellsOf_fault : Tryz.prog.cellsOf 38 = 3 := by kernel_rfl
def faultEq (c l k c' l' k' : Int) : Bool := c == c' && (l == l' && k == k')
theorem faultEq_iff {c l k c' l' k' : Int} : faultEq c l k c' l' k' = true ↔ c = c' ∧ l = l' ∧ k = k' := by
  simp [faultEq]
theorem cellsOf_errno : Tryz.prog.cellsOf 36 = 1 := by kernel_rfl
theorem keyLits_errno (D : Nat) (n : Int) (h : (Lit.int .i64 n).wf = true) : Tryz.prog.keyLits (D + 1) 36 [.int .i64 n] = some [.int .i64 n] := by
  simp [Program.keyLits, Tryz.underlying36, h]
theorem keyLits_fault (D : Nat) (c l k : Int) (h1 : (Lit.int .i64 c).wf = true) (h2 : (Lit.int .i64 l).wf = true) (h3 : (Lit.int .i64 k).wf = true) : Tryz.prog.keyLits (D + 3) 38 (faultR c l k) = some [.int .i64 c, .int .i64 l, .int .i64 k] := by
  unfold Program.keyLits
  rw [Tryz.underlying38]
  simp [cellsOf_fault, faultR, cellsOf_int, cellsOf_errno, keyLits_errno, keyLits_i64, h1, h2, h3]
theorem fault_rows (c l k c' l' k' : Int) (h1 : (Lit.int .i64 c).wf = true) (h2 : (Lit.int .i64 l).wf = true) (h3 : (Lit.int .i64 k).wf = true) (h1' : (Lit.int .i64 c').wf = true) (h2' : (Lit.int .i64 l').wf = true) (h3' : (Lit.int .i64 k').wf = true) (x y : Operand) (w : World) :
    eqRow Tryz.prog w 38 x y (.agg (faultV c l k)) (.agg (faultV c' l' k')) = .ok (.value (.bool (faultEq c l k c' l' k'))) w ∧
    neRow Tryz.prog w 38 x y (.agg (faultV c l k)) (.agg (faultV c' l' k')) = .ok (.value (.bool (!faultEq c l k c' l' k'))) w :=
  eq_rows (m := 10) (by kernel_rfl) (by decide) (by kernel_rfl) (keyLits_fault 0 c l k h1 h2 h3) (keyLits_fault 0 c' l' k' h1' h2' h3') (by simp [Value.formed, Tryz.underlying38, cellsOf_fault, faultR]) (by simp [Value.formed, Tryz.underlying38, cellsOf_fault, faultR])
    (by rw [faultEq_iff]; simp) x y w
@[go_sem] theorem eqRow_fault (c l k c' l' k' : Int) (h1 : (Lit.int .i64 c).wf = true) (h2 : (Lit.int .i64 l).wf = true) (h3 : (Lit.int .i64 k).wf = true) (h1' : (Lit.int .i64 c').wf = true) (h2' : (Lit.int .i64 l').wf = true) (h3' : (Lit.int .i64 k').wf = true) (x y : Operand) (w : World) :
    eqRow Tryz.prog w 38 x y (.agg (faultV c l k)) (.agg (faultV c' l' k')) = .ok (.value (.bool (faultEq c l k c' l' k'))) w := (fault_rows c l k c' l' k' h1 h2 h3 h1' h2' h3' x y w).1
@[go_sem] theorem neRow_fault (c l k c' l' k' : Int) (h1 : (Lit.int .i64 c).wf = true) (h2 : (Lit.int .i64 l).wf = true) (h3 : (Lit.int .i64 k).wf = true) (h1' : (Lit.int .i64 c').wf = true) (h2' : (Lit.int .i64 l').wf = true) (h3' : (Lit.int .i64 k').wf = true) (x y : Operand) (w : World) :
    neRow Tryz.prog w 38 x y (.agg (faultV c l k)) (.agg (faultV c' l' k')) = .ok (.value (.bool (!faultEq c l k c' l' k'))) w := (fault_rows c l k c' l' k' h1 h2 h3 h1' h2' h3' x y w).2
/-! ### built -/
theorem run_build_fault0 (w : World) : (Instr.build 38 #[]).run Tryz.prog w = .ok (.agg (faultV 0 0 0)) w := by kernel_rfl
theorem run_build_fault (c l k : Int) (w : World) : (Instr.build 38 #[(0, .int .i64 c), (1, .int .i64 l), (2, .int .i64 k)]).run Tryz.prog w = .ok (.agg (faultV c l k)) w := by kernel_rfl
@[go_sem ↓ high] theorem run_op_build_fault0 (ev : Operand → Value) (dst : Option Tmp) (ty : TypeId) (pos : String) (af : Array Edge) (g : Option (Nat × Bool)) (w : World) :
    Sem.run Tryz.prog (execOp ev { dst := dst, op := .build 38 #[], type := ty, pos := pos, after := af, guard := g }) w = .ok (.value (.agg (faultV 0 0 0))) w := by
  rw [run_op_build, buildRow, Sem.run_bind]
  simp [run_build_fault0]
@[go_sem ↓ high] theorem run_op_build_fault (ev : Operand → Value) (dst : Option Tmp) (x0 x1 x2 : Operand) (ty : TypeId) (pos : String) (af : Array Edge) (g : Option (Nat × Bool)) (w : World) :
    Sem.run Tryz.prog (execOp ev { dst := dst, op := .build 38 #[(0, x0), (1, x1), (2, x2)], type := ty, pos := pos, after := af, guard := g }) w = buildRow Tryz.prog w 38 #[(0, ev x0), (1, ev x1), (2, ev x2)] := by
  rw [run_op_build]
  simp
@[go_sem] theorem buildFault_at (c l k : Int) (w : World) : buildRow Tryz.prog w 38 #[(0, .int .i64 c), (1, .int .i64 l), (2, .int .i64 k)] = .ok (.value (.agg (faultV c l k))) w := by
  rw [buildRow, Sem.run_bind, run_build_fault]
  rfl
theorem ret_tmp_cell {P : Program} {fn : Func} {p u : Tmp} {ty : TypeId} {R : Ending → World → Prop} {a : Act} {w : World} (g : Nat) (cs : Array Value) (v : Value) (h : fn.results = #[.tmp u, .cell p ty]) (hp : a.tmps.getD p undef = .pointer (some ⟨g, 0, none⟩)) (hv : a.tmps.getD u undef = v) (hagg : isAggT P ty = true)
    (hr : hasRow w ⟨g, 0, none⟩ (P.cellsOf ty) = true) (hc : rowAt w ⟨g, 0, none⟩ (P.cellsOf ty) = cs) (hd : a.defers = []) (hR : R (.returned (.tuple #[v, .agg cs])) w) : bodyPost P fn R .ret a w := by
  refine bodyPost_ret (v := .tuple #[v, .agg cs]) ?_ hd hR
  have hp' : a.tmps[p]?.getD undef = .pointer (some ⟨g, 0, none⟩) := by simpa using hp
  have hv' : a.tmps[u]?.getD undef = v := by simpa using hv
  have := run_loadVar_agg (P := P) hagg ⟨g, 0, none⟩ w hr
  rw [hc] at this
  simp [results, h, hp', hv', asAddr, this]
/-! ### a slice and a fault -/
/-- A call hands back a slice of these values, in memory of its own, and a fault. -/
def GivesF {α : Type} (c : Cod α) (xs : List α) (f : Int × Int × Int) (w : World) (e : Ending) (w' : World) : Prop :=
  ∃ a cap, e = .returned (.tuple #[.slice a xs.length cap, .agg (faultV f.1 f.2.1 f.2.2)]) ∧ xs.length ≤ cap ∧ Below w.heap.size w w' ∧ ListIn c w' a xs w.heap.size
end

section
open Go Go.RowKit
set_option maxRecDepth 20000
set_option linter.unusedSimpArgs false
set_option linter.unusedVariables false

theorem back6P (a : GAddr) : v6Ok (text6L a.b) = true ∧ v6A (text6L a.b) = a := by
  have h := v6_text (grpL a.b) (grpG a).len
  obtain ⟨h1, h2⟩ := v6_yes h (grpG a).len
  exact ⟨h1, h2.trans (addr_ext (from_grp a.b (by rw [a.len])))⟩
theorem decT_low (c : UInt8) : lowerL (decT c.toNat) = decT c.toNat ∧ digitsB (decT c.toNat) = true ∧ Lib.hasPrefix (decT c.toNat) [91] = false ∧ decT c.toNat ≠ [] := by
  have key : ∀ i : Fin 256, lowerL (decT i.val) = decT i.val ∧ digitsB (decT i.val) = true ∧ Lib.hasPrefix (decT i.val) [91] = false ∧ decT i.val ≠ [] := by decide +kernel
  exact key ⟨c.toNat, c.toNat_lt⟩
theorem text4_back (a : List UInt8) (ha : a.length = 16) : six (text4L a) = false ∧ lastD (text4L a) = true := by
  have hl : lowerL (text4L a) = text4L a := by
    unfold text4L
    rw [lowerL_join, List.map_map]
    congr 1
    exact List.map_congr_left fun c _ => (decT_low c).1
  have h4 : (a.drop 12).length = 4 := by rw [List.length_drop, ha]
  obtain ⟨x, y, z, u, e⟩ : ∃ x y z u, a.drop 12 = [x, y, z, u] := by
    rcases hq : a.drop 12 with _ | ⟨x, _ | ⟨y, _ | ⟨z, _ | ⟨u, _ | ⟨v, M⟩⟩⟩⟩⟩
    all_goals (rw [hq] at h4; simp at h4)
    exact ⟨x, y, z, u, rfl⟩
  refine ⟨?_, ?_⟩
  · have h1 := (decT_low x).2.2
    obtain ⟨d, t, hd⟩ : ∃ d t, decT x.toNat = d :: t := by
      rcases hq : decT x.toNat with _ | ⟨d, t⟩
      · exact absurd hq h1.2
      · exact ⟨d, t, rfl⟩
    have hp := h1.1
    unfold six text4L
    rw [e]
    rw [hd] at hp
    have e2 : joinL 46 (([x, y, z, u] : List UInt8).map fun c => decT c.toNat) = d :: (t ++ 46 :: joinL 46 (([y, z, u] : List UInt8).map fun c => decT c.toNat)) := by
      show decT x.toNat ++ 46 :: _ = _
      rw [hd]; rfl
    rw [e2]
    have hq : ((91 : UInt8) == d && List.isPrefixOf [] t) = false := hp
    show ((91 : UInt8) == d && List.isPrefixOf [] _) = false
    have : ((91 : UInt8) == d) = false := by
      have e3 : List.isPrefixOf ([] : List UInt8) t = true := by cases t <;> rfl
      rwa [e3, Bool.and_true] at hq
    rw [this, Bool.false_and]
  · unfold lastD lastL labsL
    rw [hl, text4_split a ha, e]
    exact (decT_low u).2.1
theorem parse_right {s : List UInt8} (h : parseOk s = true) : rightB (parseH s) = true := by
  cases h6 : six s
  · cases hD : lastD s
    · have hB : nameB s = true := by rwa [parseOk_name h6 hD] at h
      have hp := (parse_name h6 hD hB).1
      unfold nameB at hB
      simp only [Bool.and_eq_true, decide_eq_true_eq] at hB
      have hll : (lowerL s).length ≤ 253 := by simpa [lowerL] using hB.1
      have hk := (name_right hll hB.2 (by unfold lastD lastL labsL at hD; exact hD)).1
      rw [hp]
      unfold nameOk at hk
      simp only [Bool.and_eq_true] at hk
      exact hk.2
    · have hB : v4Ok s = true := by rwa [parseOk_four h6 hD] at h
      have hp := (parse_four h6 hD).1
      rw [hB] at hp
      have hp2 : parseH s = v4H (v4A s) := hp
      have hb : (v4A s).b = v4B s := v4_yes hB
      obtain ⟨t1, t2⟩ := text4_back (v4A s).b (v4A s).len
      obtain ⟨o1, o2⟩ := v4_text (v4A s).b (v4A s).len
      have ht : textH (v4H (v4A s)) = text4L (v4A s).b := rfl
      have hA : v4A (text4L (v4A s).b) = v4A s := addr_ext (by
        rw [v4_yes o1, o2, hb]
        unfold v4B
        rw [List.drop_append, List.drop_of_length_le (by simp), List.length_replicate]; simp)
      rw [hp2]
      unfold rightB
      rw [ht, parseOk_four t1 t2, (parse_four t1 t2).1, o1, hA]
      simp only [Bool.true_and]
      exact (hostEq_iff _ _).2 rfl
  · have hp := (parse_six h6).1
    rw [parseOk_six h6] at h
    rw [h] at hp
    have hp2 : parseH s = v6H (v6A (in6 s)) := hp
    generalize v6A (in6 s) = a at *
    have ht : textH (v6H a) = 91 :: (text6L a.b ++ [93]) := rfl
    have t6 : six (91 :: (text6L a.b ++ [93])) = true := by
      show ((91 : UInt8) == 91 && List.isPrefixOf ([] : List UInt8) (text6L a.b ++ [93])) = true
      have e3 : ∀ t, List.isPrefixOf ([] : List UInt8) t = true := fun t => by cases t <;> rfl
      rw [e3]; rfl
    have i1 : in1 (91 :: (text6L a.b ++ [93])) = text6L a.b ++ [93] := by
      unfold in1 Lib.trimPrefix
      rw [if_pos (show Lib.hasPrefix (91 :: (text6L a.b ++ [93])) [91] = true from t6)]; rfl
    have c1 : closedB (91 :: (text6L a.b ++ [93])) = true := by
      unfold closedB Lib.hasSuffix
      rw [i1, List.isSuffixOf_iff_suffix]
      exact List.suffix_append _ _
    have i6 : in6 (91 :: (text6L a.b ++ [93])) = text6L a.b := by
      unfold in6 Lib.trimSuffix
      unfold closedB at c1
      rw [if_pos c1, i1]; simp
    rw [hp2]
    unfold rightB
    rw [ht, parseOk_six t6, (parse_six t6).1, i6, c1, (back6P a).1, (back6P a).2]
    simp only [Bool.true_and]
    exact (hostEq_iff _ _).2 rfl
end

section
open Go Go.RowKit
set_option maxRecDepth 20000
set_option linter.unusedSimpArgs false
set_option linter.unusedVariables false

def colR (s : List UInt8) : Int := ((s.length - (Lib.trimLeftS s [32, 9]).length + 1 : Nat) : Int)
theorem trimLeft_le (s cs : List UInt8) : (Lib.trimLeftS s cs).length ≤ s.length := by
  unfold Lib.trimLeftS
  exact (List.dropWhile_sublist _).length_le
theorem trimLeft_at (s : List UInt8) (k : Nat) (hk : k ≤ s.length) (ha : (s.take k).all blankSp = true) (hc : k = s.length ∨ ∃ h : k < s.length, blankSp (s[k]'h) = false) : (Lib.trimLeftS s [32, 9]).length = s.length - k := by
  have := Lib.trimLeftS_drop s [32, 9] k hk (fun j b hj hb => by
    obtain ⟨hl, rfl⟩ := List.getElem?_eq_some_iff.1 hb
    have : s[j] ∈ s.take k := by rw [List.mem_take_iff_getElem]; exact ⟨j, by omega, rfl⟩
    exact List.all_eq_true.1 ha _ this) (fun b hb => by
    obtain ⟨hl, rfl⟩ := List.getElem?_eq_some_iff.1 hb
    rcases hc with h | ⟨h, hc⟩
    · omega
    · exact hc)
  rw [this, List.length_drop]
theorem all_take_sp (l : List UInt8) (k : Nat) (h : k < l.length) : (l.take (k + 1)).all blankSp = ((l.take k).all blankSp && blankSp (l[k]'h)) := by
  rw [List.take_succ_eq_append_getElem h, List.all_append]; simp
set_option maxHeartbeats 1000000 in
theorem refColumn_any (s : List UInt8) (hs : s.length ≤ 4294967000) (w : World) :
    Calls Tryz.prog 36 #[.string ⟨s.toArray⟩] w fun e w' => e = .returned (.int .i64 (colR s)) ∧ w = w' := by
  have HTA := Lib.hid (trimLeft_at s)
  have HC : Hid (colR s = ((s.length - (Lib.trimLeftS s [32, 9]).length + 1 : Nat) : Int)) := rfl
  generalize Lib.trimLeftS s [32, 9] = t at *
  generalize colR s = col at *
  go_enter Tryz.func36, Tryz.ntmps36
  go_wp2
  go_loop [3] (fun n => ∃ k : Nat, k ≤ s.length ∧ n = .int .i64 ((k : Int) + 1) ∧ Hid ((s.take k).all blankSp = true)) (fun n => s.length + 1 - (intOf n).toNat)
  case atStart => exact ⟨0, Nat.zero_le _, rfl, rfl⟩
  case round =>
    obtain ⟨k, hk, rfl, hinv⟩ := hrel
    by_cases hlt : k < s.length
    · have HS := Lib.hid (all_take_sp s k hlt)
      have HTK := Lib.hid (HTA.out k hk hinv.out)
      have hi : ((k : Int) + 1) ≤ (s.length : Int) := by omega
      have e1 : IntKind.i64.wrap ((k : Int) + 1 - 1) = (k : Int) + 1 - 1 := IntWalk.i64_in _ (by omega)
      have e1' : (k : Int) + 1 - 1 = (k : Int) := by omega
      have hp : blankSp (s[k]'hlt) = false → t.length = s.length - k := fun h => HTK.out (.inr ⟨hlt, h⟩)
      have HPP := Lib.hid hp
      clear hp
      obtain ⟨c, hcc⟩ : ∃ c, ∀ h, s[k]'h = c := ⟨s[k]'hlt, fun _ => rfl⟩
      rw [hcc] at HS HPP
      rcases blank_cases c with ⟨c1, hc⟩ | ⟨c1, c2, hc⟩ | ⟨c1, c2, hc⟩
      · go_wp2
        go_round
        case rel => exact ⟨k + 1, by omega, by go_num, show _ = true by rw [HS.out, hinv.out, hc]; rfl⟩
        case measure => simp [intOf]; omega
      · go_wp2
        go_round
        case rel => exact ⟨k + 1, by omega, by go_num, show _ = true by rw [HS.out, hinv.out, hc]; rfl⟩
        case measure => simp [intOf]; omega
      · have hT := HPP.out hc
        go_wp2
        go_ret
        refine ⟨?_, rfl⟩
        rw [HC.out, hT]
        exact congrArg (fun z => Ending.returned (Value.int .i64 z)) (by omega)
    · obtain rfl : k = s.length := by omega
      have hT := HTA.out _ (Nat.le_refl _) hinv.out (.inl rfl)
      go_wp2
      go_ret
      refine ⟨?_, rfl⟩
      rw [HC.out, hT]
      exact congrArg (fun z => Ending.returned (Value.int .i64 z)) (by omega)
end

section
open Go Go.RowKit
set_option maxRecDepth 20000
set_option linter.unusedSimpArgs false
set_option linter.unusedVariables false

abbrev GRule := Int × List UInt8
abbrev GFlt := Int × Int × Int
/-- From a line on, with these rules so far: the rules and the fault. -/
def ruleStep : List (List UInt8) → Nat → List GRule → List GRule × GFlt
  | [], _, out => (out, 0, 0, 0)
  | x :: L, i, out =>
    if (ruleOut x).2.2 ≠ 0 then ([], (ruleOut x).2.2, (i : Int) + 1, colR x)
    else if (ruleOut x).2.1 = false then ruleStep L (i + 1) out
    else if out.contains (ruleOut x).1 = true then ([], 52, (i : Int) + 1, colR x)
    else if 200 ≤ out.length then ([], 53, (i : Int) + 1, colR x)
    else ruleStep L (i + 1) (out ++ [(ruleOut x).1])
def ruleFile (s : List UInt8) : List GRule × GFlt := if 20000 < s.length then ([], 54, 1, 1) else ruleStep (linesL s) 0 []
theorem ruleStep_at (L : List (List UInt8)) (k : Nat) (h : k < L.length) (out : List GRule) : ruleStep (L.drop k) k out =
    if (ruleOut (L[k]'h)).2.2 ≠ 0 then ([], (ruleOut (L[k]'h)).2.2, (k : Int) + 1, colR (L[k]'h))
    else if (ruleOut (L[k]'h)).2.1 = false then ruleStep (L.drop (k + 1)) (k + 1) out
    else if out.contains (ruleOut (L[k]'h)).1 = true then ([], 52, (k : Int) + 1, colR (L[k]'h))
    else if 200 ≤ out.length then ([], 53, (k : Int) + 1, colR (L[k]'h))
    else ruleStep (L.drop (k + 1)) (k + 1) (out ++ [(ruleOut (L[k]'h)).1]) := by
  rw [List.drop_eq_getElem_cons h]; rfl
theorem ruleStep_end (L : List (List UInt8)) (out : List GRule) : ruleStep (L.drop L.length) L.length out = (out, 0, 0, 0) := by
  rw [List.drop_length]; rfl
theorem linesL_piece (s x : List UInt8) (h : x ∈ linesL s) : x.length ≤ s.length := by
  unfold linesL at h
  obtain ⟨y, hy, rfl⟩ := List.mem_map.1 h
  have h1 : (cutCR y).length ≤ y.length := by
    unfold cutCR Lib.trimSuffix
    split
    · simp
    · exact Nat.le_refl _
  have h2 : y ∈ splitL 10 s := by
    unfold dropEmpty at hy
    split at hy
    · exact List.dropLast_subset _ hy
    · exact hy
  have := splitL_piece_le 10 s y h2
  omega
theorem linesL_le' (l : List UInt8) : (linesL l).length ≤ l.length + 1 := by
  have h1 := splitL_length_le 10 l
  unfold linesL
  rw [List.length_map]
  unfold dropEmpty
  split
  · rw [List.length_dropLast]; omega
  · omega
theorem ruleOut_err (s : List UInt8) : (ruleOut s).2.2 = 0 ∨ ((ruleOut s).2.2 = 51 ∧ (ruleOut s).2.1 = false) := by
  rcases rule_ways s with ⟨_, h⟩ | ⟨_, _, h⟩ | ⟨_, _, h⟩
  · rw [h]; exact .inl rfl
  · rw [h]; exact .inl rfl
  · rcases h with ⟨_, h⟩ | ⟨_, _, h⟩ | ⟨_, _, _, _, h⟩ | ⟨_, _, _, _, h⟩ | ⟨_, _, _, h⟩ <;> rw [h]
    · exact .inr ⟨rfl, rfl⟩
    · exact .inr ⟨rfl, rfl⟩
    · exact .inr ⟨rfl, rfl⟩
    · exact .inl rfl
    · exact .inl rfl
theorem ruleOut_bd' (s : List UInt8) : ((ruleOut s).1.1 = 0 ∨ (ruleOut s).1.1 = 1 ∨ (ruleOut s).1.1 = 2 ∨ (ruleOut s).1.1 = 3) ∧ (ruleOut s).1.2.length ≤ 253 := by
  rcases rule_ways s with ⟨_, h⟩ | ⟨_, _, h⟩ | ⟨_, _, h⟩
  · rw [h]; exact ⟨.inl rfl, Nat.zero_le _⟩
  · rw [h]; exact ⟨.inl rfl, Nat.zero_le _⟩
  · rcases h with ⟨_, h⟩ | ⟨_, _, h⟩ | ⟨_, _, _, _, h⟩ | ⟨_, _, _, _, h⟩ | ⟨_, _, _, h⟩
    · rw [h]; exact ⟨.inl rfl, Nat.zero_le _⟩
    · rw [h]; exact ⟨.inl rfl, Nat.zero_le _⟩
    · rw [h]; exact ⟨.inl rfl, Nat.zero_le _⟩
    · rw [h]; exact ⟨.inr (.inr (.inr rfl)), parseH_name _⟩
    · rw [h]; exact ⟨.inr (ruleKind_1 _), parseH_name _⟩
theorem wf_kind' {k : Int} (h : k = 0 ∨ k = 1 ∨ k = 2 ∨ k = 3) : (Lit.int .i64 k).wf = true := by
  rcases h with rfl | rfl | rfl | rfl <;> rfl
/-- A rule as it lies in a slice. -/
def ruleCod : Cod GRule where
  E := 50
  S := 22
  sz := 2
  bys := 24
  z := .agg (ruleV 0 [])
  enc := fun r => ruleR r.1 r.2
  und := by kernel_rfl
  info := by kernel_rfl
  zsz := by rfl
  pos := by decide
  len := fun _ => rfl
  one := fun r => rule_one r.1 r.2
theorem ruleAt {w : World} {b o : Nat} {xs : List GRule} (h : ListAt ruleCod w b o xs) (j : Nat) (hj : j < xs.length) :
    w.cell? ⟨b, o + j * 2, none⟩ = some (.int .i64 (xs[j]'hj).1) ∧ w.cell? ⟨b, o + j * 2 + 1, none⟩ = some (.string ⟨(xs[j]'hj).2.toArray⟩) := by
  have e0 := ruleCod.encs_get xs j hj 0 (by decide)
  have e1 := ruleCod.encs_get xs j hj 1 (by decide)
  exact ⟨h (j * 2 + 0) _ e0, by rw [Nat.add_assoc]; exact h (j * 2 + 1) _ e1⟩
theorem ruleRow {w : World} {b o : Nat} {xs : List GRule} (h : ListAt ruleCod w b o xs) (j : Nat) (hj : j < xs.length) :
    hasRow w ⟨b, o + j * 2, none⟩ 2 = true ∧ rowAt w ⟨b, o + j * 2, none⟩ 2 = ruleV (xs[j]'hj).1 (xs[j]'hj).2 := by
  obtain ⟨h0, h1⟩ := ruleAt h j hj
  refine ⟨?_, ?_⟩
  · rw [hasRow_iff]
    intro i hi
    rw [add_mk]
    match i, hi with
    | 0, _ => rw [Nat.add_zero, h0]; rfl
    | 1, _ => rw [h1]; rfl
  · have e : rowAt w ⟨b, o + j * 2, none⟩ 2 = #[(w.cell? ⟨b, o + j * 2, none⟩).getD undef, (w.cell? ⟨b, o + j * 2 + 1, none⟩).getD undef] := by
      simp [rowAt, List.range_succ, add_mk]
    rw [e, h0, h1]; rfl
end

section
open Go Go.RowKit
set_option maxRecDepth 20000
set_option linter.unusedSimpArgs false
set_option linter.unusedVariables false

theorem ListAt.into {α : Type} {c : Cod α} {w w' : World} {b o : Nat} {xs : List α} (h : ListAt c w b o xs) (hb : Below w.heap.size w w') : ListAt c w' b o xs := h.below hb
theorem ListIn.setRow {α : Type} {c : Cod α} {w : World} {a : Option Addr} {xs : List α} {lo : Nat} (h : ListIn c w a xs lo) {g : Nat} (hg : g < lo) (cs : Array Value) : ListIn c (w.setRow g cs) a xs lo := by
  rcases h with h | ⟨b, o, h1, h2, h3, h4⟩
  · exact .inl h
  · refine .inr ⟨b, o, h1, h2, by rw [setRow_size']; exact h3, fun j u hj => ?_⟩
    rw [cell_setRow_other _ _ _ _ _ (by omega)]
    exact h4 j u hj
theorem Own.made1 {α : Type} {c : Cod α} {Q : Nat → Prop} {w : World} {t : TypeId} {b : Nat} (ht : t = c.E) (hb : b = w.heap.size) (h : Q b) : Own c Q (w.alloc (.cells #[] t)) (.slice (some ⟨b, 0, none⟩) 0 0) [] := by
  subst hb
  exact Own.made0 h ht
def okR (r : GRule) : Prop := (r.1 = 0 ∨ r.1 = 1 ∨ r.1 = 2 ∨ r.1 = 3) ∧ r.2.length ≤ 253
theorem contains_take (P : List GRule) (r : GRule) (n : Nat) (h : n < P.length) : (P.take (n + 1)).contains r = ((P.take n).contains r || (r == P[n]'h)) := by
  rw [List.take_succ_eq_append_getElem h, Bool.eq_iff_iff]
  simp only [Bool.or_eq_true, List.contains_iff_mem, List.mem_append, List.mem_singleton, beq_iff_eq]
theorem contains_at (P : List GRule) (r : GRule) (n : Nat) (h : n < P.length) (e : P[n]'h = r) : P.contains r = true := by
  rw [List.contains_iff_mem, ← e]; exact List.getElem_mem h
set_option maxRecDepth 100000 in
set_option maxHeartbeats 8000000 in
theorem refRuleFile_any (s : List UInt8) (hs : s.length ≤ 100000) (w : World) :
    Calls Tryz.prog 17 #[.string ⟨s.toArray⟩] w (GivesF ruleCod (ruleFile s).1 (ruleFile s).2 w) := by
  by_cases hlong : (20000 : Int) < s.length
  · have e : ruleFile s = ([], 54, 1, 1) := by unfold ruleFile; rw [if_pos (by omega)]
    rw [e]
    go_enter Tryz.func17, Tryz.ntmps17
    go_wp2
    exact ret_tmp_cell w.heap.size (faultV 54 1 1) (.slice none 0 0) rfl rfl rfl agg_fault (by simp [go_sem]) (by simp [go_sem]) rfl ⟨none, 0, rfl, Nat.le_refl _, below_setRow (by repeat (first | exact Below.refl _ _ | assumption | refine below_grown ?_ (by first | omega | (simp [go_sem]; done) | (simp [go_sem] <;> omega)) _ | refine Below.alloc ?_ (by first | omega | (simp [go_sem]; done) | (simp [go_sem] <;> omega)) _ | refine below_bytesW ?_ (by first | omega | (simp [go_sem]; done) | (simp [go_sem] <;> omega)) _ | refine Below.drew ?_ | refine below_drewN ?_ _)) (Nat.le_refl _) _, .inl rfl⟩
  · have e : ruleFile s = ruleStep (linesL s) 0 [] := by unfold ruleFile; rw [if_neg (by omega)]
    rw [e]
    have HL := Lib.hid (fun w => refLines_any s (by omega) w)
    have HPL := Lib.hid (linesL_piece s)
    have hLl := linesL_le' s
    generalize linesL s = L at *
    clear e
    obtain ⟨RES, hres⟩ : ∃ RES, ruleStep L 0 [] = RES := ⟨_, rfl⟩
    rw [hres]
    have HRES := Lib.hid hres
    clear hres
    go_enter Tryz.func17, Tryz.ntmps17
    go_wp2_with (go_at_call 34; (with_reducible refine (HL.out _).mono ?_); intro e w1 hg; obtain ⟨a1, c1, rfl, hc1, hb1, hin1⟩ := hg; have HBC := Lib.hid hb1; have HIN := Lib.hid hin1; clear hb1 hin1)
    have hs0 := HBC.out.size
    simp at hs0
    have HV3 : Hid (hasVar w1 w.heap.size 3 = true) := (hasVar_congr (HBC.out.block _ (by simp <;> omega))).trans (by simp [go_sem])
    go_loopw [4, 20] (fun out i wr => ∃ (k : Nat) (P : List GRule), k ≤ L.length ∧ P.length ≤ k ∧ i = .int .i64 k ∧ Keeps (Also (w.heap.size + 1) w1.heap.size) w1 wr ∧ Own ruleCod (Also (w.heap.size + 1) w1.heap.size) wr out P ∧ Hid (ruleStep (L.drop k) k P = RES) ∧ Hid (∀ r ∈ P, okR r)) (fun _ i _ => L.length - (intOf i).toNat)
    case atStart => exact ⟨0, [], Nat.zero_le _, Nat.le_refl _, rfl, Keeps.refl _ _, (Own.made1 rfl (by simp) (Or.inl rfl)).below HBC.out, by rw [List.drop_zero]; exact HRES.out, fun r h => by cases h⟩
    case round =>
      obtain ⟨k, P, hk, hPk, rfl, hb, ho, hinv, HPW⟩ := hrel
      have hsz := hb.size
      have HB := Lib.hid hb
      have HO := Lib.hid ho
      have HBE : Hid (Below w.heap.size w wr) := ((((Below.refl _ _).alloc (Nat.le_refl _) _).alloc (by simp) _).trans ((HBC.out.mono (by first | omega | (simp; done) | (simp; omega) | (simp [go_sem]; done) | (simp [go_sem]; omega) | (simp [strCod]; omega))).trans ((hb.below_also (by omega) (Nat.le_refl _)).mono (by omega))))
      have HVR : Hid (hasVar wr w.heap.size 3 = true) := (hasVar_congr (hb.block _ (by omega) (by intro hn; rcases hn with hn | hn <;> first | omega | (simp at hn; omega)))).trans HV3.out
      clear hb ho
      obtain ⟨a, cap, rfl, hcap, hin⟩ := HO.out.slice (B := w.heap.size + 1) (fun _ h => also_le (by omega) h)
      have HINP := Lib.hid hin
      clear hin
      by_cases hlt : k < L.length
      · obtain ⟨b1, o1, rfl, hlo1, hhi1, hat1⟩ := HIN.out.resolve_left (fun h => by subst h; exact absurd hlt (Nat.not_lt_zero _))
        have hlo2 : w.heap.size + 1 + 1 ≤ b1 := by simpa using hlo1
        have hcell := strAt (hat1.keeps HB.out hhi1 (by intro hn; rcases hn with hn | hn <;> first | omega | (simp at hn; omega))) k hlt
        have hx := HPL.out _ (List.getElem_mem hlt)
        have HST := Lib.hid (ruleStep_at L k hlt P)
        have HRL := Lib.hid (fun w => refRuleLine_any (L[k]'hlt) (by omega) w)
        have HCOL := Lib.hid (fun w => refColumn_any (L[k]'hlt) (by omega) w)
        have hbd := ruleOut_bd' (L[k]'hlt)
        have hre := ruleOut_err (L[k]'hlt)
        have hst := HST.out
        rw [hinv.out] at hst
        clear HST hinv
        generalize L[k]'hlt = x at *
        obtain ⟨⟨⟨kk, nn⟩, says, er⟩, ho⟩ : ∃ o, ruleOut x = o := ⟨_, rfl⟩
        rw [ho] at HRL hbd hst hre
        dsimp only at HRL hbd hst hre
        clear ho
        have HSTP := Lib.hid hst
        clear hst
        have hk1 : (Lit.int .i64 kk).wf = true := wf_kind' hbd.1
        have hn1 : nn.length ≤ maxLen := by unfold maxLen; omega
        have hwk : IntKind.i64.wrap ((k : Int) + 1) = (k : Int) + 1 := IntWalk.i64_in _ (by omega)
        go_upto_region 8 with (go_at_call 35; (with_reducible refine (HRL.out _).mono ?_); intro e w2 he; obtain ⟨rfl, hb2⟩ := he; have HB2 := Lib.hid hb2; clear hb2)
        have hsz2 := HB2.out.size
        have hv3 : hasVar w2 w.heap.size 3 = true := (hasVar_congr (HB2.out.block _ (by omega))).trans HVR.out
        have hi3 : isOld w.heap.size w2 = true := isOld_iff.2 (by omega)
        have HBW : Hid (Below w.heap.size w w2) := HBE.out.trans (HB2.out.mono (by omega))
        have HK3 : Hid (Keeps (Also (w.heap.size + 1) w1.heap.size) w1 (w2.alloc (Obj.cells (ruleV kk nn) 50))) := (HB.out.bel HB2.out).alloc _
        have HO3 : Hid (Own ruleCod (Also (w.heap.size + 1) w1.heap.size) (w2.alloc (Obj.cells (ruleV kk nn) 50)) (.slice a P.length cap) P) := (HO.out.below HB2.out).alloc _
        by_cases he : er = 0
        · subst he
          cases says
          · have HS2 : Hid (ruleStep (L.drop (k + 1)) (k + 1) P = RES) := by
              have := HSTP.out
              rw [if_neg (by simp), if_pos rfl] at this
              exact this.symm
            clear HSTP
            go_wp2
            go_roundw
            case rel => exact ⟨k + 1, P, by omega, by omega, by go_num, HK3.out, HO3.out, HS2.out, HPW.out⟩
            case measure => simp [intOf]; omega
          · have HV7 : Hid (Var (w2.alloc (Obj.cells (ruleV kk nn) 50)) w2.heap.size (ruleR kk nn)) := Var.new _ _ _ rfl rfl
            have HIN3 : Hid (ListIn ruleCod (w2.alloc (Obj.cells (ruleV kk nn) 50)) a P (w.heap.size + 1)) := by
              rcases HINP.out with h | ⟨g, o, h1, h2, h3, h4⟩
              · exact .inl h
              · exact .inr ⟨g, o, h1, h2, by simp; omega, (h4.below HB2.out).below ((Below.refl _ _).alloc (Nat.le_refl _) _)⟩
            have HBW3 : Hid (Below w.heap.size w (w2.alloc (Obj.cells (ruleV kk nn) 50))) := HBW.out.alloc (by omega) _
            have hsz3 : w2.heap.size + 1 = (w2.alloc (Obj.cells (ruleV kk nn) 50)).heap.size := by simp
            have HV33 : Hid (hasVar (w2.alloc (Obj.cells (ruleV kk nn) 50)) w.heap.size 3 = true) := by show _ = _; simp [go_sem, hv3, hi3]
            clear hv3 hi3
            go_upto_region 10 with fail
            generalize w2.alloc (Obj.cells (ruleV kk nn) 50) = w3 at *
            go_wp2
            go_loopw [43] (fun j wr => ∃ n : Nat, n ≤ P.length ∧ j = .int .i64 n ∧ Below w3.heap.size w3 wr ∧ Hid ((P.take n).contains (kk, nn) = false)) (fun j _ => P.length - (intOf j).toNat)
            case atStart => exact ⟨0, Nat.zero_le _, rfl, Below.refl _ _, rfl⟩
            case round =>
              obtain ⟨n, hn, rfl, hb', hno⟩ := hrel
              have hsz4 := hb'.size
              have hr7 : hasRow wr ⟨w2.heap.size, 0, none⟩ 2 = true := (HV7.out.below hb').hasRow rfl
              have hq7 : rowAt wr ⟨w2.heap.size, 0, none⟩ 2 = ruleV kk nn := (HV7.out.below hb').rowAt rfl
              have hv3 : hasVar wr w.heap.size 3 = true := (hasVar_congr (hb'.block _ (by omega))).trans HV33.out
              have hi3 : isOld w.heap.size wr = true := isOld_iff.2 (by omega)
              have hi7 : isOld w2.heap.size wr = true := isOld_iff.2 (by omega)
              have HB4 := Lib.hid hb'
              have HBW4 : Hid (Below w.heap.size w wr) := HBW3.out.trans (hb'.mono (by omega))
              clear hb'
              by_cases hnl : n < P.length
              · obtain ⟨g, o, rfl, hlo, hhi, hat⟩ := HIN3.out.resolve_left (fun h => by subst h; exact absurd hnl (Nat.not_lt_zero _))
                obtain ⟨hrow, hqow⟩ := ruleRow (hat.below HB4.out) n hnl
                have HT := Lib.hid (contains_take P (kk, nn) n hnl)
                have HAT := Lib.hid (contains_at P (kk, nn) n hnl)
                have hpw := HPW.out _ (List.getElem_mem hnl)
                clear hat
                obtain ⟨⟨pk, pn⟩, hp⟩ : ∃ r, P[n]'hnl = r := ⟨_, rfl⟩
                rw [hp] at hqow HT HAT hpw
                clear hp
                dsimp only at hqow
                have hk2 : (Lit.int .i64 pk).wf = true := wf_kind' hpw.1
                have hn2 : pn.length ≤ maxLen := by have := hpw.2; unfold maxLen; dsimp only at this; omega
                clear hpw
                cases hq : ruleEq pk pn kk nn
                · have HF : Hid ((P.take (n + 1)).contains (kk, nn) = false) := by
                    show _ = _
                    rw [HT.out, hno.out, Bool.false_or, beq_eq_false_iff_ne]
                    intro e
                    obtain ⟨rfl, rfl⟩ := Prod.mk.inj e
                    rw [ruleEq_iff.2 ⟨rfl, rfl⟩] at hq
                    cases hq
                  go_wp2
                  go_roundw
                  case rel => exact ⟨n + 1, by omega, by go_num, (by repeat (first | exact Below.refl _ _ | assumption | refine below_grown ?_ (by first | omega | (simp [go_sem]; done) | (simp [go_sem] <;> omega)) _ | refine Below.alloc ?_ (by first | omega | (simp [go_sem]; done) | (simp [go_sem] <;> omega)) _ | refine below_bytesW ?_ (by first | omega | (simp [go_sem]; done) | (simp [go_sem] <;> omega)) _ | refine Below.drew ?_ | refine below_drewN ?_ _)), HF.out⟩
                  case measure => simp [intOf]; omega
                · have HEND : Hid (RES = ([], 52, (k : Int) + 1, colR x)) := by
                    show _ = _
                    obtain ⟨rfl, rfl⟩ := ruleEq_iff.1 hq
                    rw [HSTP.out, if_neg (by simp), if_neg (by simp), if_pos (HAT.out rfl)]
                  clear HSTP
                  go_wp2_with (go_at_call 36; (with_reducible refine (HCOL.out _).mono ?_); intro e w' h; obtain ⟨rfl, h2⟩ := h; subst w')
                  exact ret_tmp_cell w.heap.size (faultV 52 ((k : Int) + 1) (colR x)) (.slice none 0 0) rfl rfl rfl agg_fault (by simp [go_sem, hv3, hi3]) (by simp [go_sem, hv3, hi3]) rfl (by rw [HEND.out]; exact ⟨none, 0, rfl, Nat.le_refl _, below_setRow (HBW4.out.alloc (by omega) _) (Nat.le_refl _) _, .inl rfl⟩)
              · obtain rfl : n = P.length := by omega
                have hno2 := hno.out
                rw [List.take_length] at hno2
                by_cases h200 : 200 ≤ P.length
                · have HEND : Hid (RES = ([], 53, (k : Int) + 1, colR x)) := by
                    show _ = _
                    rw [HSTP.out, if_neg (by simp), if_neg (by simp), if_neg (by rw [hno2]; decide), if_pos h200]
                  clear HSTP hno2 hno
                  go_wp2_with (go_at_call 36; (with_reducible refine (HCOL.out _).mono ?_); intro e w' h; obtain ⟨rfl, h2⟩ := h; subst w')
                  exact ret_tmp_cell w.heap.size (faultV 53 ((k : Int) + 1) (colR x)) (.slice none 0 0) rfl rfl rfl agg_fault (by simp [go_sem, hv3, hi3]) (by simp [go_sem, hv3, hi3]) rfl (by rw [HEND.out]; exact ⟨none, 0, rfl, Nat.le_refl _, below_setRow HBW4.out (Nat.le_refl _) _, .inl rfl⟩)
                · have HS2 : Hid (ruleStep (L.drop (k + 1)) (k + 1) (P ++ [(kk, nn)]) = RES) := by
                    show _ = _
                    rw [HSTP.out, if_neg (by simp), if_neg (by simp), if_neg (by rw [hno2]; decide), if_neg h200]
                  have HK4 : Hid (Keeps (Also (w.heap.size + 1) w1.heap.size) w1 wr) := HK3.out.bel HB4.out
                  have HO4 : Hid (Own ruleCod (Also (w.heap.size + 1) w1.heap.size) wr (.slice a P.length cap) P) := HO3.out.below HB4.out
                  have HPW2 : Hid (∀ r ∈ P ++ [(kk, nn)], okR r) := fun r h => by
                    rcases List.mem_append.1 h with h | h
                    · exact HPW.out r h
                    · rw [List.mem_singleton] at h; subst h; exact hbd
                  clear HSTP hno2 hno
                  go_wp2_with (at_builtin; refine wpList_append_list rfl ruleCod (.tmp 64) (.tmp 66) 22 rfl rfl (Also (w.heap.size + 1) w1.heap.size) _ _ (P) rfl (HO4.out.alloc _) _ 0 _ _ [(kk, nn)] rfl rfl (listAt_new _ _ [_] _ rfl (by first | rfl | (simp [go_sem]; done))) (by first | omega | (simp; done) | (simp; omega) | (simp [go_sem]; done) | (simp [go_sem]; omega) | (simp [ruleCod]; omega)) (by first | omega | (simp; done) | (simp; omega) | (simp [go_sem]; done) | (simp [go_sem]; omega) | (simp [ruleCod]; omega)) (by first | (show _ ≤ _; first | omega | (simp; omega) | (simp [go_sem]; omega)) | (show _ ∨ _; right; first | omega | (simp; omega) | (simp [go_sem]; omega))) ?_; intro v' w1 ho1 hb1; have HO1 := Lib.hid ho1; have HB1 := Lib.hid hb1; clear ho1 hb1)
                  go_roundw
                  case rel => exact ⟨k + 1, P ++ [(kk, nn)], by omega, by simp; omega, by go_num, (HK4.out.alloc _).trans HB1.out, HO1.out, HS2.out, HPW2.out⟩
                  case measure => simp [intOf]; omega
        · have HEND : Hid (RES = ([], er, (k : Int) + 1, colR x)) := by
            show _ = _
            rw [HSTP.out, if_pos he]
          have he1 : (er != 0) = true := by rw [bne_iff_ne]; exact he
          clear HSTP he
          go_wp2_with (go_at_call 36; (with_reducible refine (HCOL.out _).mono ?_); intro e w' h; obtain ⟨rfl, h2⟩ := h; subst w')
          exact ret_tmp_cell w.heap.size (faultV er ((k : Int) + 1) (colR x)) (.slice none 0 0) rfl rfl rfl agg_fault (by simp [go_sem, hv3, hi3]) (by simp [go_sem, hv3, hi3]) rfl (by rw [HEND.out]; exact ⟨none, 0, rfl, Nat.le_refl _, below_setRow (HBW.out.alloc (by omega) _) (Nat.le_refl _) _, .inl rfl⟩)
      · obtain rfl : k = L.length := by omega
        have hfin := hinv.out
        rw [ruleStep_end] at hfin
        subst hfin
        have hv3 := HVR.out
        have hi3 : isOld w.heap.size wr = true := isOld_iff.2 (by omega)
        go_wp2
        exact ret_tmp_cell w.heap.size (faultV 0 0 0) (.slice a P.length cap) rfl rfl rfl agg_fault (by simp [go_sem, hv3, hi3]) (by simp [go_sem, hv3, hi3]) rfl ⟨a, cap, rfl, hcap, below_setRow HBE.out (Nat.le_refl _) _, (HINP.out.setRow (by omega) _).mono (Nat.le_succ _)⟩
end

section
open Go Go.RowKit
open Go.WideElems (Fit entry_then_store)
open Go.ChangeMaps (setBlock heap_setBlock_same heap_setBlock_other)
set_option maxRecDepth 20000
set_option linter.unusedSimpArgs false
set_option linter.unusedVariables false

theorem ruleWide : (match Tryz.prog.underlying 50 with | some (.array _ _) | some (.struct _) => true | _ => false) = true := by kernel_rfl
theorem ruleLaw : Go.WideMaps.KeyLaw Tryz.prog 50 := deep_law_laid (m := 10) (by kernel_rfl) (by omega) (of_decide_eq_true (by kernel_rfl)) (by kernel_rfl) ruleWide
theorem seenZ (u : World) : (zeroValue 3).run Tryz.prog u = .ok (.int .i64 0) u := by kernel_rfl
def ruleK (r : GRule) : Value := .agg (ruleV r.1 r.2)
theorem ruleK_inj {r r' : GRule} (h : ruleK r = ruleK r') : r = r' := by
  obtain ⟨k, n⟩ := r
  obtain ⟨k', n'⟩ := r'
  simp [ruleK, ruleV, ruleR] at h
  exact Prod.ext h.1 h.2
theorem ruleKey (r : GRule) (hr : okR r) : ∃ kl, keyOf Tryz.prog 50 (ruleK r) = some kl := by
  have h2 : r.2.length ≤ maxLen := by have := hr.2; unfold maxLen; omega
  have hl : Tryz.prog.keyLits (Tryz.prog.types.size + 1) 50 (ruleR r.1 r.2) = some [.int .i64 r.1, .string r.2] := by
    have : Tryz.prog.types.size + 1 = (Tryz.prog.types.size - 2) + 3 := by kernel_rfl
    rw [this]
    exact keyLits_rule _ _ _ (wf_kind' hr.1) h2
  have hf : (ruleK r).formed Tryz.prog 50 = true := by simp [ruleK, ruleV, Value.formed, Tryz.underlying50, cellsOf_rule, ruleR]
  apply Option.isSome_iff_exists.1
  unfold keyOf
  rw [Tryz.underlying50]
  dsimp only
  have hkt : Tryz.prog.keyType 50 = true := by kernel_rfl
  rw [hkt, Bool.true_and, if_pos hf]
  have hc : (ruleK r).cells.toList = ruleR r.1 r.2 := rfl
  rw [hc, hl]
  rfl
noncomputable abbrev RI : Value → Option (DataW Unit × List MemPlace) := plainElem Tryz.prog 3
/-- Block b is a map of just these rules, each seen once. -/
def SeenR (w : World) (b : Nat) (P : List GRule) : Prop := ∃ es clock, w.heap[b]? = some (.map es clock) ∧ Fit Tryz.prog 50 RI es clock ∧ es.size ≤ P.length ∧
  (∀ e ∈ es.toList, e.val = .int .i64 1 ∧ ∃ r ∈ P, e.key = ruleK r) ∧ (∀ r ∈ P, ∃ e ∈ es.toList, e.key = ruleK r)
theorem SeenR.made (w : World) (b : Nat) (hb : b = w.heap.size) : SeenR (w.alloc (.map #[] 0)) b [] := by
  subst hb
  exact ⟨#[], 0, (MapKept.heap_alloc w _).1, ⟨by simp, Go.MapKept.stamped_empty 0, by simp⟩, Nat.le_refl _, by simp, by simp⟩
theorem SeenR.old {w w' : World} {b : Nat} {P : List GRule} (h : SeenR w b P) (he : w'.heap[b]? = w.heap[b]?) : SeenR w' b P := by
  obtain ⟨es, clock, hb, r⟩ := h
  exact ⟨es, clock, he.trans hb, r⟩
def seenN (P : List GRule) (r : GRule) : Int := if P.contains r = true then 1 else 0
theorem setBlock_twice (w : World) (b : Nat) (o o' : Obj) : setBlock (setBlock w b o) b o' = setBlock w b o' := by
  simp [setBlock]
theorem setBlock_inj {w : World} {b : Nat} {o o' : Obj} {es : Array MapEntry} {clock : Nat} (hb : w.heap[b]? = some (.map es clock)) (h : setBlock w b o = setBlock w b o') : o = o' := by
  have h1 := heap_setBlock_same hb o
  have h2 := heap_setBlock_same hb o'
  rw [h, h2] at h1
  exact (Option.some.inj h1).symm
theorem grown_setBlock {w : World} {b : Nat} {es : Array MapEntry} {clock : Nat} (hb : w.heap[b]? = some (.map es clock)) (o : Obj) : w.grownBy (setBlock w b o) (some b) :=
  ⟨rfl, rfl, rfl, by simp [setBlock], fun i _ hi => heap_setBlock_other hb _ (fun e => hi (by rw [e]))⟩
theorem seen_at {es : Array MapEntry} {P : List GRule} {r : GRule} (hall : ∀ e ∈ es.toList, e.val = .int .i64 1 ∧ ∃ r ∈ P, e.key = ruleK r) (h : ∃ e ∈ es.toList, e.key = ruleK r) : P.contains r = true := by
  obtain ⟨e, he, hk⟩ := h
  obtain ⟨_, r', hr', hk'⟩ := hall e he
  rw [ruleK_inj (hk.symm.trans hk'), List.contains_iff_mem]
  exact hr'
theorem seen_not {es : Array MapEntry} {P : List GRule} {r : GRule} (hex : ∀ r ∈ P, ∃ e ∈ es.toList, e.key = ruleK r) (h : ∀ e ∈ es.toList, e.key ≠ ruleK r) : P.contains r = false := by
  cases hc : P.contains r
  · rfl
  · obtain ⟨e, he, hk⟩ := hex r (List.contains_iff_mem.1 hc)
    exact absurd hk (h e he)
end

section
open Go Go.RowKit
set_option maxRecDepth 20000
set_option linter.unusedSimpArgs false
set_option linter.unusedVariables false

theorem Keeps.sub {Q Q' : Nat → Prop} {w w' : World} (h : Keeps Q w w') (hq : ∀ k, Q k → Q' k) : Keeps Q' w w' :=
  ⟨h.os, h.tape, h.output, h.size, fun k hk hn => h.block k hk (fun e => hn (hq k e))⟩
theorem keeps_grownBy {Q : Nat → Prop} {w w' : World} {b : Nat} (h : w.grownBy w' (some b)) (hq : Q b) : Keeps Q w w' :=
  ⟨h.os, h.tape, h.output, h.size, fun k hk hn => h.block k hk (fun e => hn (by cases e; exact hq))⟩
end

section
open Go Go.RowKit
set_option maxRecDepth 20000
set_option linter.unusedSimpArgs false
set_option linter.unusedVariables false

theorem colR_bd (x : List UInt8) : 0 ≤ colR x ∧ colR x ≤ x.length + 1 := by
  unfold colR; omega
theorem ruleStep_bd (N : Nat) : ∀ (L : List (List UInt8)) (i : Nat) (out : List GRule), (∀ x ∈ L, x.length ≤ N) → (∀ r ∈ out, okR r) → out.length ≤ 200 →
    (0 ≤ (ruleStep L i out).2.1 ∧ (ruleStep L i out).2.1 ≤ 60) ∧ (0 ≤ (ruleStep L i out).2.2.1 ∧ (ruleStep L i out).2.2.1 ≤ i + L.length) ∧ (0 ≤ (ruleStep L i out).2.2.2 ∧ (ruleStep L i out).2.2.2 ≤ N + 1) ∧ (∀ r ∈ (ruleStep L i out).1, okR r) ∧ (ruleStep L i out).1.length ≤ 200
  | [], i, out, _, h2, h3 => ⟨⟨Int.le_refl _, (by decide : (0 : Int) ≤ 60)⟩, ⟨Int.le_refl _, by show (0 : Int) ≤ _; omega⟩, ⟨Int.le_refl _, by show (0 : Int) ≤ _; omega⟩, h2, h3⟩
  | x :: L, i, out, h1, h2, h3 => by
    have hx := h1 x List.mem_cons_self
    have hL : ∀ y ∈ L, y.length ≤ N := fun y hy => h1 y (List.mem_cons_of_mem _ hy)
    obtain ⟨c1, c2⟩ := colR_bd x
    have he := ruleOut_err x
    have hlen : ((x :: L).length : Int) = L.length + 1 := by simp
    have fin : ∀ c : Int, (0 ≤ c ∧ c ≤ 60) → (0 ≤ c ∧ c ≤ 60) ∧ (0 ≤ (i : Int) + 1 ∧ (i : Int) + 1 ≤ i + (x :: L).length) ∧ (0 ≤ colR x ∧ colR x ≤ N + 1) ∧ (∀ r ∈ ([] : List GRule), okR r) ∧ ([] : List GRule).length ≤ 200 := fun c hc => ⟨hc, by omega, by omega, (fun r h => by cases h), Nat.zero_le _⟩
    rw [ruleStep]
    split
    · exact fin (ruleOut x).2.2 (by rcases he with h | ⟨h, _⟩ <;> omega)
    · split
      · have := ruleStep_bd N L (i + 1) out hL h2 h3
        exact ⟨this.1, by have := this.2.1; omega, this.2.2⟩
      · split
        · exact fin 52 (by omega)
        · split
          · exact fin 53 (by omega)
          · have := ruleStep_bd N L (i + 1) (out ++ [(ruleOut x).1]) hL (fun r hr => by
              rcases List.mem_append.1 hr with hr | hr
              · exact h2 r hr
              · rw [List.mem_singleton] at hr; subst hr; exact ruleOut_bd' x) (by simp; omega)
            exact ⟨this.1, by have := this.2.1; omega, this.2.2⟩
theorem ruleFile_bd (s : List UInt8) (hs : s.length ≤ 100000) :
    (0 ≤ (ruleFile s).2.1 ∧ (ruleFile s).2.1 ≤ 60) ∧ (0 ≤ (ruleFile s).2.2.1 ∧ (ruleFile s).2.2.1 ≤ 200000) ∧ (0 ≤ (ruleFile s).2.2.2 ∧ (ruleFile s).2.2.2 ≤ 200000) ∧ (∀ r ∈ (ruleFile s).1, okR r) ∧ (ruleFile s).1.length ≤ 200 := by
  unfold ruleFile
  split
  · exact ⟨⟨(by decide : (0 : Int) ≤ 54), (by decide : (54 : Int) ≤ 60)⟩, ⟨(by decide : (0 : Int) ≤ 1), (by decide : (1 : Int) ≤ 200000)⟩, ⟨(by decide : (0 : Int) ≤ 1), (by decide : (1 : Int) ≤ 200000)⟩, (fun r h => by cases h), Nat.zero_le _⟩
  · have h := ruleStep_bd s.length (linesL s) 0 [] (fun x hx => linesL_piece s x hx) (fun r h => by cases h) (Nat.zero_le _)
    have hl := linesL_le' s
    exact ⟨h.1, by have := h.2.1; omega, by have := h.2.2.1; omega, h.2.2.2⟩
theorem wf_small {n : Int} (h : 0 ≤ n ∧ n ≤ 200000) : (Lit.int .i64 n).wf = true := by
  have e1 : IntKind.i64.min = -9223372036854775808 := rfl
  have e2 : IntKind.i64.max = 9223372036854775807 := rfl
  simp only [Lit.wf, e1, e2, Bool.and_eq_true, decide_eq_true_eq]
  omega
end

section
abbrev Lab := List UInt8
abbrev Rl := Int × List Lab
abbrev GEnd := Bool × Bool × Bool × Bool
abbrev Tree := List (List Lab × GEnd)
def endZ : GEnd := (false, false, false, false)
def endAt (e : GEnd) (k : Int) : Bool := if k = 0 then e.1 else if k = 1 then e.2.1 else if k = 2 then e.2.2.1 else e.2.2.2
def endSet (e : GEnd) (k : Int) : GEnd := if k = 0 then (true, e.2) else if k = 1 then (e.1, true, e.2.2) else if k = 2 then (e.1, e.2.1, true, e.2.2.2) else (e.1, e.2.1, e.2.2.1, true)
theorem endAt_set (e : GEnd) (k j : Int) (hk : k = 0 ∨ k = 1 ∨ k = 2 ∨ k = 3) (hj : j = 0 ∨ j = 1 ∨ j = 2 ∨ j = 3) : endAt (endSet e k) j = (endAt e j || decide (j = k)) := by
  rcases hk with rfl | rfl | rfl | rfl <;> rcases hj with rfl | rfl | rfl | rfl <;> simp [endAt, endSet]
/-! ### the document's answer -/
def mostC (L : List Lab) (r : Rl) : Nat := if r.1 = 1 ∧ r.2 <+: L then r.2.length else if r.1 = 2 ∧ r.2 <+: L ∧ r.2.length < L.length then r.2.length + 1 else 0
def excC (L : List Lab) (r : Rl) : Nat := if r.1 = 3 ∧ r.2 <+: L then r.2.length - 1 else 0
def mostD (G : List Rl) (L : List Lab) : Nat := G.foldl (fun m r => max m (mostC L r)) 1
def excD (G : List Rl) (L : List Lab) : Nat := G.foldl (fun m r => max m (excC L r)) 0
def sufD (G : List Rl) (L : List Lab) : Nat := if L = [] then 0 else if 0 < excD G L then excD G L else mostD G L
theorem foldl_max (f : Rl → Nat) : ∀ (G : List Rl) (z : Nat), z ≤ G.foldl (fun m r => max m (f r)) z ∧ (∀ r ∈ G, f r ≤ G.foldl (fun m r => max m (f r)) z) ∧ (G.foldl (fun m r => max m (f r)) z = z ∨ ∃ r ∈ G, f r = G.foldl (fun m r => max m (f r)) z)
  | [], z => ⟨Nat.le_refl _, (fun r h => by cases h), .inl rfl⟩
  | r :: G, z => by
    obtain ⟨h1, h2, h3⟩ := foldl_max f G (max z (f r))
    rw [List.foldl_cons]
    refine ⟨Nat.le_trans (Nat.le_max_left _ _) h1, ?_, ?_⟩
    · intro x hx
      rcases List.mem_cons.1 hx with rfl | hx
      · exact Nat.le_trans (Nat.le_max_right _ _) h1
      · exact h2 x hx
    · rcases h3 with h | ⟨x, hx, h⟩
      · rw [h]
        rcases Nat.le_total z (f r) with hz | hz
        · right; exact ⟨r, List.mem_cons_self, by rw [Nat.max_eq_right hz]⟩
        · left; exact Nat.max_eq_left hz
      · right; exact ⟨x, List.mem_cons_of_mem _ hx, h⟩
theorem fold_uniq {f : Rl → Nat} {G : List Rl} {z v : Nat} (h0 : z ≤ v) (h1 : ∀ r ∈ G, f r ≤ v) (h2 : v = z ∨ ∃ r ∈ G, f r = v) : G.foldl (fun m r => max m (f r)) z = v := by
  obtain ⟨a, b, c⟩ := foldl_max f G z
  apply Nat.le_antisymm
  · rcases c with c | ⟨r, hr, c⟩
    · rw [c]; exact h0
    · rw [← c]; exact h1 r hr
  · rcases h2 with rfl | ⟨r, hr, rfl⟩
    · exact a
    · exact b r hr
/-- What a list of rules tells depends on which there are. -/
theorem sufD_mem {G G' : List Rl} (h : ∀ r, r ∈ G ↔ r ∈ G') (L : List Lab) : sufD G L = sufD G' L := by
  have key : ∀ (f : Rl → Nat) z, G.foldl (fun m r => max m (f r)) z = G'.foldl (fun m r => max m (f r)) z := fun f z => by
    obtain ⟨a, b, c⟩ := foldl_max f G' z
    refine fold_uniq a (fun r hr => b r ((h r).1 hr)) ?_
    rcases c with c | ⟨r, hr, c⟩
    · exact .inl c
    · exact .inr ⟨r, (h r).2 hr, c⟩
  unfold sufD mostD excD
  rw [key, key]
/-! ### the tree -/
def has (T : Tree) (p : List Lab) : Prop := ∃ e, (p, e) ∈ T
structure TreeOf (T : Tree) (G : List Rl) : Prop where
  nodup : (T.map Prod.fst).Nodup
  root : ∃ e M, T = ([], e) :: M
  closed : ∀ p l, has T (p ++ [l]) → has T p
  ends : ∀ p e, (p, e) ∈ T → ∀ k : Int, (k = 0 ∨ k = 1 ∨ k = 2 ∨ k = 3) → (endAt e k = true ↔ (k, p) ∈ G)
  rules : ∀ r ∈ G, has T r.2
theorem TreeOf.start : TreeOf [([], endZ)] [] where
  nodup := by simp
  root := ⟨_, _, rfl⟩
  closed := fun p l ⟨e, he⟩ => by simp at he
  ends := fun p e he k hk => by
    simp at he
    obtain ⟨rfl, rfl⟩ := he
    rcases hk with rfl | rfl | rfl | rfl <;> simp [endAt, endZ]
  rules := fun r h => by cases h
def idx (T : Tree) (p : List Lab) : Nat := T.findIdx (fun x => x.1 == p)
def hasB (T : Tree) (p : List Lab) : Bool := T.any (fun x => x.1 == p)
theorem hasB_iff {T : Tree} {p : List Lab} : hasB T p = true ↔ has T p := by
  unfold hasB has
  rw [List.any_eq_true]
  constructor
  · rintro ⟨⟨q, e⟩, h, hq⟩
    rw [beq_iff_eq] at hq
    exact ⟨e, by rw [← hq]; exact h⟩
  · rintro ⟨e, h⟩
    exact ⟨(p, e), h, by simp⟩
theorem idx_lt {T : Tree} {p : List Lab} (h : has T p) : idx T p < T.length := by
  obtain ⟨e, h⟩ := h
  exact List.findIdx_lt_length_of_exists ⟨(p, e), h, by simp⟩
theorem idx_at {T : Tree} {p : List Lab} (h : has T p) : (T[idx T p]'(idx_lt h)).1 = p := by
  have := @List.findIdx_getElem (List Lab × GEnd) (fun x => x.1 == p) T (idx_lt h)
  exact beq_iff_eq.1 this
theorem idx_of {T : Tree} (hn : (T.map Prod.fst).Nodup) {j : Nat} (hj : j < T.length) {p : List Lab} (h : (T[j]'hj).1 = p) : idx T p = j := by
  have hh : has T p := ⟨(T[j]'hj).2, by rw [← h]; exact List.getElem_mem hj⟩
  have h1 := idx_at hh
  have h2 := idx_lt hh
  have e : (T.map Prod.fst)[idx T p]'(by simpa using h2) = (T.map Prod.fst)[j]'(by simpa using hj) := by simp [h1, h]
  have hp := List.pairwise_iff_getElem.1 hn
  rcases Nat.lt_trichotomy (idx T p) j with hl | hl | hl
  · exact absurd e (hp _ _ _ _ hl)
  · exact hl
  · exact absurd e.symm (hp _ _ _ _ hl)
/-- One label further down: a node more, if there is none yet. -/
def grow (T : Tree) (p : List Lab) : Tree := if hasB T p = true then T else T ++ [(p, endZ)]
def putGo (T : Tree) (pre : List Lab) : List Lab → Tree
  | [] => T
  | l :: R => putGo (grow T (pre ++ [l])) (pre ++ [l]) R
def mark (T : Tree) (p : List Lab) (k : Int) : Tree := T.modify (idx T p) (fun x => (x.1, endSet x.2 k))
def putT (T : Tree) (r : Rl) : Tree := mark (putGo T [] r.2) r.2 r.1
/-- The tree of some rules, while one is put. -/
structure Part (T : Tree) (G : List Rl) : Prop extends TreeOf T G
theorem grow_has {T : Tree} {p q : List Lab} (h : has T q) : has (grow T p) q := by
  unfold grow
  split
  · exact h
  · obtain ⟨e, h⟩ := h
    exact ⟨e, List.mem_append_left _ h⟩
theorem grow_self (T : Tree) (p : List Lab) : has (grow T p) p := by
  unfold grow
  split
  · rename_i h; exact hasB_iff.1 h
  · exact ⟨endZ, by simp⟩
theorem grow_of {T : Tree} {G : List Rl} (h : TreeOf T G) (p : List Lab) (l : Lab) (hp : has T p) : TreeOf (grow T (p ++ [l])) G := by
  unfold grow
  split
  · exact h
  · rename_i hno
    have hno' : ¬ has T (p ++ [l]) := fun hc => hno (hasB_iff.2 hc)
    refine ⟨?_, ?_, ?_, ?_, ?_⟩
    · rw [List.map_append, List.nodup_append]
      refine ⟨h.nodup, by simp, ?_⟩
      intro a ha b hb
      simp at hb
      subst hb
      rintro rfl
      obtain ⟨⟨q, e⟩, hq, hqe⟩ := List.mem_map.1 ha
      exact hno' ⟨e, by simp at hqe; rw [← hqe]; exact hq⟩
    · obtain ⟨e, M, rfl⟩ := h.root
      exact ⟨e, _, rfl⟩
    · intro q x hq
      obtain ⟨e, hq⟩ := hq
      rcases List.mem_append.1 hq with hq | hq
      · obtain ⟨e', h'⟩ := h.closed q x ⟨e, hq⟩
        exact ⟨e', List.mem_append_left _ h'⟩
      · simp at hq
        have := hq.1.1
        subst this
        obtain ⟨e', h'⟩ := hp
        exact ⟨e', List.mem_append_left _ h'⟩
    · intro q e hq k hk
      rcases List.mem_append.1 hq with hq | hq
      · exact h.ends q e hq k hk
      · simp at hq
        obtain ⟨rfl, rfl⟩ := hq
        constructor
        · intro hz
          rcases hk with rfl | rfl | rfl | rfl <;> simp [endAt, endZ] at hz
        · intro hg
          exact absurd (h.rules _ hg) hno'
    · intro r hr
      obtain ⟨e, he⟩ := h.rules r hr
      exact ⟨e, List.mem_append_left _ he⟩
theorem putGo_of {G : List Rl} : ∀ (R : List Lab) (T : Tree) (pre : List Lab), TreeOf T G → has T pre → TreeOf (putGo T pre R) G ∧ has (putGo T pre R) (pre ++ R)
  | [], T, pre, h, hp => ⟨h, by rw [List.append_nil]; exact hp⟩
  | l :: R, T, pre, h, hp => by
    have := putGo_of R (grow T (pre ++ [l])) (pre ++ [l]) (grow_of h pre l hp) (grow_self _ _)
    rw [List.append_assoc] at this
    exact this
theorem mark_fst (T : Tree) (p : List Lab) (k : Int) : (mark T p k).map Prod.fst = T.map Prod.fst := by
  unfold mark
  apply List.ext_getElem?
  intro i
  rw [List.getElem?_map, List.getElem?_map, List.getElem?_modify]
  cases T[i]? with
  | none => rfl
  | some x => by_cases hi : idx T p = i <;> simp [hi]
theorem mark_has {T : Tree} {p q : List Lab} {k : Int} : has (mark T p k) q ↔ has T q := by
  have key : ∀ U : Tree, has U q ↔ q ∈ U.map Prod.fst := fun U => by
    unfold has
    rw [List.mem_map]
    constructor
    · rintro ⟨e, h⟩; exact ⟨_, h, rfl⟩
    · rintro ⟨⟨x, e⟩, h, rfl⟩; exact ⟨e, h⟩
  rw [key, key, mark_fst]
theorem mark_mem {T : Tree} (hn : (T.map Prod.fst).Nodup) {p q : List Lab} {k : Int} {e : GEnd} (h : (q, e) ∈ mark T p k) : ∃ e0, (q, e0) ∈ T ∧ e = if q = p then endSet e0 k else e0 := by
  obtain ⟨i, hi, he⟩ := List.mem_iff_getElem.1 h
  unfold mark at hi he
  rw [List.length_modify] at hi
  rw [List.getElem_modify] at he
  by_cases hx : idx T p = i
  · rw [if_pos hx] at he
    obtain ⟨e1, e2⟩ := Prod.mk.inj he
    have hq : has T q := ⟨(T[i]'hi).2, by rw [← e1]; exact List.getElem_mem hi⟩
    refine ⟨(T[i]'hi).2, by rw [← e1]; exact List.getElem_mem hi, ?_⟩
    by_cases hp : has T p
    · have h1 := idx_at hp
      have h2 : (T[i]'hi).1 = p := by
        have : (T[idx T p]'(idx_lt hp)) = T[i]'hi := by congr 1
        rw [← this]; exact h1
      rw [if_pos (by rw [← e1, h2]), e2]
    · have h1 : idx T p = T.length := by
        unfold idx
        rw [List.findIdx_eq_length]
        intro x hx
        cases hq : (x.1 == p)
        · rfl
        · exact absurd ⟨x.2, by rw [← (beq_iff_eq.1 hq)]; exact hx⟩ hp
      omega
  · rw [if_neg hx] at he
    refine ⟨e, by rw [← he]; exact List.getElem_mem hi, ?_⟩
    rw [if_neg]
    rintro rfl
    exact hx (idx_of hn (by simpa using hi) (by rw [he]))
theorem putT_of {T : Tree} {G : List Rl} (h : TreeOf T G) (r : Rl) (hk : r.1 = 0 ∨ r.1 = 1 ∨ r.1 = 2 ∨ r.1 = 3) : TreeOf (putT T r) (G ++ [r]) := by
  obtain ⟨k, p⟩ := r
  obtain ⟨e0, M0, hT⟩ := h.root
  obtain ⟨h1, h2⟩ := putGo_of p T [] h ⟨e0, by rw [hT]; exact List.mem_cons_self⟩
  rw [List.nil_append] at h2
  unfold putT
  dsimp only at hk ⊢
  generalize putGo T [] p = U at *
  refine ⟨by rw [mark_fst]; exact h1.nodup, ?_, ?_, ?_, ?_⟩
  · obtain ⟨e, M, rfl⟩ := h1.root
    have hm := mark_fst (([], e) :: M) p k
    rcases hM : mark (([], e) :: M) p k with _ | ⟨⟨q, e'⟩, M'⟩
    · rw [hM] at hm; cases hm
    · rw [hM] at hm
      simp at hm
      exact ⟨e', M', by rw [hm.1]⟩
  · intro q l hq
    exact mark_has.2 (h1.closed q l (mark_has.1 hq))
  · intro q e hq j hj
    obtain ⟨e0, hq0, rfl⟩ := mark_mem h1.nodup hq
    have := h1.ends q e0 hq0 j hj
    rw [List.mem_append, List.mem_singleton]
    by_cases hqp : q = p
    · subst hqp
      rw [if_pos rfl, endAt_set _ _ _ hk hj, Bool.or_eq_true, decide_eq_true_eq, this]
      constructor
      · rintro (h | rfl)
        · exact .inl h
        · exact .inr rfl
      · rintro (h | h)
        · exact .inl h
        · exact .inr (Prod.mk.inj h).1
    · rw [if_neg hqp, this]
      constructor
      · exact .inl
      · rintro (h | h)
        · exact h
        · exact absurd (Prod.mk.inj h).2 hqp
  · intro x hx
    rcases List.mem_append.1 hx with hx | hx
    · exact mark_has.2 (h1.rules x hx)
    · rw [List.mem_singleton] at hx; subst hx
      exact mark_has.2 h2
/-! ### the tree is walked -/
def endOf (T : Tree) (p : List Lab) : GEnd := (T.getD (idx T p) ([], endZ)).2
theorem endOf_mem {T : Tree} {p : List Lab} (h : has T p) : (p, endOf T p) ∈ T := by
  have h1 := idx_lt h
  have h2 := idx_at h
  have e : T.getD (idx T p) ([], endZ) = T[idx T p]'h1 := by
    rw [List.getD_eq_getElem?_getD, List.getElem?_eq_getElem h1]; rfl
  unfold endOf
  rw [e]
  have hm := List.getElem_mem h1
  have e2 : T[idx T p]'h1 = (p, (T[idx T p]'h1).2) := Prod.ext h2 rfl
  rw [← e2]; exact hm
def sufGo (T : Tree) (L : List Lab) : Nat → Nat → Nat → Nat → Nat × Nat
  | 0, _, most, exc => (most, exc)
  | f + 1, n, most, exc =>
    let m1 := if endAt (endOf T (L.take n)) 2 = true then n + 1 else most
    if hasB T (L.take (n + 1)) = true then
      sufGo T L f (n + 1) (if endAt (endOf T (L.take (n + 1))) 1 = true then n + 1 else m1) (if endAt (endOf T (L.take (n + 1))) 3 = true then n else exc)
    else (m1, exc)
def sufP (T : Tree) (L : List Lab) : Nat :=
  let x := sufGo T L L.length 0 (min 1 L.length) 0
  if 0 < x.2 then x.2 else x.1
theorem preT_iff {p L : List Lab} : p <+: L ↔ p = L.take p.length := by
  constructor
  · rintro ⟨t, rfl⟩; simp
  · intro h; rw [h]; exact List.take_prefix _ _
theorem has_take {T : Tree} {G : List Rl} (h : TreeOf T G) (L : List Lab) : ∀ (d n : Nat), n + d ≤ L.length → has T (L.take (n + d)) → has T (L.take n)
  | 0, n, _, hh => hh
  | d + 1, n, hl, hh => by
    refine has_take h L d n (by omega) (h.closed (L.take (n + d)) (L[n + d]'(by omega)) ?_)
    rw [← List.take_succ_eq_append_getElem]; exact hh
structure MInv (G : List Rl) (L : List Lab) (n most exc : Nat) : Prop where
  one : 1 ≤ most
  att : most = 1 ∨ ∃ r ∈ G, mostC L r = most
  all : ∀ r ∈ G, mostC L r ≤ n → mostC L r ≤ most
  le : most ≤ max 1 n
  att3 : exc = 0 ∨ ∃ r ∈ G, excC L r = exc
  all3 : ∀ r ∈ G, excC L r + 1 ≤ n → excC L r ≤ exc
  le3 : exc ≤ n - 1
theorem mostC_one {L : List Lab} {r : Rl} (h : 0 < mostC L r) : (r.1 = 1 ∧ r.2 <+: L ∧ mostC L r = r.2.length) ∨ (r.1 = 2 ∧ r.2 <+: L ∧ r.2.length < L.length ∧ mostC L r = r.2.length + 1) := by
  unfold mostC at *
  split
  · rename_i h1; exact .inl ⟨h1.1, h1.2, rfl⟩
  · rename_i h1
    rw [if_neg h1] at h
    split
    · rename_i h2; exact .inr ⟨h2.1, h2.2.1, h2.2.2, rfl⟩
    · rename_i h2; rw [if_neg h2] at h; exact absurd h (by omega)
theorem sufGo_eq {T : Tree} {G : List Rl} (h : TreeOf T G) (L : List Lab) : ∀ (f n most exc : Nat), n + f = L.length → has T (L.take n) → MInv G L n most exc →
    1 ≤ (sufGo T L f n most exc).1 ∧ (∀ r ∈ G, mostC L r ≤ (sufGo T L f n most exc).1) ∧ ((sufGo T L f n most exc).1 = 1 ∨ ∃ r ∈ G, mostC L r = (sufGo T L f n most exc).1) ∧
    (∀ r ∈ G, excC L r ≤ (sufGo T L f n most exc).2) ∧ ((sufGo T L f n most exc).2 = 0 ∨ ∃ r ∈ G, excC L r = (sufGo T L f n most exc).2)
  | 0, n, most, exc, hn, hh, I => by
    have hle : ∀ r : Rl, r.2 <+: L → r.2.length ≤ n := fun r hr => by
      have := hr.length_le; omega
    refine ⟨I.one, fun r hr => I.all r hr ?_, I.att, fun r hr => ?_, I.att3⟩
    · by_cases h0 : 0 < mostC L r
      · rcases mostC_one h0 with ⟨_, h1, h2⟩ | ⟨_, h1, h2, h3⟩
        · rw [h2]; exact hle r h1
        · omega
      · omega
    · by_cases h3 : r.1 = 3 ∧ r.2 <+: L
      · have h4 := hle r h3.2
        by_cases h5 : 2 ≤ r.2.length
        · exact I.all3 r hr (by unfold excC; rw [if_pos h3]; omega)
        · unfold excC; rw [if_pos h3]; omega
      · unfold excC; rw [if_neg h3]; exact Nat.zero_le _
  | f + 1, n, most, exc, hn, hh, I => by
    have hw := h.ends _ _ (endOf_mem hh) 2 (by simp)
    have hlt : (L.take n).length = n := by rw [List.length_take]; omega
    have hlt1 : (L.take (n + 1)).length = n + 1 := by rw [List.length_take]; omega
    -- the wild ones here
    have hC2 : ((2, L.take n) : Rl) ∈ G → mostC L (2, L.take n) = n + 1 := fun _ => by
      unfold mostC
      rw [if_neg (by simp), if_pos ⟨rfl, List.take_prefix _ _, by simp only [hlt]; omega⟩, hlt]
    unfold sufGo
    dsimp only
    obtain ⟨m1, hm1⟩ : ∃ m1, (if endAt (endOf T (L.take n)) 2 = true then n + 1 else most) = m1 := ⟨_, rfl⟩
    rw [hm1]
    have M1 : 1 ≤ m1 ∧ (m1 = 1 ∨ ∃ r ∈ G, mostC L r = m1) ∧ (∀ r ∈ G, mostC L r ≤ n ∨ (r.1 = 2 ∧ mostC L r = n + 1) → mostC L r ≤ m1) ∧ m1 ≤ n + 1 := by
      have hI := I.le
      by_cases hc : endAt (endOf T (L.take n)) 2 = true
      · rw [if_pos hc] at hm1
        subst hm1
        exact ⟨by omega, .inr ⟨_, hw.1 hc, hC2 (hw.1 hc)⟩, fun r _ h => by omega, Nat.le_refl _⟩
      · rw [if_neg hc] at hm1
        subst hm1
        refine ⟨I.one, I.att, fun r hr h' => ?_, by omega⟩
        rcases h' with h' | ⟨h1, h2⟩
        · exact I.all r hr h'
        · rcases mostC_one (by omega : 0 < mostC L r) with ⟨h3, _⟩ | ⟨_, h4, _, h5⟩
          · rw [h1] at h3; exact absurd h3 (by decide)
          · have h6 : r.2.length = n := by omega
            have h7 := preT_iff.1 h4
            rw [h6] at h7
            have h8 : r = (2, L.take n) := Prod.ext h1 h7
            rw [h8] at hr
            exact absurd (hw.2 hr) hc
    clear hm1
    by_cases hb : hasB T (L.take (n + 1)) = true
    · rw [if_pos hb]
      have hh1 := hasB_iff.1 hb
      have h1 := h.ends _ _ (endOf_mem hh1) 1 (by simp)
      have h3 := h.ends _ _ (endOf_mem hh1) 3 (by simp)
      have hC1 : mostC L (1, L.take (n + 1)) = n + 1 := by
        unfold mostC
        rw [if_pos ⟨rfl, List.take_prefix _ _⟩, hlt1]
      have hC3 : excC L (3, L.take (n + 1)) = n := by
        unfold excC
        rw [if_pos ⟨rfl, List.take_prefix _ _⟩, hlt1]; rfl
      refine sufGo_eq h L f (n + 1) _ _ (by omega) hh1 ⟨?_, ?_, ?_, ?_, ?_, ?_, ?_⟩
      · split
        · omega
        · exact M1.1
      · split
        · rename_i hc; exact .inr ⟨_, h1.1 hc, hC1⟩
        · exact M1.2.1
      · intro r hr hle
        split
        · exact hle
        · rename_i hc
          refine M1.2.2.1 r hr ?_
          by_cases h0 : mostC L r ≤ n
          · exact .inl h0
          · right
            rcases mostC_one (by omega : 0 < mostC L r) with ⟨h4, h5, h6⟩ | ⟨h4, _, _, h6⟩
            · have h7 := preT_iff.1 h5
              have h9 : r.2.length = n + 1 := by omega
              rw [h9] at h7
              have h8 : r = (1, L.take (n + 1)) := Prod.ext h4 h7
              rw [h8] at hr
              exact absurd (h1.2 hr) hc
            · exact ⟨h4, by omega⟩
      · split
        · omega
        · have := M1.2.2.2; omega
      · split
        · rename_i hc; exact .inr ⟨_, h3.1 hc, hC3⟩
        · exact I.att3
      · intro r hr hle
        split
        · omega
        · rename_i hc
          by_cases h0 : excC L r + 1 ≤ n
          · exact I.all3 r hr h0
          · by_cases h4 : r.1 = 3 ∧ r.2 <+: L
            · have h5 : excC L r = r.2.length - 1 := by unfold excC; rw [if_pos h4]
              have h7 := preT_iff.1 h4.2
              by_cases h9 : r.2.length = n + 1
              · rw [h9] at h7
                have h8 : r = (3, L.take (n + 1)) := Prod.ext h4.1 h7
                rw [h8] at hr
                exact absurd (h3.2 hr) hc
              · omega
            · unfold excC; rw [if_neg h4]; exact Nat.zero_le _
      · split
        · omega
        · have := I.le3; omega
    · rw [if_neg hb]
      have hno : ∀ r ∈ G, r.2 <+: L → r.2.length ≤ n := fun r hr hp => by
        apply Decidable.byContradiction
        intro hc
        have h7 := preT_iff.1 hp
        have h8 := hp.length_le
        have h9 := h.rules r hr
        rw [h7] at h9
        have : r.2.length = (n + 1) + (r.2.length - (n + 1)) := by omega
        rw [this] at h9
        exact hb (hasB_iff.2 (has_take h L _ _ (by omega) h9))
      refine ⟨M1.1, fun r hr => M1.2.2.1 r hr ?_, M1.2.1, fun r hr => ?_, I.att3⟩
      · by_cases h0 : mostC L r ≤ n
        · exact .inl h0
        · right
          rcases mostC_one (by omega : 0 < mostC L r) with ⟨h4, h5, h6⟩ | ⟨h4, h5, _, h6⟩
          · have := hno r hr h5; omega
          · have := hno r hr h5; exact ⟨h4, by omega⟩
      · by_cases h4 : r.1 = 3 ∧ r.2 <+: L
        · have h5 : excC L r = r.2.length - 1 := by unfold excC; rw [if_pos h4]
          have := hno r hr h4.2
          by_cases h9 : 2 ≤ r.2.length
          · exact I.all3 r hr (by omega)
          · omega
        · unfold excC; rw [if_neg h4]; exact Nat.zero_le _
theorem sufP_eq {T : Tree} {G : List Rl} (h : TreeOf T G) (L : List Lab) : sufP T L = sufD G L := by
  unfold sufP sufD
  dsimp only
  by_cases hL : L = []
  · subst hL; rfl
  · rw [if_neg hL]
    have hpos : 0 < L.length := List.length_pos_iff.2 hL
    have e1 : min 1 L.length = 1 := by omega
    obtain ⟨e, M, hT⟩ := h.root
    obtain ⟨a, b, c, d, e⟩ := sufGo_eq h L L.length 0 1 0 (by omega) ⟨e, by rw [hT]; exact List.mem_cons_self⟩ ⟨Nat.le_refl _, .inl rfl, fun r hr h => by omega, by omega, .inl rfl, fun r hr h => by omega, by omega⟩
    rw [e1]
    have h1 : mostD G L = (sufGo T L L.length 0 1 0).1 := fold_uniq a b c
    have h2 : excD G L = (sufGo T L L.length 0 1 0).2 := fold_uniq (Nat.zero_le _) d e
    rw [h1, h2]
end

section
open Go Go.RowKit
set_option maxRecDepth 20000
set_option linter.unusedSimpArgs false
set_option linter.unusedVariables false

/-- Can a rule be? -/
def ruleRB (r : GRule) : Bool := decide ((ruleOut (ruleTextL r.1 r.2)).2.2 = 0) && ((ruleOut (ruleTextL r.1 r.2)).2.1 && ruleEq (ruleOut (ruleTextL r.1 r.2)).1.1 (ruleOut (ruleTextL r.1 r.2)).1.2 r.1 r.2)
theorem parse_nameOk {s : List UInt8} (h : parseOk s = true) (hk : (parseH s).kind = 1) : nameOk (parseH s) = true := by
  unfold nameOk
  rw [parse_right h, hk]; rfl
theorem ruleRB_facts {r : GRule} (h : ruleRB r = true) : (r.1 = 1 ∨ r.1 = 2 ∨ r.1 = 3) ∧ r.2.length ≤ 253 ∧ nameOk (nameH r.2) = true := by
  unfold ruleRB at h
  simp only [Bool.and_eq_true, decide_eq_true_eq] at h
  obtain ⟨h1, h2, h3⟩ := h
  obtain ⟨e1, e2⟩ := ruleEq_iff.1 h3
  have key : ∀ x : List UInt8, parseOk x = true → (parseH x).kind = 1 → (parseH x).name = r.2 → r.2.length ≤ 253 ∧ nameOk (nameH r.2) = true := fun x a b c => by
    have h5 := parse_nameOk a b
    obtain ⟨f1, f2, _⟩ := nameOk_facts h5
    rw [c] at f1 f2
    exact ⟨f2, by rw [← f1]; exact h5⟩
  rcases rule_ways (ruleTextL r.1 r.2) with ⟨_, h⟩ | ⟨_, _, h⟩ | ⟨_, _, h⟩
  · rw [h] at h2; cases h2
  · rw [h] at h2; cases h2
  · rcases h with ⟨_, h⟩ | ⟨_, _, h⟩ | ⟨_, _, _, _, h⟩ | ⟨a, b, _, _, h⟩ | ⟨a, b, _, h⟩
    · rw [h] at h2; cases h2
    · rw [h] at h2; cases h2
    · rw [h] at h2; cases h2
    · rw [h] at e1 e2
      exact ⟨.inr (.inr e1.symm), key _ a b e2⟩
    · rw [h] at e1 e2
      exact ⟨by rw [← e1]; exact ruleKind_1 _, key _ a b e2⟩
def pathR (r : GRule) : Rl := (r.1, (splitL 46 r.2).reverse)
def pathH (h : GHost) : List Lab := (labelsL h).reverse
def goodG (R : List GRule) : List Rl := (R.filter ruleRB).map pathR
def sufN (R : List GRule) (h : GHost) : Nat := sufD (goodG R) (pathH h)
theorem goodG_snoc (R : List GRule) (r : GRule) : goodG (R ++ [r]) = if ruleRB r = true then goodG R ++ [pathR r] else goodG R := by
  unfold goodG
  rw [List.filter_append, List.map_append]
  by_cases h : ruleRB r = true
  · rw [if_pos h]; simp [h]
  · rw [if_neg h]; simp [h]
theorem goodG_take (R : List GRule) (k : Nat) (h : k < R.length) : goodG (R.take (k + 1)) = if ruleRB (R[k]'h) = true then goodG (R.take k) ++ [pathR (R[k]'h)] else goodG (R.take k) := by
  rw [List.take_succ_eq_append_getElem h, goodG_snoc]
theorem goodG_kinds {R : List GRule} {r : Rl} (h : r ∈ goodG R) : r.1 = 1 ∨ r.1 = 2 ∨ r.1 = 3 := by
  unfold goodG at h
  obtain ⟨x, hx, rfl⟩ := List.mem_map.1 h
  exact (ruleRB_facts (List.mem_filter.1 hx).2).1
/-! ### hosts below names -/
theorem under_iff {h d : GHost} (hh : nameOk h = true) (hd : nameOk d = true) : underB h d = true ↔ (labelsL d).reverse <+: (labelsL h).reverse ∧ (labelsL d).length < (labelsL h).length := by
  rw [List.reverse_prefix]
  have hdl := labels_ok hd
  have hdp : 0 < (labelsL d).length := by rw [hdl]; exact splitL_pos 46 _
  unfold underB
  constructor
  · intro h1
    split at h1
    · cases h1
    · rename_i hno
      have h2 := (hostEq_iff _ _).1 h1
      have ht : tailOk h (labelsL d).length = true := by unfold tailOk; simp; omega
      have h3 := (tail_facts ht).2.2.2.2.2
      rw [h2] at h3
      refine ⟨?_, by omega⟩
      rw [h3]
      exact List.drop_suffix _ _
  · rintro ⟨h1, h2⟩
    rw [if_neg (by omega), hostEq_iff]
    have ht : tailOk h (labelsL d).length = true := by unfold tailOk; simp; omega
    have h3 := tail_facts ht
    obtain ⟨f1, _⟩ := nameOk_facts hd
    refine h3.2.2.1.trans (Eq.trans ?_ f1.symm)
    congr 1
    have h4 : (labelsL h).drop ((labelsL h).length - (labelsL d).length) = labelsL d := (List.suffix_iff_eq_drop.1 h1).symm
    unfold tailN
    rw [Int.toNat_natCast, h4, hdl, join_split]
theorem pre_iff {h d : GHost} (hh : nameOk h = true) (hd : nameOk d = true) : (underB h d || hostEq h d) = true ↔ (labelsL d).reverse <+: (labelsL h).reverse := by
  rw [Bool.or_eq_true, under_iff hh hd, hostEq_iff]
  constructor
  · rintro (h1 | rfl)
    · exact h1.1
    · exact List.prefix_refl _
  · intro h1
    have hl := h1.length_le
    rw [List.length_reverse, List.length_reverse] at hl
    by_cases he : (labelsL d).length = (labelsL h).length
    · right
      have h2 : (labelsL d).reverse = (labelsL h).reverse := List.IsPrefix.eq_of_length h1 (by simp [he])
      have h3 : labelsL d = labelsL h := List.reverse_inj.1 h2
      obtain ⟨f1, _⟩ := nameOk_facts hh
      obtain ⟨g1, _⟩ := nameOk_facts hd
      rw [labels_ok hh, labels_ok hd] at h3
      have h4 := congrArg (joinL 46) h3
      rw [join_split, join_split] at h4
      rw [f1, g1, h4]
    · left; exact ⟨h1, by omega⟩
theorem label_split {r : GRule} (h : ruleRB r = true) : labelsL (nameH r.2) = splitL 46 r.2 := by
  have hf := ruleRB_facts h
  rw [labels_ok hf.2.2, (nameH_name hf.2.1).2.1]
/-- What the document does with one rule. -/
theorem mostC_eq {r : GRule} {h : GHost} (hr : ruleRB r = true) (hh : nameOk h = true) : mostC (pathH h) (pathR r) = if r.1 = 1 ∧ (underB h (nameH r.2) || hostEq h (nameH r.2)) = true then (splitL 46 r.2).length else if r.1 = 2 ∧ underB h (nameH r.2) = true then (splitL 46 r.2).length + 1 else 0 := by
  have hf := ruleRB_facts hr
  have e := label_split hr
  simp only [pre_iff hh hf.2.2, under_iff hh hf.2.2, e]
  unfold mostC pathH pathR
  simp only [List.length_reverse]
theorem excC_eq {r : GRule} {h : GHost} (hr : ruleRB r = true) (hh : nameOk h = true) : excC (pathH h) (pathR r) = if r.1 = 3 ∧ (underB h (nameH r.2) || hostEq h (nameH r.2)) = true then (splitL 46 r.2).length - 1 else 0 := by
  have hf := ruleRB_facts hr
  have e := label_split hr
  simp only [pre_iff hh hf.2.2, e]
  unfold excC pathH pathR
  simp only [List.length_reverse]
/-! ### the statements, plain -/
def pubB (R : List GRule) (h : GHost) : Bool := decide (0 < (labelsL h).length) && (sufN R h == (labelsL h).length)
def siteL (R : List GRule) (h : GHost) : List UInt8 := if h.kind ≠ 1 then (if rightB h = true then textH h else []) else (tailH h ((sufN R h : Int) + 1)).name
theorem pathH_len (h : GHost) : (pathH h).length = (labelsL h).length := by simp [pathH]
theorem sufD_le (G : List Rl) (L : List Lab) : sufD G L ≤ L.length := by
  unfold sufD
  split
  · exact Nat.zero_le _
  · rename_i hL
    have hpos : 0 < L.length := List.length_pos_iff.2 hL
    split
    · obtain ⟨_, _, h⟩ := foldl_max (excC L) G 0
      unfold excD
      rcases h with h | ⟨r, _, h⟩
      · rw [h]; exact Nat.zero_le _
      · rw [← h]
        unfold excC
        split
        · rename_i h1; have := h1.2.length_le; omega
        · exact Nat.zero_le _
    · obtain ⟨_, _, h⟩ := foldl_max (mostC L) G 1
      unfold mostD
      rcases h with h | ⟨r, _, h⟩
      · rw [h]; exact hpos
      · rw [← h]
        unfold mostC
        split
        · rename_i h1; exact h1.2.length_le
        · split
          · rename_i h2; exact h2.2.2
          · exact Nat.zero_le _
theorem sufD_pos (G : List Rl) (L : List Lab) (hL : L ≠ []) : 1 ≤ sufD G L := by
  unfold sufD
  rw [if_neg hL]
  split
  · assumption
  · exact (foldl_max (mostC L) G 1).1
theorem sufN_le (R : List GRule) (h : GHost) : sufN R h ≤ (labelsL h).length := by rw [← pathH_len]; exact sufD_le _ _
theorem suf_turned (R S : List GRule) (hs : ∀ r, r ∈ S ↔ r ∈ R) (h : GHost) : sufN S h = sufN R h := by
  apply sufD_mem
  intro r
  unfold goodG
  simp only [List.mem_map, List.mem_filter, hs]
theorem suf_grows (R : List GRule) (r : GRule) (hk : r.1 = 1) (h : GHost) : sufN (R ++ [r]) h = sufN R h ∨ (sufN R h < sufN (R ++ [r]) h ∧ sufN (R ++ [r]) h = (splitL 46 r.2).length ∧ ruleRB r = true) := by
  unfold sufN
  rw [goodG_snoc]
  by_cases hr : ruleRB r = true
  · rw [if_pos hr]
    have hex : excC (pathH h) (pathR r) = 0 := by
      unfold excC pathR
      rw [if_neg (by rw [hk]; simp)]
    have he : excD (goodG R ++ [pathR r]) (pathH h) = excD (goodG R) (pathH h) := by
      unfold excD
      rw [List.foldl_append, List.foldl_cons, List.foldl_nil, hex, Nat.max_eq_left (Nat.zero_le _)]
    have hm : mostD (goodG R ++ [pathR r]) (pathH h) = max (mostD (goodG R) (pathH h)) (mostC (pathH h) (pathR r)) := by
      unfold mostD
      rw [List.foldl_append, List.foldl_cons, List.foldl_nil]
    have hc : mostC (pathH h) (pathR r) = 0 ∨ mostC (pathH h) (pathR r) = (splitL 46 r.2).length := by
      unfold mostC pathR
      split
      · right; simp
      · split
        · rename_i h2; rw [hk] at h2; exact absurd h2.1 (by decide)
        · exact .inl rfl
    unfold sufD
    split
    · exact .inl rfl
    · rw [he]
      split
      · exact .inl rfl
      · rw [hm]
        rcases Nat.lt_or_ge (mostD (goodG R) (pathH h)) (mostC (pathH h) (pathR r)) with hlt | hge
        · right
          rw [Nat.max_eq_right (Nat.le_of_lt hlt)]
          exact ⟨hlt, hc.resolve_left (by omega), hr⟩
        · left; exact Nat.max_eq_left hge
  · rw [if_neg hr]; exact .inl rfl
end

section
open Go Go.RowKit
open Go.WideElems (Fit entry_then_store)
open Go.ChangeMaps (setBlock heap_setBlock_same heap_setBlock_other)
set_option maxRecDepth 20000
set_option linter.unusedSimpArgs false
set_option linter.unusedVariables false

def edgeR (k : Int) (n : List UInt8) : List Value := [.int .i64 k, .string ⟨n.toArray⟩]
def edgeV (k : Int) (n : List UInt8) : Array Value := (edgeR k n).toArray
@[go_sem] theorem edgeV_size (k : Int) (n : List UInt8) : (edgeV k n).size = 2 := by simp [edgeV, edgeR]
theorem edge_one (k : Int) (n : List UInt8) : ∀ v ∈ edgeR k n, v.oneCell' = true := by
  intro v hv
  simp only [edgeR, List.mem_cons, List.not_mem_nil, or_false] at hv
  rcases hv with rfl | rfl <;> rfl
@[go_sem] theorem edgeV_one (k : Int) (n : List UInt8) : allOne (edgeV k n) = true := allOne_of (edge_one k n)
@[go_sem] theorem edgeV_all (k : Int) (n : List UInt8) : (edgeV k n).extract 0 2 = edgeV k n := by
  rw [← edgeV_size k n]; simp
@[go_sem] theorem agg_edge : isAggT Tryz.prog 63 = true := by kernel_rfl
@[go_sem] theorem cellsOf_edge : Tryz.prog.cellsOf 63 = 2 := by kernel_rfl
theorem keyLits_edge (D : Nat) (k : Int) (n : List UInt8) (h1 : (Lit.int .i64 k).wf = true) (h2 : n.length ≤ maxLen) : Tryz.prog.keyLits (D + 3) 63 (edgeR k n) = some [.int .i64 k, .string n] := by
  unfold Program.keyLits
  rw [Tryz.underlying63]
  simp [cellsOf_edge, edgeR, cellsOf_int, cellsOf_str, keyLits_str, keyLits_i64, h1, h2]
theorem run_build_edge (k : Int) (n : List UInt8) (w : World) : (Instr.build 63 #[(0, .int .i64 k), (1, .string ⟨n.toArray⟩)]).run Tryz.prog w = .ok (.agg (edgeV k n)) w := by kernel_rfl
@[go_sem ↓ high] theorem run_op_build_edge (ev : Operand → Value) (dst : Option Tmp) (x0 x1 : Operand) (ty : TypeId) (pos : String) (af : Array Edge) (g : Option (Nat × Bool)) (w : World) :
    Sem.run Tryz.prog (execOp ev { dst := dst, op := .build 63 #[(0, x0), (1, x1)], type := ty, pos := pos, after := af, guard := g }) w = buildRow Tryz.prog w 63 #[(0, ev x0), (1, ev x1)] := by
  rw [run_op_build]
  simp
@[go_sem] theorem buildEdge_at (k : Int) (n : List UInt8) (w : World) : buildRow Tryz.prog w 63 #[(0, .int .i64 k), (1, .string ⟨n.toArray⟩)] = .ok (.value (.agg (edgeV k n))) w := by
  rw [buildRow, Sem.run_bind, run_build_edge]
  rfl
/-! ### the map -/
theorem edgeWide : (match Tryz.prog.underlying 63 with | some (.array _ _) | some (.struct _) => true | _ => false) = true := by kernel_rfl
theorem edgeLaw : Go.WideMaps.KeyLaw Tryz.prog 63 := deep_law_laid (m := 10) (by kernel_rfl) (by omega) (of_decide_eq_true (by kernel_rfl)) (by kernel_rfl) edgeWide
theorem nextTy : Tryz.prog.underlying 52 = some (.map 63 3) := by kernel_rfl
def edgeK (k : Int) (n : List UInt8) : Value := .agg (edgeV k n)
theorem edgeKey (k : Int) (n : List UInt8) (h1 : (Lit.int .i64 k).wf = true) (h2 : n.length ≤ maxLen) : ∃ kl, keyOf Tryz.prog 63 (edgeK k n) = some kl := by
  have hl : Tryz.prog.keyLits (Tryz.prog.types.size + 1) 63 (edgeR k n) = some [.int .i64 k, .string n] := by
    have : Tryz.prog.types.size + 1 = (Tryz.prog.types.size - 2) + 3 := by kernel_rfl
    rw [this]
    exact keyLits_edge _ _ _ h1 h2
  have hf : (edgeK k n).formed Tryz.prog 63 = true := by simp [edgeK, edgeV, Value.formed, Tryz.underlying63, cellsOf_edge, edgeR]
  apply Option.isSome_iff_exists.1
  unfold keyOf
  rw [Tryz.underlying63]
  dsimp only
  have hkt : Tryz.prog.keyType 63 = true := by kernel_rfl
  rw [hkt, Bool.true_and, if_pos hf]
  have hc : (edgeK k n).cells.toList = edgeR k n := rfl
  rw [hc, hl]
  rfl
theorem edgeK_inj {k k' : Int} {n n' : List UInt8} (h : edgeK k n = edgeK k' n') : k = k' ∧ n = n' := by
  simp [edgeK, edgeV, edgeR] at h
  exact h
/-- The way from a node by a label. -/
def childN (T : Tree) (i : Nat) (l : Lab) : Option Nat := match T[i]? with
  | none => none
  | some x => if hasB T (x.1 ++ [l]) = true then some (idx T (x.1 ++ [l])) else none
def childV (T : Tree) (i : Nat) (l : Lab) : Int := ((childN T i l).getD 0 : Nat)
def childB (T : Tree) (i : Nat) (l : Lab) : Bool := (childN T i l).isSome
def NextR (w : World) (b : Nat) (T : Tree) : Prop := ∃ D : DataW Unit, w.ownsMap Tryz.prog 63 RI b T.length D ∧ (∃ l, D = .map l) ∧ ∀ (i : Nat) (l : Lab) kl zd, i ≤ 1000000 → l.length ≤ maxLen → keyOf Tryz.prog 63 (edgeK i l) = some kl → D.atKey kl zd = match childN T i l with
  | none => zd
  | some j => .lit (.int .i64 (j : Int))
theorem wf_nat {n : Nat} (h : n ≤ 1000000) : (Lit.int .i64 (n : Int)).wf = true := by
  have e1 : IntKind.i64.min = -9223372036854775808 := rfl
  have e2 : IntKind.i64.max = 9223372036854775807 := rfl
  simp only [Lit.wf, e1, e2, Bool.and_eq_true, decide_eq_true_eq]
  omega
theorem NextR.old {w w' : World} {b : Nat} {T : Tree} (h : NextR w b T) (he : w'.heap[b]? = w.heap[b]?) : NextR w' b T := by
  obtain ⟨D, ⟨es, clock, hb, r⟩, h2⟩ := h
  exact ⟨D, ⟨es, clock, he.trans hb, r⟩, h2⟩
theorem NextR.lt {w : World} {b : Nat} {T : Tree} (h : NextR w b T) : b < w.heap.size := by
  obtain ⟨D, h1, _⟩ := h; exact h1.lt
theorem NextR.made (w : World) (e : GEnd) (b : Nat) (hb : b = w.heap.size) : NextR (w.alloc (.map #[] 0)) b [([], e)] := by
  subst hb
  refine ⟨.map [], (World.ownsMap_made w _ _ _).mono (Nat.zero_le _), ⟨_, rfl⟩, fun i l kl zd hi _ _ => ?_⟩
  have hc : childN [([], e)] i l = none := by
    unfold childN
    cases i with
    | zero => simp [hasB]
    | succ i => simp
  rw [hc]; rfl
theorem NextR.look {w : World} {b : Nat} {T : Tree} (h : NextR w b T) (i : Nat) (l : Lab) (hi : i ≤ 1000000) (hl : l.length ≤ maxLen) :
    (Instr.lookup 52 (.map (some b)) (.agg (edgeV i l)) true).run Tryz.prog w = .ok (.tuple #[.int .i64 (childV T i l), .bool (childB T i l)]) w ∧
    (Instr.lookup 52 (.map (some b)) (.agg (edgeV i l)) false).run Tryz.prog w = .ok (.int .i64 (childV T i l)) w := by
  obtain ⟨D, ⟨es, clock, hb, F, hsz, rfl⟩, _, hD⟩ := h
  obtain ⟨kl, hkey⟩ : ∃ kl, keyOf Tryz.prog 63 (edgeK i l) = some kl :=
    edgeKey i l (wf_nat hi) hl
  have key : ∀ c, (Instr.lookup 52 (.map (some b)) (edgeK i l) c).run Tryz.prog w = .ok (if c then .tuple #[.int .i64 (childV T i l), .bool (childB T i l)] else .int .i64 (childV T i l)) w := fun c => by
    have hd := hD i l kl
    rcases Go.Maps.fit_look (w := w) (H := Unit) c (Go.Maps.Keyed.of_law edgeLaw) nextTy (seenZ w) hb F hkey with ⟨hrun, _, hat⟩ | ⟨e0, y, he0, hk0, hrun, hR, hat, _⟩
    · have hn : childN T i l = none := by
        cases hc : childN T i l with
        | none => rfl
        | some j =>
          have h1 := hd (.lit (.bool true)) hi hl hkey
          rw [hc, hat] at h1
          cases h1
      rw [hrun]
      unfold childV childB
      rw [hn]; rfl
    · obtain ⟨a, ha, hz, _⟩ := plainElem_int_inv Tryz.underlying3 hR
      cases hc : childN T i l with
      | none =>
        have h1 := hd (.lit (.bool true)) hi hl hkey
        have h2 := hd (.lit (.bool false)) hi hl hkey
        rw [hc, hat] at h1 h2
        dsimp only at h1 h2
        rw [h1] at h2
        cases h2
      | some j =>
        have h1 := hd (.lit (.bool true)) hi hl hkey
        rw [hc, hat, hz] at h1
        dsimp only at h1
        have h2 : a = (j : Int) := by simpa using h1
        rw [hrun, ha, h2]
        unfold childV childB
        rw [hc]; rfl
  exact ⟨key true, key false⟩
theorem childN_at (T : Tree) (i : Nat) (hi : i < T.length) (l : Lab) : childN T i l = if hasB T ((T[i]'hi).1 ++ [l]) = true then some (idx T ((T[i]'hi).1 ++ [l])) else none := by
  have e : T[i]? = some (T[i]'hi) := List.getElem?_eq_getElem hi
  unfold childN
  split
  · rename_i h; rw [e] at h; cases h
  · rename_i x h
    rw [e] at h
    obtain rfl := Option.some.inj h
    rfl
theorem childN_out (T : Tree) (i : Nat) (hi : ¬ i < T.length) (l : Lab) : childN T i l = none := by
  have e : T[i]? = none := List.getElem?_eq_none (by omega)
  unfold childN
  split
  · rfl
  · rename_i x h; rw [e] at h; cases h
theorem grow_at (T : Tree) (i : Nat) (hi : i < T.length) (l : Lab) : grow T ((T[i]'hi).1 ++ [l]) = if childB T i l = true then T else T ++ [((T[i]'hi).1 ++ [l], endZ)] := by
  unfold grow childB
  rw [childN_at T i hi l]
  by_cases hb : hasB T ((T[i]'hi).1 ++ [l]) = true
  · rw [if_pos hb, if_pos hb]; rfl
  · rw [if_neg hb, if_neg hb]; rfl
theorem idx_append {T : Tree} {p q : List Lab} {e : GEnd} (h : has T q) : idx (T ++ [(p, e)]) q = idx T q := by
  have h1 : T.findIdx (fun x => x.1 == q) < T.length := idx_lt h
  unfold idx
  rw [List.findIdx_append, if_pos h1]
theorem idx_new {T : Tree} {p : List Lab} {e : GEnd} (h : hasB T p = false) : idx (T ++ [(p, e)]) p = T.length := by
  have h1 : T.findIdx (fun x => x.1 == p) = T.length := by
    rw [List.findIdx_eq_length]
    intro x hx
    cases hq : (x.1 == p)
    · rfl
    · have : hasB T p = true := hasB_iff.2 ⟨x.2, by rw [← beq_iff_eq.1 hq]; exact hx⟩
      rw [h] at this; cases this
  unfold idx
  rw [List.findIdx_append, h1, if_neg (Nat.lt_irrefl _)]
  simp
theorem hasB_append (T : Tree) (p q : List Lab) (e : GEnd) : hasB (T ++ [(p, e)]) q = (hasB T q || p == q) := by
  simp [hasB]
/-- The ways behind a node more. -/
theorem childN_grow {T : Tree} {G : List Rl} (hT : TreeOf T G) (i : Nat) (hi : i < T.length) (l : Lab) (hno : hasB T ((T[i]'hi).1 ++ [l]) = false) (i' : Nat) (l' : Lab) :
    childN (T ++ [((T[i]'hi).1 ++ [l], endZ)]) i' l' = if i' = i ∧ l' = l then some T.length else childN T i' l' := by
  by_cases h1 : i' < T.length
  · have e1 : ((T ++ [((T[i]'hi).1 ++ [l], endZ)])[i']'(by simp; omega)) = T[i']'h1 := List.getElem_append_left h1
    rw [childN_at _ i' (by simp; omega), childN_at T i' h1, e1, hasB_append]
    by_cases h2 : i' = i ∧ l' = l
    · obtain ⟨rfl, rfl⟩ := h2
      rw [if_pos (show i' = i' ∧ l' = l' from ⟨rfl, rfl⟩), if_pos (by simp), idx_new hno]
    · rw [if_neg h2]
      have hne : ((T[i]'hi).1 ++ [l] == (T[i']'h1).1 ++ [l']) = false := by
        rw [beq_eq_false_iff_ne]
        intro e
        have e1 := List.append_inj_left' e rfl
        have e2 := List.append_inj_right' e rfl
        have hp := List.pairwise_iff_getElem.1 hT.nodup
        apply h2
        refine ⟨?_, by simpa using e2.symm⟩
        rcases Nat.lt_trichotomy i i' with hl | hl | hl
        · exact absurd (by rw [List.getElem_map, List.getElem_map]; exact e1) (hp i i' (by simpa using hi) (by simpa using h1) hl)
        · exact hl.symm
        · exact absurd (by rw [List.getElem_map, List.getElem_map]; exact e1.symm) (hp i' i (by simpa using h1) (by simpa using hi) hl)
      rw [hne, Bool.or_false]
      by_cases hb : hasB T ((T[i']'h1).1 ++ [l']) = true
      · rw [if_pos hb, if_pos hb, idx_append (hasB_iff.1 hb)]
      · rw [if_neg hb, if_neg hb]
  · have h2 : ¬ (i' = i ∧ l' = l) := by rintro ⟨rfl, _⟩; exact h1 hi
    rw [if_neg h2, childN_out T i' h1]
    by_cases h3 : i' = T.length
    · subst h3
      have e1 : ((T ++ [((T[i]'hi).1 ++ [l], endZ)])[T.length]'(by simp)) = ((T[i]'hi).1 ++ [l], endZ) := by simp
      rw [childN_at _ _ (by simp), e1, hasB_append]
      have hno2 : hasB T ((T[i]'hi).1 ++ [l] ++ [l']) = false := by
        cases hb : hasB T ((T[i]'hi).1 ++ [l] ++ [l'])
        · rfl
        · have := hasB_iff.2 (hT.closed _ _ (hasB_iff.1 hb))
          rw [hno] at this; cases this
      have hne : ((T[i]'hi).1 ++ [l] == (T[i]'hi).1 ++ [l] ++ [l']) = false := by
        rw [beq_eq_false_iff_ne]
        intro e
        have := congrArg List.length e
        simp at this
      rw [hno2, hne]; rfl
    · rw [childN_out _ _ (by simp; omega)]
theorem NextR.put {w : World} {b : Nat} {T : Tree} {G : List Rl} (hT : TreeOf T G) (h : NextR w b T) (i : Nat) (l : Lab) (hi : i < T.length) (hT2 : T.length < 1000000) (hl : l.length ≤ maxLen) (hno : childB T i l = false) :
    ∃ w', (Instr.mapUpdate 52 (.map (some b)) (.agg (edgeV i l)) (.int .i64 (T.length : Int))).run Tryz.prog w = .ok () w' ∧ w.grownBy w' (some b) ∧ NextR w' b (T ++ [((T[i]'hi).1 ++ [l], endZ)]) := by
  obtain ⟨D, hown, ⟨L, rfl⟩, hD⟩ := h
  obtain ⟨kl, hkey⟩ : ∃ kl, keyOf Tryz.prog 63 (edgeK i l) = some kl :=
    edgeKey i l (wf_nat (by omega)) hl
  obtain ⟨w', hrun, hown2, hg⟩ := hown.update (Go.Maps.Keyed.of_law edgeLaw) nextTy (by unfold maxLen; omega) hkey (plainElem_int (H := Unit) Tryz.underlying3 (wf_nat (n := T.length) (by omega)))
  have hnb : hasB T ((T[i]'hi).1 ++ [l]) = false := by
    unfold childB at hno
    rw [childN_at T i hi l] at hno
    cases hb : hasB T ((T[i]'hi).1 ++ [l])
    · rfl
    · rw [hb] at hno; cases hno
  refine ⟨w', hrun, hg, _, by rw [List.length_append]; exact hown2, ⟨_, rfl⟩, fun i' l' kl' zd hi' hl' hk' => ?_⟩
  rw [childN_grow hT i hi l hnb]
  by_cases he : i' = i ∧ l' = l
  · obtain ⟨rfl, rfl⟩ := he
    rw [if_pos ⟨rfl, rfl⟩]
    have hkk : kl' = kl := Option.some.inj (hk'.symm.trans hkey)
    subst hkk
    exact Go.Maps.atKey_put_same ⟨_, rfl⟩ ((Go.Maps.Keyed.of_law edgeLaw).key hkey) _ _
  · rw [if_neg he]
    have hkk : kl' ≠ kl := by
      rintro rfl
      have := edgeK_inj (edgeLaw.inj hk' hkey)
      exact he ⟨by have := this.1; omega, this.2⟩
    show (DataW.put (.map L) kl (.lit (.int .i64 (T.length : Int)))).atKey kl' zd = _
    rw [Go.Maps.atKey_put_other hkk]
    exact hD i' l' kl' zd hi' hl' hk'
end

section
open Go Go.RowKit
set_option maxRecDepth 20000
set_option linter.unusedSimpArgs false
set_option linter.unusedVariables false

def endR (e : GEnd) : List Value := [.bool e.1, .bool e.2.1, .bool e.2.2.1, .bool e.2.2.2]
def endV (e : GEnd) : Array Value := (endR e).toArray
def endCod : Cod GEnd where
  E := 60
  S := 53
  sz := 4
  bys := 4
  z := .agg (endV endZ)
  enc := endR
  und := by kernel_rfl
  info := by kernel_rfl
  zsz := rfl
  pos := by decide
  len := fun _ => rfl
  one := fun e v hv => by
    simp only [endR, List.mem_cons, List.not_mem_nil, or_false] at hv
    rcases hv with rfl | rfl | rfl | rfl <;> rfl
@[go_sem] theorem endV_size (e : GEnd) : (endV e).size = 4 := rfl
@[go_sem] theorem endV_one (e : GEnd) : allOne (endV e) = true := allOne_of (endCod.one e)
@[go_sem] theorem agg_end : isAggT Tryz.prog 60 = true := by kernel_rfl
@[go_sem] theorem cellsOf_end : Tryz.prog.cellsOf 60 = 4 := by kernel_rfl
theorem run_build_end0 (w : World) : (Instr.build 60 #[]).run Tryz.prog w = .ok (.agg (endV endZ)) w := by kernel_rfl
@[go_sem ↓ high] theorem run_op_build_end0 (ev : Operand → Value) (dst : Option Tmp) (ty : TypeId) (pos : String) (af : Array Edge) (g : Option (Nat × Bool)) (w : World) :
    Sem.run Tryz.prog (execOp ev { dst := dst, op := .build 60 #[], type := ty, pos := pos, after := af, guard := g }) w = .ok (.value (.agg (endV endZ))) w := by
  rw [run_op_build, buildRow, Sem.run_bind]
  simp [run_build_end0]
/-- One end's cell. -/
theorem endCell {w : World} {b : Nat} {xs : List GEnd} (h : ListAt endCod w b 0 xs) (i : Nat) (hi : i < xs.length) :
    w.cell? ⟨b, i * 4, none⟩ = some (.bool (xs[i]'hi).1) ∧ w.cell? ⟨b, i * 4 + 1, none⟩ = some (.bool (endAt (xs[i]'hi) 1)) ∧ w.cell? ⟨b, i * 4 + 2, none⟩ = some (.bool (endAt (xs[i]'hi) 2)) ∧ w.cell? ⟨b, i * 4 + 3, none⟩ = some (.bool (endAt (xs[i]'hi) 3)) := by
  have key : ∀ j (hj : j < 4), w.cell? ⟨b, i * 4 + j, none⟩ = some ((endR (xs[i]'hi))[j]'hj) := fun j hj => by
    have h1 := endCod.encs_get xs i hi j hj
    have h2 : (endCod.enc (xs[i]'hi))[j]? = some ((endR (xs[i]'hi))[j]'hj) := List.getElem?_eq_getElem (show j < (endR (xs[i]'hi)).length from hj)
    rw [h2] at h1
    have := h _ _ h1
    rw [Nat.zero_add] at this
    exact this
  exact ⟨key 0 (by omega), key 1 (by omega), key 2 (by omega), key 3 (by omega)⟩
theorem encs_set (xs : List GEnd) (i : Nat) (hi : i < xs.length) (k : Nat) (hk : k < 4) (e : GEnd) (he : endR e = (endR (xs[i]'hi)).set k (.bool true)) : endCod.encs (xs.set i e) = (endCod.encs xs).set (i * 4 + k) (.bool true) := by
  induction xs generalizing i with
  | nil => cases hi
  | cons x xs ih =>
    have e0 : ∀ (y : GEnd) (ys : List GEnd), endCod.encs (y :: ys) = endR y ++ endCod.encs ys := fun y ys => by simp [Cod.encs, endCod]
    have l4 : ∀ y : GEnd, (endR y).length = 4 := fun _ => rfl
    cases i with
    | zero =>
      rw [List.set_cons_zero, e0, e0, he]
      simp only [List.getElem_cons_zero, Nat.zero_mul, Nat.zero_add]
      rw [List.set_append_left _ _ (by rw [l4]; exact hk)]
    | succ i =>
      rw [List.set_cons_succ, e0, e0, ih i (by simpa using hi) (by simpa using he)]
      rw [List.set_append_right _ _ (by rw [l4]; omega), l4]
      congr 2
      omega
/-- An end is marked in a slice of one's own. -/
theorem Own.mark {Q : Nat → Prop} {w : World} {g cap : Nat} {xs : List GEnd} (h : Own endCod Q w (.slice (some ⟨g, 0, none⟩) xs.length cap) xs) (i : Nat) (hi : i < xs.length) (k : Nat) (hk : k < 4) (e : GEnd) (he : endR e = (endR (xs[i]'hi)).set k (.bool true)) :
    Own endCod Q (w.setCell ⟨g, i * 4 + k, none⟩ (.bool true)) (.slice (some ⟨g, 0, none⟩) (xs.set i e).length cap) (xs.set i e) := by
  obtain ⟨⟨h1, ⟨hv, h0⟩ | ⟨g', cap', cur, hv, hg, hh, hnc, hcm, hcur, hx⟩⟩, hq⟩ := h
  · cases hv
  · simp only [Value.slice.injEq, Option.some.injEq, Addr.mk.injEq, and_true, true_and] at hv
    obtain ⟨rfl, rfl⟩ := hv
    refine ⟨⟨by rw [encs_set xs i hi k hk e he, List.length_set, h1, List.length_set], .inr ⟨g, cap, cur.setIfInBounds (i * 4 + k) (.bool true), rfl, hg, ?_, by rw [List.length_set]; exact hnc, hcm, by rw [Array.size_setIfInBounds]; exact hcur, ?_⟩⟩, hq⟩
    · simp [World.setCell, Array.getElem?_modify, hh]
    · rw [List.length_set, encs_set xs i hi k hk e he, ← hx, Array.toList_setIfInBounds, List.take_set]
/-! ### the table -/
def TabR (Q : Nat → Prop) (w : World) (bt bm : Nat) (ends : Value) (T : Tree) : Prop :=
  Var w bt [.map (some bm), ends] ∧ NextR w bm T ∧ Own endCod Q w ends (T.map Prod.snd) ∧ bt ≠ bm ∧ ¬ Q bt ∧ ¬ Q bm
theorem TabR.below {Q : Nat → Prop} {w w' : World} {bt bm : Nat} {ends : Value} {T : Tree} (h : TabR Q w bt bm ends T) (hb : Below w.heap.size w w') : TabR Q w' bt bm ends T :=
  ⟨h.1.below hb, h.2.1.old (hb.block _ h.2.1.lt), h.2.2.1.below hb, h.2.2.2⟩
theorem TabR.sub {Q Q' : Nat → Prop} {w : World} {bt bm : Nat} {ends : Value} {T : Tree} (h : TabR Q w bt bm ends T) (hq : ∀ k, Q k → Q' k) (h1 : ¬ Q' bt) (h2 : ¬ Q' bm) : TabR Q' w bt bm ends T :=
  ⟨h.1, h.2.1, h.2.2.1.sub hq, h.2.2.2.1, h1, h2⟩
theorem TabR.form {Q : Nat → Prop} {w : World} {bt bm : Nat} {ends : Value} {T : Tree} {G : List Rl} (h : TabR Q w bt bm ends T) (hT : TreeOf T G) : ∃ g cap, ends = .slice (some ⟨g, 0, none⟩) T.length cap ∧ T.length ≤ cap ∧ Q g ∧ g < w.heap.size ∧ ListAt endCod w g 0 (T.map Prod.snd) ∧ ∀ j, w.frozen? ⟨g, j, none⟩ = false := by
  rcases h.2.2.1.form with ⟨_, h0⟩ | ⟨g, cap, h1, h2, h3, h4, h5, h6⟩
  · obtain ⟨e, M, rfl⟩ := hT.root
    cases h0
  · rw [List.length_map] at h1 h2
    exact ⟨g, cap, h1, h2, h3, h4, h5, h6⟩
theorem endOf_at {T : Tree} {p : List Lab} (h : has T p) (hl : idx T p < (T.map Prod.snd).length) : (T.map Prod.snd)[idx T p]'hl = endOf T p := by
  have h1 := idx_lt h
  unfold endOf
  rw [List.getD_eq_getElem?_getD, List.getElem?_eq_getElem h1, List.getElem_map]
  rfl
theorem child_idx {T : Tree} {p : List Lab} (h : has T p) (l : Lab) : childB T (idx T p) l = hasB T (p ++ [l]) ∧ (hasB T (p ++ [l]) = true → childV T (idx T p) l = (idx T (p ++ [l]) : Nat)) := by
  unfold childB childV
  rw [childN_at T (idx T p) (idx_lt h) l, idx_at h]
  by_cases hb : hasB T (p ++ [l]) = true
  · rw [if_pos hb, hb]
    exact ⟨rfl, fun _ => rfl⟩
  · rw [if_neg hb]
    exact ⟨by simpa using (Bool.eq_false_iff.2 hb).symm, fun h => absurd h hb⟩
end

section
open Go Go.RowKit
set_option maxRecDepth 20000
set_option linter.unusedSimpArgs false
set_option linter.unusedVariables false

@[go_sem] theorem endZ_fold : Array.foldl (fun (cs : Array Value) (x : Value × Nat) => cs.setIfInBounds x.snd x.fst) #[Value.bool false, Value.bool false, Value.bool false, Value.bool false] (endV endZ).zipIdx 0 4 = endV endZ := by kernel_rfl
/-- What 'put' leaves. -/
def PutPost (Q : Nat → Prop) (bt bm : Nat) (T : Tree) (w : World) : Ending → World → Prop := fun e w' => e = .returned (.tuple #[]) ∧ ∃ ends, TabR Q w' bt bm ends T ∧ Keeps (fun j => j = bt ∨ j = bm ∨ Q j) w w'
theorem grow_len (T : Tree) (p : List Lab) : (grow T p).length ≤ T.length + 1 := by
  unfold grow
  split
  · omega
  · simp
theorem idx_root' {T : Tree} {G : List Rl} (h : TreeOf T G) : idx T [] = 0 ∧ has T [] := by
  obtain ⟨e, M, rfl⟩ := h.root
  exact ⟨by simp [idx, List.findIdx_cons], ⟨e, List.mem_cons_self⟩⟩
theorem endSet_R (e : GEnd) (k : Nat) (hk : k < 4) : endR (endSet e k) = (endR e).set k (.bool true) := by
  match k, hk with
  | 0, _ => rfl
  | 1, _ => rfl
  | 2, _ => rfl
  | 3, _ => rfl
theorem map_snd_mark (T : Tree) (p : List Lab) (k : Int) (h : idx T p < T.length) : (mark T p k).map Prod.snd = (T.map Prod.snd).set (idx T p) (endSet ((T.map Prod.snd)[idx T p]'(by rw [List.length_map]; exact h)) k) := by
  apply List.ext_getElem?
  intro i
  unfold mark
  rw [List.getElem?_map, List.getElem?_modify, List.getElem?_set]
  by_cases hi : idx T p = i
  · subst hi
    simp [List.getElem?_eq_getElem h, h]
  · simp [hi]
theorem mark_len (T : Tree) (p : List Lab) (k : Int) : (mark T p k).length = T.length := by unfold mark; simp
theorem childN_of_map {T U : Tree} (h : T.map Prod.fst = U.map Prod.fst) (i : Nat) (l : Lab) : childN T i l = childN U i l := by
  have hl : T.length = U.length := by rw [← List.length_map (f := Prod.fst), h, List.length_map]
  have hany : ∀ p, hasB T p = hasB U p := fun p => by
    have e : ∀ V : Tree, hasB V p = (V.map Prod.fst).any (fun x => x == p) := fun V => by unfold hasB; rw [List.any_map]; rfl
    rw [e, e, h]
  have hidx : ∀ p, idx T p = idx U p := fun p => by
    have e : ∀ V : Tree, idx V p = (V.map Prod.fst).findIdx (fun x => x == p) := fun V => by unfold idx; rw [List.findIdx_map]; rfl
    rw [e, e, h]
  by_cases hi : i < T.length
  · have hg : (T[i]'hi).1 = (U[i]'(by omega)).1 := by
      have e1 : (T.map Prod.fst)[i]'(by simpa using hi) = (U.map Prod.fst)[i]'(by simp; omega) := by congr 1
      simpa using e1
    rw [childN_at T i hi, childN_at U i (by omega), hg, hany, hidx]
  · rw [childN_out T i hi, childN_out U i (by omega)]
theorem NextR.mark {w : World} {b : Nat} {T : Tree} (h : NextR w b T) (p : List Lab) (k : Int) : NextR w b (mark T p k) := by
  obtain ⟨D, h1, h2, h3⟩ := h
  refine ⟨D, by rw [mark_len]; exact h1, h2, fun i l kl zd a b c => ?_⟩
  rw [h3 i l kl zd a b c, childN_of_map (mark_fst T p k)]
theorem put_new {U : Tree} {G : List Rl} (hU : TreeOf U G) {p : List Lab} (hh : has U p) (l : Lab) (hno : hasB U (p ++ [l]) = false) :
    grow U (p ++ [l]) = U ++ [(p ++ [l], endZ)] ∧ TreeOf (U ++ [(p ++ [l], endZ)]) G ∧ has (U ++ [(p ++ [l], endZ)]) (p ++ [l]) ∧ idx (U ++ [(p ++ [l], endZ)]) (p ++ [l]) = U.length ∧ childB U (idx U p) l = false ∧
    childV (U ++ [(p ++ [l], endZ)]) (idx U p) l = (U.length : Nat) ∧ (U ++ [(p ++ [l], endZ)]).map Prod.snd = U.map Prod.snd ++ [endZ] := by
  have hg : grow U (p ++ [l]) = U ++ [(p ++ [l], endZ)] := by unfold grow; rw [if_neg (by rw [hno]; decide)]
  have hT := grow_of hU p l hh
  have hs := grow_self U (p ++ [l])
  rw [hg] at hT hs
  have h1 : childB U (idx U p) l = false := (child_idx hh l).1.trans hno
  have h2 : idx (U ++ [(p ++ [l], endZ)]) p = idx U p := idx_append hh
  have h3 : has (U ++ [(p ++ [l], endZ)]) p := by
    obtain ⟨e, he⟩ := hh
    exact ⟨e, List.mem_append_left _ he⟩
  have h4 := (child_idx h3 l).2 (hasB_iff.2 hs)
  rw [h2, idx_new hno] at h4
  exact ⟨hg, hT, hs, idx_new hno, h1, h4, by simp⟩
theorem put_old {U : Tree} {p : List Lab} (hh : has U p) (l : Lab) (hb : hasB U (p ++ [l]) = true) :
    grow U (p ++ [l]) = U ∧ has U (p ++ [l]) ∧ childB U (idx U p) l = true ∧ childV U (idx U p) l = (idx U (p ++ [l]) : Nat) := by
  obtain ⟨h1, h2⟩ := child_idx hh l
  exact ⟨by unfold grow; rw [if_pos hb], hasB_iff.1 hb, h1.trans hb, h2 hb⟩
theorem NextR.put' {w : World} {b : Nat} {T : Tree} {G : List Rl} (hT : TreeOf T G) (h : NextR w b T) {p : List Lab} (hp : has T p) (l : Lab) (hT2 : T.length < 1000000) (hl : l.length ≤ maxLen) (hno : childB T (idx T p) l = false) :
    ∃ w', (Instr.mapUpdate 52 (.map (some b)) (.agg (edgeV (idx T p : Nat) l)) (.int .i64 (T.length : Int))).run Tryz.prog w = .ok () w' ∧ w.grownBy w' (some b) ∧ NextR w' b (T ++ [(p ++ [l], endZ)]) := by
  have := h.put hT (idx T p) l (idx_lt hp) hT2 hl hno
  rw [idx_at hp] at this
  exact this
set_option maxRecDepth 100000 in
set_option maxHeartbeats 8000000 in
theorem put_any (Q : Nat → Prop) (T : Tree) (G : List Rl) (hT : TreeOf T G) (k0 : Nat) (hk0 : k0 < 4) (n : List UInt8) (hn : n.length ≤ 10000) (hT2 : T.length ≤ 100000) (bt bm : Nat) (ends : Value) (m : Int) (w : World) (hQ : ∀ j, w.heap.size ≤ j → Q j) (ht : TabR Q w bt bm ends T) (hm : HasMax m w) :
    Calls Tryz.prog 25 #[.pointer (some ⟨bt, 0, none⟩), .agg (ruleV (k0 : Int) n)] w (PutPost Q bt bm (putT T (pathR ((k0 : Int), n))) w) := by
  have HS : Hid (∀ w, HasMax m w → Calls Tryz.prog 50 #[.string ⟨n.toArray⟩, .int .u8 46] w (Gives strCod (splitL 46 n) w)) := fun w hm => split_gives n 46 (by omega) m w hm
  have hLl := splitL_length_le 46 n
  have HPL : Hid (∀ x ∈ splitL 46 n, x.length ≤ maxLen) := fun x hx => by
    have := splitL_piece_le 46 n x hx
    unfold maxLen; omega
  have HTR := Lib.hid hT
  obtain ⟨hroot, hhas0⟩ := idx_root' hT
  have hPR : pathR ((k0 : Int), n) = ((k0 : Int), (splitL 46 n).reverse) := rfl
  rw [hPR]
  obtain ⟨RES, hres⟩ : ∃ RES, putGo T [] (splitL 46 n).reverse = RES := ⟨_, rfl⟩
  have HRES := Lib.hid hres
  have hfin : putT T ((k0 : Int), (splitL 46 n).reverse) = mark RES (splitL 46 n).reverse (k0 : Int) := by rw [← hres]; rfl
  rw [hfin]
  clear hfin hres hT hPR
  have HPH : Hid ((splitL 46 n).reverse = (splitL 46 n).reverse) := rfl
  obtain ⟨P, hP⟩ : ∃ P, (splitL 46 n).reverse = P := ⟨_, rfl⟩
  rw [hP] at HPH HRES ⊢
  have HPP := Lib.hid hP
  clear hP HPH
  generalize splitL 46 n = L at *
  obtain ⟨POST, hpost⟩ : ∃ POST, PutPost Q bt bm (mark RES P (k0 : Int)) w = POST := ⟨_, rfl⟩
  rw [hpost]
  have HPOST := Lib.hid hpost
  clear hpost
  have HTB := Lib.hid ht
  have HQ := Lib.hid hQ
  obtain ⟨be, cap, rfl, hcap, _, hbe, _, _⟩ := ht.form HTR.out
  have hbt := ht.1.lt
  have hbm := ht.2.1.lt
  have hne := ht.2.2.2.1
  clear ht hQ
  go_enter Tryz.func25, Tryz.ntmps25
  go_upto_region 3 with (go_at_call 50; (with_reducible refine (HS.out _ ?_).mono ?_); (exact (by repeat (first | exact hm | apply HasMax.grown | apply HasMax.alloc | apply HasMax.drew))); intro e w1 hg; obtain ⟨a1, c1, rfl, hc1, hb1, hl1⟩ := hg; have HB1 := Lib.hid hb1; have HL1 := Lib.hid hl1; clear hb1 hl1)
  have HBW : Hid (Below w.heap.size w w1) := ((Below.refl _ _).alloc (Nat.le_refl _) _).trans (HB1.out.mono (by simp))
  have HV3 : Hid (Var w1 w.heap.size (ruleR (k0 : Int) n)) := (Var.new w _ _ rfl rfl).below HB1.out
  have hs1 := HB1.out.size
  simp at hs1
  have HTB1 := Lib.hid (HTB.out.below HBW.out)
  have hPl : P.length = L.length := by rw [← HPP.out, List.length_reverse]
  obtain ⟨Q1, hQ1⟩ : ∃ Q1 : Nat → Prop, Q1 = (fun j => Q j ∧ (j < w.heap.size ∨ w1.heap.size ≤ j)) := ⟨_, rfl⟩
  have HQ1 : Hid (∀ j, Q1 j ↔ Q j ∧ (j < w.heap.size ∨ w1.heap.size ≤ j)) := fun j => by rw [hQ1]
  clear hQ1
  have HTB2 : Hid (TabR Q1 w1 bt bm (.slice (some ⟨be, 0, none⟩) T.length cap) T) :=
    ⟨HTB1.out.1, HTB1.out.2.1, ⟨HTB1.out.2.2.1.1, fun q hq => (HQ1.out q).2 ⟨HTB1.out.2.2.1.2 q hq, .inl (by cases hq; exact hbe)⟩⟩, hne, fun h => HTB1.out.2.2.2.2.1 ((HQ1.out _).1 h).1, fun h => HTB1.out.2.2.2.2.2 ((HQ1.out _).1 h).1⟩
  have HQN : Hid (∀ j, w1.heap.size ≤ j → Q1 j) := fun j hj => (HQ1.out j).2 ⟨HQ.out j (by omega), .inr hj⟩
  have HQV : Hid (∀ j, w.heap.size ≤ j → j < w1.heap.size → ¬ (j = bt ∨ j = bm ∨ Q1 j)) := fun j h1 h2 h => by
    rcases h with h | h | h
    · omega
    · omega
    · have := ((HQ1.out j).1 h).2; omega
  go_upto_region 4 with fail
  go_loopw [4, 6] (fun node i wr => ∃ (k : Nat) (U : Tree) (ends' : Value), k ≤ P.length ∧ node = .int .i64 (idx U (P.take k) : Nat) ∧ i = .int .i64 ((P.length : Int) - 1 - k) ∧ TreeOf U G ∧ has U (P.take k) ∧ U.length ≤ T.length + k ∧ Hid (putGo U (P.take k) (P.drop k) = RES) ∧ TabR Q1 wr bt bm ends' U ∧ Keeps (fun j => j = bt ∨ j = bm ∨ Q1 j) w1 wr) (fun _ i _ => (intOf i + 1).toNat)
  case atStart => exact ⟨0, T, _, Nat.zero_le _, by rw [List.take_zero, hroot]; rfl, by rw [hPl]; go_num, HTR.out, by rw [List.take_zero]; exact hhas0, Nat.le_refl _, by rw [List.take_zero, List.drop_zero]; exact HRES.out, HTB2.out, Keeps.refl _ _⟩
  case round =>
    obtain ⟨k, U, ends', hk, rfl, rfl, hU, hh, hUl, HI, htb, hkp⟩ := hrel
    have HU := Lib.hid hU
    have HH := Lib.hid hh
    have HTBR := Lib.hid htb
    have HKP := Lib.hid hkp
    obtain ⟨g, cap', rfl, hcap', hQg, hg, hatE, hfrE⟩ := htb.form hU
    have hv := htb.1
    have hct0 : wr.cell? ⟨bt, 0, none⟩ = some (.map (some bm)) := hv.cell 0 (by simp)
    have hct1 : wr.cell? ⟨bt, 1, none⟩ = some (.slice (some ⟨g, 0, none⟩) U.length cap') := hv.cell 1 (by simp)
    have hws := hkp.size
    have hil := idx_lt hh
    have hV3 : Var wr w.heap.size (ruleR (k0 : Int) n) := HV3.out.keeps hkp (HQV.out _ (by omega) (by omega))
    by_cases hlt : k < P.length
    · have hj : L.length - 1 - k < L.length := by omega
      have hjn : (P.length : Int) - 1 - k = ((L.length - 1 - k : Nat) : Int) := by omega
      rw [hjn]
      obtain ⟨b1, o1, rfl, hlo1, hlt1, hat1⟩ := HL1.out.resolve_left (fun h => by subst h; exact absurd hj (Nat.not_lt_zero _))
      simp at hlo1
      have hcell := strAt (hat1.keeps hkp hlt1 (HQV.out _ (by omega) hlt1)) (L.length - 1 - k) hj
      have hlab := HPL.out _ (List.getElem_mem hj)
      have hPk : P[k]'hlt = L[L.length - 1 - k]'hj := by
        have := HPP.out
        subst this
        simp only [List.getElem_reverse]
      have htk : P.take (k + 1) = P.take k ++ [L[L.length - 1 - k]'hj] := by rw [← hPk, List.take_succ_eq_append_getElem hlt]
      have hdr : P.drop k = L[L.length - 1 - k]'hj :: P.drop (k + 1) := by rw [← hPk, List.drop_eq_getElem_cons hlt]
      have HI2 : Hid (putGo (grow U (P.take (k + 1))) (P.take (k + 1)) (P.drop (k + 1)) = RES) := by
        have := HI.out
        rw [hdr] at this
        show _ = _
        rw [htk]; exact this
      have hib1 : isOld b1 wr = true := isOld_iff.2 (by omega)
      have hji : ((L.length - 1 - k : Nat) : Int) < (L.length : Int) := by omega
      have hwj : IntKind.i64.wrap (((L.length - 1 - k : Nat) : Int) - 1) = ((L.length - 1 - k : Nat) : Int) - 1 := IntWalk.i64_in _ (by omega)
      have HNX : Hid (((L.length - 1 - k : Nat) : Int) - 1 = (P.length : Int) - 1 - (k + 1 : Nat)) := by show _ = _; omega
      have hcase : (hasB U (P.take k ++ [L[L.length - 1 - k]'hj]) = false ∨ hasB U (P.take k ++ [L[L.length - 1 - k]'hj]) = true) := by
        cases hasB U (P.take k ++ [L[L.length - 1 - k]'hj])
        · exact .inl rfl
        · exact .inr rfl
      have HNEW : Hid (hasB U (P.take k ++ [L[L.length - 1 - k]'hj]) = false → _) := fun hno => put_new hU hh _ hno
      have HOLD : Hid (hasB U (P.take k ++ [L[L.length - 1 - k]'hj]) = true → _) := fun hno => put_old hh _ hno
      have HPUT : Hid (∀ W (_ : NextR W bm U) (_ : childB U (idx U (P.take k)) (L[L.length - 1 - k]'hj) = false), _) := fun W a b => a.put' hU hh _ (by omega) hlab b
      have HLK : Hid (∀ W (_ : NextR W bm U), _) := fun W a => a.look (idx U (P.take k)) (L[L.length - 1 - k]'hj) (by omega) hlab
      have HLK2 : Hid (∀ W (_ : NextR W bm (U ++ [(P.take k ++ [L[L.length - 1 - k]'hj], endZ)])), _) := fun W a => a.look (idx U (P.take k)) (L[L.length - 1 - k]'hj) (by omega) hlab
      clear hV3 hdr hPk hU hh htb hkp HI hat1 hatE hfrE hroot hhas0
      rw [htk] at HI2
      have HTK := Lib.hid htk
      clear htk
      generalize hlabE : L[L.length - 1 - k]'hj = lab at *
      generalize hjE : L.length - 1 - k = j at *
      generalize hiE : idx U (P.take k) = i at *
      clear hlabE hjE hiE hjn
      have hii : (i : Int) < (U.length : Int) := by omega
      go_upto_region 7 with fail
      have HVW : Hid (Var (wr.alloc (Obj.cells (edgeV i lab) 63)) wr.heap.size (edgeR i lab)) := Var.new _ _ _ rfl rfl
      have hba := (Below.refl wr.heap.size wr).alloc (Nat.le_refl _) (Obj.cells (edgeV i lab) 63)
      have HTBA := Lib.hid (HTBR.out.below hba)
      have HKA := Lib.hid (HKP.out.trans (Keeps.of_below hba))
      have hsa : wr.heap.size + 1 = (wr.alloc (Obj.cells (edgeV i lab) 63)).heap.size := by simp
      have ha0 : (wr.alloc (Obj.cells (edgeV i lab) 63)).cell? ⟨bt, 0, none⟩ = some (.map (some bm)) := HTBA.out.1.cell 0 (by simp)
      have ha1 : (wr.alloc (Obj.cells (edgeV i lab) 63)).cell? ⟨bt, 1, none⟩ = some (.slice (some ⟨g, 0, none⟩) U.length cap') := HTBA.out.1.cell 1 (by simp)
      clear hba hcell hct0 hct1 hv hib1
      generalize (wr.alloc (Obj.cells (edgeV i lab) 63)) = wa at *
      have hrw : hasRow wa ⟨wr.heap.size, 0, none⟩ 2 = true := HVW.out.hasRow rfl
      have hqw : rowAt wa ⟨wr.heap.size, 0, none⟩ 2 = edgeV i lab := HVW.out.rowAt rfl
      have hrwd : hasRow wa.drew ⟨wr.heap.size, 0, none⟩ 2 = true := hrw
      have hqwd : rowAt wa.drew ⟨wr.heap.size, 0, none⟩ 2 = edgeV i lab := hqw
      have hrwd2 : hasRow wa.drew.drew ⟨wr.heap.size, 0, none⟩ 2 = true := hrw
      have hqwd2 : rowAt wa.drew.drew ⟨wr.heap.size, 0, none⟩ 2 = edgeV i lab := hqw
      have hwib : isOld wr.heap.size wa = true := isOld_iff.2 (by omega)
      have hibt : isOld bt wa = true := isOld_iff.2 (by omega)
      obtain ⟨hlk1d, hlk2d⟩ := HLK.out wa.drew (HTBA.out.2.1.old rfl)
      obtain ⟨hlk1e, hlk2e⟩ := HLK.out wa.drew.drew (HTBA.out.2.1.old rfl)
      rcases hcase with hb | hb
      · obtain ⟨hgrow, hU2, hh2, hix2, hno, hcv2, hms⟩ := HNEW.out hb
        rw [hno] at hlk1d hlk1e
        rw [hgrow] at HI2
        have HU2 := Lib.hid hU2
        have HH2 := Lib.hid hh2
        have HIX := Lib.hid hix2
        have HMS := Lib.hid hms
        obtain ⟨W2, hmu, hgrw, hnx2⟩ := HPUT.out wa.drew.drew (HTBA.out.2.1.old rfl) hno
        have hK : Keeps (fun j => j = bm) wa W2 := ⟨hgrw.os, hgrw.tape, hgrw.output, hgrw.size, fun j hj hn => hgrw.block j hj (fun e => hn (by cases e; rfl))⟩
        have HK2 := Lib.hid hK
        have HNX2 := Lib.hid hnx2
        have hv2 := HTBA.out.1.keeps hK hne
        have HV2 := Lib.hid hv2
        have HO2 := Lib.hid (HTBA.out.2.2.1.keeps hK (fun q hq _ e => HTBA.out.2.2.2.2.2 (by rw [← e]; exact hq)))
        have b0 : W2.cell? ⟨bt, 0, none⟩ = some (.map (some bm)) := hv2.cell 0 (by simp)
        have b1' : W2.cell? ⟨bt, 1, none⟩ = some (.slice (some ⟨g, 0, none⟩) U.length cap') := hv2.cell 1 (by simp)
        have hsz2 := hK.size
        have HV2w := Lib.hid (HVW.out.keeps hK (by omega))
        have hibt2 : isOld bt W2 = true := isOld_iff.2 (by omega)
        clear hgrw hnx2 hv2 hgrow hU2 hh2 hix2 hno hms hK HNEW HOLD HPUT
        go_region
        go_upto_region 9 with fail
        go_region
        have HQg := Lib.hid hQg
        have hbtg : bt ≠ g := fun e => HTBA.out.2.2.2.2.1 (by rw [e]; exact HQg.out)
        have hbmg : bm ≠ g := fun e => HTBA.out.2.2.2.2.2 (by rw [e]; exact HQg.out)
        have HO3 : Hid (Own endCod (Also g wa.heap.size) W2 (.slice (some ⟨g, 0, none⟩) U.length cap') (U.map Prod.snd)) := ⟨HO2.out.1, fun q hq => .inl (by cases hq; rfl)⟩
        have HVK : Hid (∀ o w9, Keeps (Also g wa.heap.size) (W2.alloc o) w9 → Var w9 bt [.map (some bm), .slice (some ⟨g, 0, none⟩) U.length cap'] ∧ w9.cell? ⟨bt, 0, none⟩ = some (.map (some bm)) ∧ w9.cell? ⟨bt, 1, none⟩ = some (.slice (some ⟨g, 0, none⟩) U.length cap') ∧ w9.frozen? ⟨bt, 1, none⟩ = false) := fun o w9 h => by
          have hv9 := (HV2.out.alloc o).keeps h (by rintro (h | h) <;> omega)
          exact ⟨hv9, hv9.cell 0 (by simp), hv9.cell 1 (by simp), hv9.free 1⟩
        have HFORM : Hid (∀ v w, Own endCod (Also g wa.heap.size) w v (U.map Prod.snd ++ [endZ]) → ∃ g9 c9, v = .slice (some ⟨g9, 0, none⟩) (U.length + 1) c9) := fun v w h => by
          rcases h.form with ⟨_, h0⟩ | ⟨g9, c9, h1, _⟩
          · simp at h0
          · exact ⟨g9, c9, by rw [h1]; simp⟩
        go_upto_region 11 with (at_builtin; refine wpList_append_list rfl endCod (.tmp 51) (.tmp 53) 53 rfl rfl (Also g wa.heap.size) _ _ (U.map Prod.snd) rfl ?_ _ 0 _ _ [endZ] rfl rfl ?_ ?_ ?_ ?_ ?_; (exact HO3.out.alloc _); (exact listAt_new _ _ [_] _ rfl rfl); (simp [endCod]; omega); (simp [endCod]; omega); (exact .inr (by simp; omega)); intro v9 w9 ho9 hb9; obtain ⟨g9, c9, rfl⟩ := HFORM.out _ _ ho9; have HO9 := Lib.hid ho9; have HB9 := Lib.hid (((Keeps.refl _ W2).alloc _).trans hb9); obtain ⟨hv9, c90, c91, f91⟩ := HVK.out _ _ hb9; have HV9 := Lib.hid hv9; clear ho9 hb9 hv9)
        have hs9 := HB9.out.size
        have hk5 : Keeps (fun j => j = bt) w9 (w9.setCell ⟨bt, 1, none⟩ (.slice (some ⟨g9, 0, none⟩) (U.length + 1) c9)) := keeps_setCell (Q := fun j => j = bt) (Keeps.refl (fun j => j = bt) w9) (.inr rfl) _
        have HK5 := Lib.hid hk5
        have hs5 := hk5.size
        have HVW5 := Lib.hid ((HV2w.out.keeps HB9.out (by rintro (h | h) <;> omega)).keeps hk5 (by omega))
        have HNX5 := Lib.hid ((HNX2.out.old (HB9.out.block _ (by omega) (by rintro (h | h) <;> omega))).old (hk5.block _ (by omega) (by omega)))
        have hsub : ∀ j, Also g wa.heap.size j → Q1 j := fun j h => by
          rcases h with rfl | h
          · exact HQg.out
          · exact HQN.out j (by omega)
        have HSUB := Lib.hid hsub
        have HTB5 : Hid (TabR Q1 (w9.setCell ⟨bt, 1, none⟩ (.slice (some ⟨g9, 0, none⟩) (U.length + 1) c9)) bt bm (.slice (some ⟨g9, 0, none⟩) (U.length + 1) c9) (U ++ [(P.take k ++ [lab], endZ)])) :=
          ⟨HV9.out.setCell 1 _, HNX5.out, by rw [HMS.out]; exact (HO9.out.sub hsub).keeps hk5 (fun q hq _ e => HTBA.out.2.2.2.2.1 (by rw [← e]; exact hq)), hne, HTBA.out.2.2.2.2.1, HTBA.out.2.2.2.2.2⟩
        have HKP5 : Hid (Keeps (fun j => j = bt ∨ j = bm ∨ Q1 j) w1 (w9.setCell ⟨bt, 1, none⟩ (.slice (some ⟨g9, 0, none⟩) (U.length + 1) c9))) :=
          HKA.out.trans ((HK2.out.sub (fun j h => .inr (.inl h))).trans ((HB9.out.sub (fun j h => .inr (.inr (hsub j h)))).trans (hk5.sub (fun j h => .inl h))))
        clear hk5 hsub c90 c91 f91 b0 b1' ha0 ha1 hrw hqw hrwd hqwd hrwd2 hqwd2 hlk1d hlk1e hlk2d hlk2e hmu
        generalize (w9.setCell ⟨bt, 1, none⟩ (.slice (some ⟨g9, 0, none⟩) (U.length + 1) c9)) = w5 at *
        have d0 : w5.cell? ⟨bt, 0, none⟩ = some (.map (some bm)) := HTB5.out.1.cell 0 (by simp)
        have hrw : hasRow w5 ⟨wr.heap.size, 0, none⟩ 2 = true := HVW5.out.hasRow rfl
        have hqw : rowAt w5 ⟨wr.heap.size, 0, none⟩ 2 = edgeV i lab := HVW5.out.rowAt rfl
        have hrwd : hasRow w5.drew ⟨wr.heap.size, 0, none⟩ 2 = true := hrw
        have hqwd : rowAt w5.drew ⟨wr.heap.size, 0, none⟩ 2 = edgeV i lab := hqw
        obtain ⟨_, hlk2d⟩ := HLK2.out w5.drew (HNX5.out.old rfl)
        rw [hcv2] at hlk2d
        clear hcv2 hwib hibt hibt2
        have hwib : isOld wr.heap.size w5 = true := isOld_iff.2 (by omega)
        have hibt : isOld bt w5 = true := isOld_iff.2 (by omega)
        go_region
        go_wp2
        go_roundw
        case rel => exact ⟨k + 1, _, _, by omega, by rw [HTK.out, HIX.out], by rw [HNX.out], HU2.out, by rw [HTK.out]; exact HH2.out, by simp; omega, by show _ = _; rw [HTK.out]; exact HI2.out, HTB5.out, HKP5.out.drew⟩
        case measure => first | (simp [intOf]; done) | (simp [intOf]; omega)
      · obtain ⟨hgrow, hh2, hyes, hcv2⟩ := HOLD.out hb
        rw [hyes] at hlk1d hlk1e
        rw [hcv2] at hlk2e
        rw [hgrow] at HI2
        have HH2 := Lib.hid hh2
        clear hgrow hh2 hyes hcv2 HNEW HOLD HPUT HLK HLK2
        go_region
        go_upto_region 11 with fail
        go_region
        go_wp2
        go_roundw
        case rel => exact ⟨k + 1, U, _, by omega, by rw [HTK.out], by rw [HNX.out], HU.out, by rw [HTK.out]; exact HH2.out, by omega, by show _ = _; rw [HTK.out]; exact HI2.out, HTBA.out, HKA.out.drew.drew⟩
        case measure => first | (simp [intOf]; done) | (simp [intOf]; omega)
    · obtain rfl : k = P.length := by omega
      have hR : RES = U := by
        have := HI.out
        rw [List.take_length, List.drop_length] at this
        exact this.symm
      subst hR
      rw [List.take_length] at hil hh ⊢
      have hil2 : idx RES P < (RES.map Prod.snd).length := by rw [List.length_map]; exact hil
      have hmk : Own endCod Q1 wr.drew (.slice (some ⟨g, 0, none⟩) (RES.map Prod.snd).length cap') (RES.map Prod.snd) := by rw [List.length_map]; exact htb.2.2.1.drew
      have hcE : wr.cell? ⟨g, idx RES P * 4 + k0, none⟩ = some ((endR ((RES.map Prod.snd)[idx RES P]'hil2))[k0]'hk0) := by
        have h1 := endCod.encs_get (RES.map Prod.snd) (idx RES P) hil2 k0 hk0
        have h2 : (endCod.enc ((RES.map Prod.snd)[idx RES P]'hil2))[k0]? = some ((endR ((RES.map Prod.snd)[idx RES P]'hil2))[k0]'hk0) := List.getElem?_eq_getElem (show k0 < (endR _).length from hk0)
        rw [h2] at h1
        have := hatE _ _ h1
        rw [Nat.zero_add] at this
        exact this
      have hfE := hfrE (idx RES P * 4 + k0)
      have h30 : wr.cell? ⟨w.heap.size, 0, none⟩ = some (.int .i64 (k0 : Int)) := hV3.cell 0 (by simp [ruleR])
      have hib3 : isOld w.heap.size wr = true := isOld_iff.2 (by omega)
      have hibg : isOld g wr = true := isOld_iff.2 hg
      have hibt : isOld bt wr = true := isOld_iff.2 (by omega)
      have hii : ((idx RES P : Nat) : Int) < (RES.length : Int) := by omega
      have hki : (k0 : Int) < 4 := by omega
      generalize hiE : idx RES P = i at *
      generalize hvE : ((endR ((RES.map Prod.snd)[i]'hil2))[k0]'hk0) = vE at *
      clear hvE
      have HTE : Hid (Own endCod Q1 (wr.drew.setCell ⟨g, i * 4 + k0, none⟩ (.bool true)) (.slice (some ⟨g, 0, none⟩) RES.length cap') ((mark RES P (k0 : Int)).map Prod.snd)) := by
        have h1 := Own.mark hmk i hil2 k0 hk0 _ (endSet_R _ k0 hk0)
        have h2 := map_snd_mark RES P (k0 : Int) (by rw [hiE]; exact hil)
        show Own _ _ _ _ _
        rw [h2]
        simp only [hiE]
        rw [List.length_set, List.length_map] at h1
        exact h1
      have hbtg : bt ≠ g := fun e => HTBR.out.2.2.2.2.1 (by rw [e]; exact hQg)
      have hbmg : bm ≠ g := fun e => HTBR.out.2.2.2.2.2 (by rw [e]; exact hQg)
      have hkS : Keeps (fun j => j = g) wr (wr.drew.setCell ⟨g, i * 4 + k0, none⟩ (.bool true)) := keeps_setCell (Q := fun j => j = g) (Keeps.refl (fun j => j = g) wr).drew (.inr rfl) _
      have hPOST : POST (.returned (.tuple #[])) (wr.drew.setCell ⟨g, i * 4 + k0, none⟩ (.bool true)) := by
        rw [← HPOST.out]
        have hsub : ∀ j, Q1 j → Q j := fun j h => ((HQ1.out j).1 h).1
        have hk1 : Keeps (fun j => j = bt ∨ j = bm ∨ Q j) w (wr.drew.setCell ⟨g, i * 4 + k0, none⟩ (.bool true)) :=
          (Keeps.of_below HBW.out).trans ((HKP.out.sub (fun j h => by rcases h with h | h | h; exact .inl h; exact .inr (.inl h); exact .inr (.inr (hsub j h)))).trans (hkS.sub (fun j h => by rw [h]; exact .inr (.inr (hsub g hQg)))))
        exact ⟨rfl, _, ⟨HTBR.out.1.keeps hkS hbtg, (HTBR.out.2.1.old (hkS.block _ (by omega) hbmg)).mark _ _, HTE.out.sub hsub, hne, HTB.out.2.2.2.2.1, HTB.out.2.2.2.2.2⟩, hk1⟩
      have HPO := Lib.hid hPOST
      clear hPOST hkS hbtg hbmg
      go_upto_region 12 with fail
      go_region
      go_end0
      exact HPO.out
end

section
open Go Go.RowKit
set_option maxRecDepth 20000
set_option linter.unusedSimpArgs false
set_option linter.unusedVariables false

def TabQ (B bt bm : Nat) : Nat → Prop := fun j => B ≤ j ∧ j ≠ bt ∧ j ≠ bm
/-- What 'New' hands back. -/
def TabGives (R : List GRule) (w : World) : Ending → World → Prop := fun e w' => ∃ (T : Tree) (bt bm : Nat) (ends : Value), e = .returned (.pointer (some ⟨bt, 0, none⟩)) ∧ TreeOf T (goodG R) ∧ T.length ≤ 100000 ∧ TabR (TabQ w.heap.size bt bm) w' bt bm ends T ∧ Below w.heap.size w w'
theorem run_make_ends (w : World) : (Instr.makeSlice 53 (.int .i64 1) (.int .i64 1)).run Tryz.prog w = .ok (.slice (some ⟨w.heap.size, 0, none⟩) 1 1) (w.alloc (.cells (endV endZ) 60)) := by kernel_rfl
def tabV (bm be : Nat) : Array Value := #[.map (some bm), .slice (some ⟨be, 0, none⟩) 1 1]
theorem own_ends0 (Q : Nat → Prop) (w : World) (h : Q w.heap.size) : Own endCod Q (w.alloc (.cells (endV endZ) 60)) (.slice (some ⟨w.heap.size, 0, none⟩) 1 1) [endZ] :=
  ⟨⟨rfl, .inr ⟨w.heap.size, 1, endV endZ, rfl, Nat.zero_le _, heap_alloc_new w _, Nat.le_refl _, by decide, rfl, rfl⟩⟩, fun g hg => by cases hg; exact h⟩
theorem pathR_len (r : GRule) : (pathR r).2.length ≤ r.2.length + 1 := by
  unfold pathR
  rw [List.length_reverse]
  exact splitL_length_le 46 r.2
theorem putGo_len : ∀ (R : List Lab) (T : Tree) (pre : List Lab), (putGo T pre R).length ≤ T.length + R.length
  | [], T, pre => Nat.le_refl _
  | l :: R, T, pre => by
    have h1 := putGo_len R (grow T (pre ++ [l])) (pre ++ [l])
    have h2 := grow_len T (pre ++ [l])
    unfold putGo
    rw [List.length_cons]
    omega
theorem putT_len (T : Tree) (r : Rl) : (putT T r).length ≤ T.length + r.2.length := by
  unfold putT
  rw [mark_len]
  exact putGo_len _ _ _
set_option maxRecDepth 100000 in
set_option maxHeartbeats 8000000 in
theorem new_any (R : List GRule) (a : Option Addr) (ca la : Nat) (hR : R.length ≤ 200) (hn : ∀ r ∈ R, r.2.length ≤ 400 ∧ (Lit.int .i64 r.1).wf = true) (m : Int) (w : World) (hin : ListIn ruleCod w a R la) (hm : HasMax m w) (htz : HasTz w) (hd : HasDec w) :
    Calls Tryz.prog 10 #[.slice a R.length ca] w (TabGives R w) := by
  have hmm := @run_makeMap Tryz.prog
  have hms := run_make_ends
  have HIN := Lib.hid hin
  have HN := Lib.hid hn
  clear hin hn
  obtain ⟨POST, hpost⟩ : ∃ POST, TabGives R w = POST := ⟨_, rfl⟩
  rw [hpost]
  have HPOST := Lib.hid hpost
  clear hpost
  go_enter Tryz.func10, Tryz.ntmps10
  go_upto_region 2 with fail
  obtain ⟨w1, hw1⟩ : ∃ w1, ((w.alloc (Obj.map #[] 0)).alloc (Obj.cells (endV endZ) 60)).alloc (Obj.cells #[Value.map (some w.heap.size), Value.slice (some ⟨w.heap.size + 1, 0, none⟩) 1 1] 55) = w1 := ⟨_, rfl⟩
  have hB1 : Below w.heap.size w w1 := by
    rw [← hw1]
    exact (by repeat (first | exact Below.refl _ _ | assumption | refine below_grown ?_ (by first | omega | (simp [go_sem]; done) | (simp [go_sem] <;> omega)) _ | refine Below.alloc ?_ (by first | omega | (simp [go_sem]; done) | (simp [go_sem] <;> omega)) _ | refine below_bytesW ?_ (by first | omega | (simp [go_sem]; done) | (simp [go_sem] <;> omega)) _ | refine Below.drew ?_ | refine below_drewN ?_ _))
  have hsz1 : w1.heap.size = w.heap.size + 1 + 1 + 1 := by rw [← hw1]; simp
  have hTab : TabR (TabQ w.heap.size (w.heap.size + 1 + 1) w.heap.size) w1 (w.heap.size + 1 + 1) w.heap.size (.slice (some ⟨w.heap.size + 1, 0, none⟩) 1 1) [([], endZ)] := by
    have hb2 : Below (w.heap.size + 1) (w.alloc (Obj.map #[] 0)) w1 := by
      rw [← hw1]
      exact ((Below.refl _ _).alloc (by simp) _).alloc (by simp) _
    have h1 := NextR.made w endZ w.heap.size rfl
    refine ⟨?_, h1.old (hb2.block _ (by omega)), ?_, by omega, fun h => h.2.1 rfl, fun h => h.2.2 rfl⟩
    · rw [← hw1]
      exact Var.new _ _ _ rfl (by simp)
    · have h2 := own_ends0 (TabQ w.heap.size (w.heap.size + 1 + 1) w.heap.size) (w.alloc (Obj.map #[] 0)) ⟨by simp, by simp, by simp⟩
      have e : (w.alloc (Obj.map #[] 0)).heap.size = w.heap.size + 1 := by simp
      rw [e] at h2
      rw [← hw1]
      exact h2.alloc _
  have HB1 := Lib.hid hB1
  have HTab := Lib.hid hTab
  rw [hw1]
  clear hw1 hB1 hTab hms hmm
  go_upto_region 3 with fail
  go_loopw [15] (fun i wr => ∃ (k : Nat) (T : Tree) (ends : Value), k ≤ R.length ∧ i = .int .i64 k ∧ TreeOf T (goodG (R.take k)) ∧ T.length ≤ 1 + k * 401 ∧ TabR (TabQ w.heap.size (w.heap.size + 1 + 1) w.heap.size) wr (w.heap.size + 1 + 1) w.heap.size ends T ∧ Below w.heap.size w wr) (fun i _ => R.length - (intOf i).toNat)
  case atStart => exact ⟨0, _, _, Nat.zero_le _, rfl, TreeOf.start, by simp, HTab.out, HB1.out⟩
  case round =>
    obtain ⟨k, T, ends, hk, rfl, hT, hTl, htb, hbr⟩ := hrel
    have hrs := hbr.size
    have HT := Lib.hid hT
    have HTB := Lib.hid htb
    have HBR := Lib.hid hbr
    have hbt := htb.1.lt
    clear hT htb
    by_cases hlt : k < R.length
    · obtain ⟨b, o, rfl, hlo, hhi, hat⟩ := HIN.out.resolve_left (fun h => by subst h; exact absurd hlt (Nat.not_lt_zero _))
      obtain ⟨r1, q1⟩ := ruleRow (hat.below HBR.out) k hlt
      have hlen := HN.out _ (List.getElem_mem hlt)
      have HG := Lib.hid (goodG_take R k hlt)
      have HX : Hid (ruleRB (R[k]'hlt) = (decide ((ruleOut (ruleTextL (R[k]'hlt).1 (R[k]'hlt).2)).2.2 = 0) && ((ruleOut (ruleTextL (R[k]'hlt).1 (R[k]'hlt).2)).2.1 && ruleEq (ruleOut (ruleTextL (R[k]'hlt).1 (R[k]'hlt).2)).1.1 (ruleOut (ruleTextL (R[k]'hlt).1 (R[k]'hlt).2)).1.2 (R[k]'hlt).1 (R[k]'hlt).2))) := rfl
      have HF := Lib.hid (fun h => ruleRB_facts (r := R[k]'hlt) h)
      generalize R[k]'hlt = r at *
      obtain ⟨rk, rn⟩ := r
      obtain ⟨hlen, hrwf⟩ := hlen
      dsimp only at hlen hrwf q1 HX HF HG
      have HRT := Lib.hid (fun w => ruleText_any rk rn (by omega) w)
      have htl : (ruleTextL rk rn).length ≤ 402 := by
        have h1 : (markL rk).length ≤ 2 := by
          unfold markL
          split
          · decide
          · split <;> decide
        unfold ruleTextL
        rw [List.length_append]
        omega
      have HRL := Lib.hid (fun w a b c => ruleLine_any (ruleTextL rk rn) (by omega) m w a b c)
      have hbd := ruleOut_bd' (ruleTextL rk rn)
      generalize ruleTextL rk rn = tx at *
      obtain ⟨⟨⟨kk, nn⟩, says, er⟩, ho⟩ : ∃ x, ruleOut tx = x := ⟨_, rfl⟩
      rw [ho] at HRL hbd HX
      dsimp only at HRL hbd HX
      clear ho
      have hmr := hm.below HBR.out
      have htr := htz.below HBR.out
      have hdr := hd.below HBR.out
      have hio : isOld b wr = true := isOld_iff.2 (by omega)
      have hki : (k : Int) < (R.length : Int) := by omega
      have hwk : IntKind.i64.wrap ((k : Int) + 1) = (k : Int) + 1 := IntWalk.i64_in _ (by omega)
      have hml2 : rn.length ≤ maxLen := by unfold maxLen; omega
      have hnn : nn.length ≤ maxLen := by have := hbd.2; unfold maxLen; omega
      have hkk := wf_kind' hbd.1
      clear hat hlen htl
      go_upto_region 5 with fail
      have HV5 : Hid (Var (wr.alloc (Obj.cells (ruleV rk rn) 50)) wr.heap.size (ruleR rk rn)) := Var.new _ _ _ rfl rfl
      have HA : Hid (Below wr.heap.size wr (wr.alloc (Obj.cells (ruleV rk rn) 50))) := (Below.refl _ _).alloc (Nat.le_refl _) _
      have hsa : wr.heap.size + 1 = (wr.alloc (Obj.cells (ruleV rk rn) 50)).heap.size := by simp
      have hma := hmr.below HA.out
      have hta := htr.below HA.out
      have hda := hdr.below HA.out
      generalize (wr.alloc (Obj.cells (ruleV rk rn) 50)) = wa at *
      have hr5 : hasRow wa ⟨wr.heap.size, 0, none⟩ 2 = true := HV5.out.hasRow rfl
      have hq5 : rowAt wa ⟨wr.heap.size, 0, none⟩ 2 = ruleV rk rn := HV5.out.rowAt rfl
      have hi5 : isOld wr.heap.size wa = true := isOld_iff.2 (by omega)
      clear hmr htr hdr
      go_upto_region 6 with (first
        | (go_at_call 24; (with_reducible refine (HRT.out _).mono ?_); intro e w2 he; obtain ⟨rfl, hb2⟩ := he; have HB2 := Lib.hid hb2; have hm2 := hma.below hb2; have ht2 := hta.below hb2; have hd2 := hda.below hb2; clear hb2)
        | (go_at_call 23; (with_reducible refine (HRL.out _ hm2 ht2 hd2).mono ?_); intro e w3 he; obtain ⟨rfl, hb3⟩ := he; have HB3 := Lib.hid hb3; clear hb3))
      have HV6 : Hid (Var (w3.alloc (Obj.cells (ruleV kk nn) 50)) w3.heap.size (ruleR kk nn)) := Var.new _ _ _ rfl rfl
      have HA6 : Hid (Below wa.heap.size wa (w3.alloc (Obj.cells (ruleV kk nn) 50))) := ((HB2.out.trans (HB3.out.mono HB2.out.size))).alloc (Nat.le_trans HB2.out.size HB3.out.size) _
      have HV56 := Lib.hid (HV5.out.below HA6.out)
      have hs6 : w3.heap.size + 1 = (w3.alloc (Obj.cells (ruleV kk nn) 50)).heap.size := by simp
      have hs2 := HB2.out.size
      have hs3 := HB3.out.size
      have HBW : Hid (Below wr.heap.size wr (w3.alloc (Obj.cells (ruleV kk nn) 50))) := HA.out.trans (HA6.out.mono (by omega))
      clear hr5 hq5 hi5
      generalize (w3.alloc (Obj.cells (ruleV kk nn) 50)) = w6 at *
      have hr5 : hasRow w6 ⟨wr.heap.size, 0, none⟩ 2 = true := HV56.out.hasRow rfl
      have hq5 : rowAt w6 ⟨wr.heap.size, 0, none⟩ 2 = ruleV rk rn := HV56.out.rowAt rfl
      have hr6 : hasRow w6 ⟨w3.heap.size, 0, none⟩ 2 = true := HV6.out.hasRow rfl
      have hq6 : rowAt w6 ⟨w3.heap.size, 0, none⟩ 2 = ruleV kk nn := HV6.out.rowAt rfl
      have hi5 : isOld wr.heap.size w6 = true := isOld_iff.2 (by omega)
      have hi6 : isOld w3.heap.size w6 = true := isOld_iff.2 (by omega)
      have HTB6 := Lib.hid (HTB.out.below HBW.out)
      have HBR6 := Lib.hid (HBR.out.trans (HBW.out.mono hrs))
      have hno : ruleRB (rk, rn) = false → goodG (R.take (k + 1)) = goodG (R.take k) := fun h => by rw [HG.out, h]; rfl
      have hyes : ruleRB (rk, rn) = true → goodG (R.take (k + 1)) = goodG (R.take k) ++ [pathR (rk, rn)] := fun h => by rw [HG.out, h]; rfl
      have HNO := Lib.hid hno
      have HYES := Lib.hid hyes
      have hs66 := HBW.out.size
      clear hno hyes hs2 hs3
      by_cases he : er = 0
      · subst he
        cases says
        · have hx : ruleRB (rk, rn) = false := by rw [HX.out]; rfl
          have HGN := Lib.hid (HNO.out hx)
          clear hx
          go_wp2
          go_roundw
          case rel => exact ⟨k + 1, T, ends, by omega, by go_num, by rw [HGN.out]; exact HT.out, by omega, HTB6.out, HBR6.out⟩
          case measure => simp [intOf]; omega
        · cases hre : ruleEq kk nn rk rn
          · have hx : ruleRB (rk, rn) = false := by rw [HX.out, hre]; rfl
            have HGN := Lib.hid (HNO.out hx)
            clear hx
            go_wp2
            go_roundw
            case rel => exact ⟨k + 1, T, ends, by omega, by go_num, by rw [HGN.out]; exact HT.out, by omega, HTB6.out, HBR6.out⟩
            case measure => simp [intOf]; omega
          · have hx : ruleRB (rk, rn) = true := by rw [HX.out, hre]; rfl
            have HGN := Lib.hid (HYES.out hx)
            obtain ⟨k0, hk0, rfl⟩ : ∃ k0 : Nat, k0 < 4 ∧ rk = (k0 : Int) := ⟨rk.toNat, by rcases (HF.out hx).1 with h | h | h <;> rw [h] <;> decide, by rcases (HF.out hx).1 with h | h | h <;> rw [h] <;> rfl⟩
            have hkd : (pathR ((k0 : Int), rn)).1 = 0 ∨ (pathR ((k0 : Int), rn)).1 = 1 ∨ (pathR ((k0 : Int), rn)).1 = 2 ∨ (pathR ((k0 : Int), rn)).1 = 3 := .inr (HF.out hx).1
            have HT2 := Lib.hid (putT_of HT.out (pathR ((k0 : Int), rn)) hkd)
            have hl2 := putT_len T (pathR ((k0 : Int), rn))
            have hl3 := pathR_len ((k0 : Int), rn)
            have hm6 := hm.below HBR6.out
            have HPUT := Lib.hid (put_any (TabQ w.heap.size (w.heap.size + 1 + 1) w.heap.size) T _ HT.out k0 hk0 rn (by have h9 : rn.length ≤ 253 := (HF.out hx).2.1; omega) (by omega) (w.heap.size + 1 + 1) w.heap.size ends m w6 (fun j hj => ⟨by omega, by omega, by omega⟩) HTB6.out hm6)
            have hrl : rn.length ≤ 253 := (HF.out hx).2.1
            dsimp only at hl3
            clear hx hkd hm6
            go_upto_region 8 with (go_at_call 25; (with_reducible refine HPUT.out.mono ?_); intro e w7 he; obtain ⟨rfl, ends7, htb7, hk7⟩ := he; have HTB7 := Lib.hid htb7; have HK7 := Lib.hid hk7; clear htb7 hk7)
            have HBR7 : Hid (Below w.heap.size w w7) := HBR6.out.trans (HK7.out.below (fun j hj => ⟨by omega, fun h => by rcases h with h | h | h; omega; omega; exact absurd h.1 (by omega)⟩))
            go_wp2
            go_roundw
            case rel => exact ⟨k + 1, _, ends7, by omega, by go_num, by rw [HGN.out]; exact HT2.out, by omega, HTB7.out, HBR7.out⟩
            case measure => simp [intOf]; omega
      · have hx : ruleRB (rk, rn) = false := by rw [HX.out, decide_eq_false he]; rfl
        have HGN := Lib.hid (HNO.out hx)
        have he2 : (er == 0) = false := by rw [beq_eq_false_iff_ne]; exact he
        clear hx
        go_wp2
        go_roundw
        case rel => exact ⟨k + 1, T, ends, by omega, by go_num, by rw [HGN.out]; exact HT.out, by omega, HTB6.out, HBR6.out⟩
        case measure => simp [intOf]; omega
    · obtain rfl : k = R.length := by omega
      rw [List.take_length] at HT
      have hp : POST (.returned (.pointer (some ⟨w.heap.size + 1 + 1, 0, none⟩))) wr := by
        rw [← HPOST.out]
        exact ⟨T, w.heap.size + 1 + 1, w.heap.size, ends, rfl, HT.out, by omega, HTB.out, HBR.out⟩
      have HP := Lib.hid hp
      clear hp
      go_wp2
      exact HP.out
end
end Go.Proofs.YtmfjabpmhkechaaGreatDoor
