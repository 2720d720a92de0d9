/- The walks of the document's V6, part and Text6. -/
import Derived.Test.YthklfbakffaioaaDoorAddrEightn
namespace Go.Proofs.YthklfbakffaioaaDoor
open Go Go.RowKit
set_option maxRecDepth 20000
set_option linter.unusedSimpArgs false
set_option linter.unusedVariables false

theorem eight_again {t : List UInt8} {ok : Bool} (ht : t.length ≤ 4294967280) (h : eightOk t = ok) (w : World) :
    Calls Tryd.prog 65 #[.string ⟨t.toArray⟩] w fun e w' => e = .returned (.tuple #[.agg (addrC (eightA t)), .bool ok]) ∧ Below w.heap.size w w' := h ▸ eight_any t ht w
theorem eight_isSome {s : List UInt8} (h : eightOk s = true) : ∃ g, eightL s = some g := Option.isSome_iff_exists.1 h
theorem eight_isNone {s : List UInt8} (h : eightOk s = false) : eightL s = none := by
  unfold eightOk at h
  cases he : eightL s with
  | none => rfl
  | some g => rw [he] at h; cases h
theorem zerosT_length : ∀ k, (zerosT k).length = 2 * k + 1
  | 0 => rfl
  | k + 1 => by rw [zerosT, List.length_append, zerosT_length k]; simp; omega
set_option maxHeartbeats 2000000 in
theorem refV6_any (l : List UInt8) (hl : l.length ≤ 2000000000) (w : World) :
    Calls Tryd.prog 45 #[.string ⟨l.toArray⟩] w fun e w' => e = .returned (.tuple #[.agg (addrC (v6A l)), .bool (v6Ok l)]) ∧ Below w.heap.size w w' := by
  cases h8 : eightOk l
  · have HC := Lib.hid (fun w => eight_again (t := l) (by omega) h8 w)
    have hN0 : NoTry l 0 := ⟨eight_isNone h8, fun j hj => by cases hj⟩
    have HDONE : Hid (∀ k, NoTry l k → l.length < k + 2 → v6Ok l = false ∧ v6A l = zeroA) := fun k h hk => v6_no (h.done hk)
    have HTRY : Hid (∀ k j, ccAt l k → eightOk (frontT (l.take k) ++ zerosT j ++ backT (l.drop (k + 2))) = true → v6Ok l = true ∧ v6A l = eightA (frontT (l.take k) ++ zerosT j ++ backT (l.drop (k + 2)))) := fun k j hc h => by
      obtain ⟨g, hg⟩ := eight_isSome h
      exact eight_v6A h ((try_some hc hg).trans hg.symm)
    generalize eightA l = A0 at *
    generalize v6A l = A at *
    generalize v6Ok l = ok at *
    go_enter Tryd.func45, Tryd.ntmps45
    go_wp2_with (go_at_call 65; refine (HC.out _).mono ?_; rintro e w1 ⟨rfl, hb1⟩; obtain ⟨p1, rfl⟩ := grown_of hb1; clear hb1)
    go_loopw [6, 7, 8, 9, 10, 11, 12] (fun i _ _ _ _ _ _ wr => ∃ (k : Nat), k ≤ l.length ∧ i = .int .i64 k ∧ Below w.heap.size w wr ∧ w.heap.size < wr.heap.size ∧ Var wr w.heap.size (u8Cod.encs (List.replicate 16 0)) ∧ Hid (NoTry l k)) (fun i _ _ _ _ _ _ _ => l.length - (intOf i).toNat)
    case atStart => exact ⟨0, Nat.zero_le _, rfl, (by repeat (first | exact Below.refl _ _ | assumption | refine below_grown ?_ (by first | omega | (simp [go_sem]; done) | (simp [go_sem] <;> omega)) _ | refine Below.alloc ?_ (by first | omega | (simp [go_sem]; done) | (simp [go_sem] <;> omega)) _ | refine below_bytesW ?_ (by first | omega | (simp [go_sem]; done) | (simp [go_sem] <;> omega)) _ | refine Below.drew ?_ | refine below_drewN ?_ _)), by simp [go_sem], ((Var.new w _ _ rfl rfl : Var (w.alloc _) w.heap.size (u8Cod.encs (List.replicate 16 0))).grown _).alloc _, hN0⟩
    case round =>
      obtain ⟨k, hk, rfl, hb, hsz, hr, hinv⟩ := hrel
      have HB := Lib.hid hb
      have HR := Lib.hid hr
      clear hb hr
      have hv : hasVar wr w.heap.size 16 = true := HR.out.has rfl
      by_cases hlt : k + 2 ≤ l.length
      · have hlt' : (k : Int) + 2 ≤ l.length := by omega
        have hcc := cc_at (s := l) (i := k) hlt
        obtain ⟨c, hc⟩ : ∃ c, ∀ h, l[k]'h = c := ⟨l[k]'(by omega), fun _ => rfl⟩
        obtain ⟨d, hd⟩ : ∃ d, ∀ h, l[k + 1]'h = d := ⟨l[k + 1]'(by omega), fun _ => rfl⟩
        rw [hc, hd] at hcc
        by_cases h1 : c = 58
        · by_cases h2 : d = 58
          · have HCC := Lib.hid (hcc.2 ⟨h1, h2⟩)
            have h1' : ((c.toNat : Int) != 58) = false := by subst h1; rfl
            have h2' : ((d.toNat : Int) != 58) = false := by subst h2; rfl
            clear hcc h1 h2
            have HFX : ((l.take k).isEmpty = true ∧ frontT (l.take k) = l.take k) ∨ ((l.take k).isEmpty = false ∧ frontT (l.take k) = l.take k ++ [58]) := by unfold frontT; cases l.take k <;> simp
            have HBY : ((l.drop (k + 2)).isEmpty = true ∧ backT (l.drop (k + 2)) = l.drop (k + 2)) ∨ ((l.drop (k + 2)).isEmpty = false ∧ backT (l.drop (k + 2)) = 58 :: l.drop (k + 2)) := by unfold backT; cases l.drop (k + 2) <;> simp
            have HT0 := Lib.hid (fun j => HTRY.out k j HCC.out)
            have HNX0 : Hid ((∀ j, j < 8 → eightOk (frontT (l.take k) ++ zerosT j ++ backT (l.drop (k + 2))) = false) → NoTry l (k + 1)) := fun h => hinv.out.next (try_none fun j hj => eight_isNone (h j hj))
            have hFl : (frontT (l.take k)).length ≤ l.length + 1 := by rcases HFX with ⟨_, e⟩ | ⟨_, e⟩ <;> rw [e] <;> simp <;> omega
            have hBl : (backT (l.drop (k + 2))).length ≤ l.length + 1 := by rcases HBY with ⟨_, e⟩ | ⟨_, e⟩ <;> rw [e] <;> simp <;> omega
            obtain ⟨F, hF0⟩ : ∃ F, F = frontT (l.take k) := ⟨_, rfl⟩
            obtain ⟨B, hB0⟩ : ∃ B, B = backT (l.drop (k + 2)) := ⟨_, rfl⟩
            have HT : Hid (∀ j, eightOk (F ++ zerosT j ++ B) = true → ok = true ∧ A = eightA (F ++ zerosT j ++ B)) := by rw [hF0, hB0]; exact HT0.out
            have HNX : Hid ((∀ j, j < 8 → eightOk (F ++ zerosT j ++ B) = false) → NoTry l (k + 1)) := by rw [hF0, hB0]; exact HNX0.out
            rw [← hF0] at hFl HFX
            rw [← hB0] at hBl HBY
            clear hF0 hB0
            rcases HFX with ⟨hx, hF⟩ | ⟨hx, hF⟩
            all_goals
              rcases HBY with ⟨hy, hB⟩ | ⟨hy, hB⟩
            all_goals
              go_wp2
              rw [← hF, ← hB]
              clear hF hB hx hy
              clear HNX0 HT0
              go_loopw [9, 10, 11, 12] (fun z i _ _ wr => ∃ (j : Nat), j ≤ 8 ∧ z = .string ⟨(zerosT j).toArray⟩ ∧ i = .int .i64 j ∧ Below w.heap.size w wr ∧ w.heap.size < wr.heap.size ∧ Var wr w.heap.size (u8Cod.encs (List.replicate 16 0)) ∧ Hid (∀ i, i < j → eightOk (F ++ zerosT i ++ B) = false)) (fun _ i _ _ _ => 8 - (intOf i).toNat)
              case atStart => exact ⟨0, Nat.zero_le _, rfl, rfl, HB.out, hsz, HR.out, fun i hi => by cases hi⟩
              case round =>
                obtain ⟨j, hj, rfl, rfl, hb, hsz', hr, hno⟩ := hrel
                have HB' := Lib.hid hb
                have HR' := Lib.hid hr
                clear hb hr
                have hv' : ∀ p o, hasVar ((grown wr p).alloc o) w.heap.size 16 = true := fun p o => ((HR'.out.grown p).alloc o).has rfl
                by_cases hj8 : j < 8
                · have hj8' : (j : Int) < 8 := by omega
                  have hzl := zerosT_length j
                  have HTJ := Lib.hid (HT.out j)
                  have HZ : Hid (zerosT (j + 1) = zerosT j ++ [58, 48]) := rfl
                  have hNJ := hno.out
                  cases he : eightOk (F ++ zerosT j ++ B)
                  · have HN : Hid (∀ i, i < j + 1 → eightOk (F ++ zerosT i ++ B) = false) := fun i hi => by
                      by_cases e : i = j
                      · subst e; exact he
                      · exact hNJ i (by omega)
                    clear hNJ hno
                    generalize hZj : zerosT j = Z at *
                    have HE := Lib.hid (fun w => eight_again (t := F ++ Z ++ B) (by simp; omega) he w)
                    clear he
                    rw [List.append_assoc] at HE
                    generalize eightA (F ++ (Z ++ B)) = A1 at *
                    have hn1 : ¬ 9223372036854775807 < F.length + Z.length := by omega
                    have hn2 : ¬ 9223372036854775807 < F.length + Z.length + B.length := by omega
                    have hn3 : ¬ 9223372036854775807 < F.length + (Z.length + B.length) := by omega
                    have hn4 : ¬ 9223372036854775807 < Z.length + 2 := by omega
                    go_wp2_with (go_at_call 65; refine (HE.out _).mono ?_; rintro e w1 ⟨rfl, hb1⟩; obtain ⟨p1, rfl⟩ := grown_of hb1; clear hb1)
                    go_roundw
                    case rel => exact ⟨j + 1, by omega, by rw [HZ.out], by go_num, ((below_grown HB'.out HB'.out.size _).alloc (by first | omega | (simp; done) | (simp; omega) | (simp [go_sem]; done) | (simp [go_sem]; omega)) _), by simp [go_sem]; omega, (HR'.out.grown _).alloc _, HN.out⟩
                    case measure => simp [intOf]; omega
                  · obtain ⟨rfl, hA⟩ := HTJ.out he
                    have HE := Lib.hid (fun w => eight_again (t := F ++ zerosT j ++ B) (by simp; omega) he w)
                    rw [← hA, List.append_assoc] at HE
                    clear he hNJ hno HZ hA HTJ
                    generalize hZj : zerosT j = Z at *
                    have hn1 : ¬ 9223372036854775807 < F.length + Z.length := by omega
                    have hn2 : ¬ 9223372036854775807 < F.length + Z.length + B.length := by omega
                    have hn3 : ¬ 9223372036854775807 < F.length + (Z.length + B.length) := by omega
                    go_wp2_with (go_at_call 65; refine (HE.out _).mono ?_; rintro e w1 ⟨rfl, hb1⟩; obtain ⟨p1, rfl⟩ := grown_of hb1; clear hb1)
                    exact ret_cell_tmp w.heap.size (addrC A) (.bool true) rfl rfl rfl agg_addr (by simp [go_sem, hv']) (by simp [go_sem, hv']) rfl ⟨by simp, below_setRow ((below_grown HB'.out HB'.out.size _).alloc (by first | omega | (simp; done) | (simp; omega) | (simp [go_sem]; done) | (simp [go_sem]; omega)) _) (Nat.le_refl _) _⟩
                · obtain rfl : j = 8 := by omega
                  have HNN := Lib.hid (HNX.out hno.out)
                  go_wp2
                  go_roundw
                  case rel => exact ⟨k + 1, by omega, by go_num, HB'.out, hsz', HR'.out, HNN.out⟩
                  case measure => simp [intOf]; omega
          · have HS := Lib.hid (hinv.out.skip fun h => h2 (hcc.1 h).2)
            have h1' : ((c.toNat : Int) != 58) = false := by subst h1; rfl
            have h2' : ((d.toNat : Int) != 58) = true := by rw [u8_lit_ne d 58 58 rfl]; simpa using h2
            clear hcc h1 h2
            go_wp2
            go_roundw
            case rel => exact ⟨k + 1, by omega, by go_num, HB.out, hsz, HR.out, HS.out⟩
            case measure => simp [intOf]; omega
        · have HS := Lib.hid (hinv.out.skip fun h => h1 (hcc.1 h).1)
          have h1' : ((c.toNat : Int) != 58) = true := by rw [u8_lit_ne c 58 58 rfl]; simpa using h1
          clear hcc h1
          go_wp2
          go_roundw
          case rel => exact ⟨k + 1, by omega, by go_num, HB.out, hsz, HR.out, HS.out⟩
          case measure => simp [intOf]; omega
      · have hlt' : ¬ (k : Int) + 2 ≤ l.length := by omega
        obtain ⟨rfl, rfl⟩ := HDONE.out _ hinv.out (by omega)
        go_wp2
        exact ret_cell_tmp w.heap.size (addrC zeroA) (.bool false) rfl rfl rfl agg_addr (by simp [go_sem, hv]) (by simp [go_sem, hv]) rfl ⟨rfl, below_setRow HB.out (Nat.le_refl _) _⟩
  · obtain ⟨e1, e2⟩ := eight_v6A (t := l) h8 (by obtain ⟨g, hg⟩ := eight_isSome h8; rw [eight_v6 hg, hg])
    have HC := Lib.hid (fun w => eight_again (t := l) (by omega) h8 w)
    rw [e1, e2]
    generalize eightA l = A at *
    go_enter Tryd.func45, Tryd.ntmps45
    go_wp2_with (go_at_call 65; refine (HC.out _).mono ?_; rintro e w1 ⟨rfl, hb1⟩; obtain ⟨p1, rfl⟩ := grown_of hb1; clear hb1)
    exact ret_cell_tmp w.heap.size (addrC A) (.bool true) rfl rfl rfl agg_addr (by simp [go_sem]) (by simp [go_sem]) rfl ⟨by simp, below_setRow (by repeat (first | exact Below.refl _ _ | assumption | refine below_grown ?_ (by first | omega | (simp [go_sem]; done) | (simp [go_sem] <;> omega)) _ | refine Below.alloc ?_ (by first | omega | (simp [go_sem]; done) | (simp [go_sem] <;> omega)) _ | refine below_bytesW ?_ (by first | omega | (simp [go_sem]; done) | (simp [go_sem] <;> omega)) _ | refine Below.drew ?_ | refine below_drewN ?_ _)) (Nat.le_refl _) _⟩
end Go.Proofs.YthklfbakffaioaaDoor
