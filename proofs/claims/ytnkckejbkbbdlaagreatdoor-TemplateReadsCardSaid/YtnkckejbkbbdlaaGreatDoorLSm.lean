/- Merged: TplSm. -/
import Derived.Test.YtnkckejbkbbdlaaGreatDoorTmL
import Derived.BigQuiet
namespace Go.Proofs.YtnkckejbkbbdlaaGreatDoor
section
open Go Go.RowKit
set_option maxRecDepth 20000
set_option linter.unusedSimpArgs false
set_option linter.unusedVariables false

def tpK (t : GTpl) : List Lit := [.string t.name] ++ (urlK t.url.1 t.url.2.1 t.url.2.2.1 t.url.2.2.2 ++ ([.string t.text] ++ ([.int .i64 t.line] ++ [])))
theorem urlK_len (se : Bool) (h : GHost) (po : Int) (pa : List UInt8) : (urlK se h po pa).length = 21 := by simp [urlK, hostK_len]
theorem tpK_inj {t t' : GTpl} (e : tpK t = tpK t') : t = t' := by
  obtain ⟨n, ⟨se, h, po, pa⟩, tx, ln⟩ := t
  obtain ⟨n', ⟨se', h', po', pa'⟩, tx', ln'⟩ := t'
  simp only [tpK, List.singleton_append, List.cons.injEq, Lit.string.injEq, List.append_nil] at e
  obtain ⟨e1, e2⟩ := e
  obtain ⟨e2, e3⟩ := List.append_inj e2 (by rw [urlK_len, urlK_len])
  obtain ⟨u1, u2, u3, u4⟩ := urlK_inj e2
  simp only [List.cons.injEq, Lit.int.injEq, Lit.string.injEq, true_and, and_true] at e3
  obtain ⟨e4, e5⟩ := e3
  subst e1 u1 u2 u3 u4 e4 e5
  rfl
/-- What may be compared. -/
def tpFit (t : GTpl) : Prop := t.name.length ≤ maxLen ∧ t.text.length ≤ maxLen ∧ t.url.2.2.2.length ≤ maxLen ∧ (Lit.int .i64 t.url.2.2.1).wf = true ∧ (Lit.int .i64 t.line).wf = true
theorem keyLits_tp (D : Nat) (t : GTpl) (h : tpFit t) : Tryz.prog.keyLits (D + 5) 41 (tpR t) = some (tpK t) := by
  obtain ⟨h1, h2, h3, h4, h5⟩ := h
  have hd : ∀ k, 21 ≤ k → (urlR t.url.1 t.url.2.1 t.url.2.2.1 t.url.2.2.2).drop k = [] := fun k hk => List.drop_of_length_le (by rw [urlR_length]; exact hk)
  have e0 : (tpR t).take 1 = [.string ⟨t.name.toArray⟩] := by simp [tpR]
  have e1 : ((tpR t).tail).take 21 = urlR t.url.1 t.url.2.1 t.url.2.2.1 t.url.2.2.2 := by simp [tpR, urlR_length]
  have e2 : ((tpR t).drop 22).take 1 = [.string ⟨t.text.toArray⟩] := by simp [tpR, urlR_length, List.drop_append, hd]
  have e3 : ((tpR t).drop 23).take 1 = [.int .i64 t.line] := by simp [tpR, urlR_length, List.drop_append, hd]
  unfold Program.keyLits
  rw [Tryz.underlying41]
  simp [cellsOf_tp, tpR_length, cellsOf_str, cellsOf_int, cellsOf_url, e0, e1, e2, e3, keyLits_url, keyLits_str, keyLits_i64, h1, h2, h3, h4, h5, tpK]
open Classical in
theorem tp_rows (t t' : GTpl) (h : tpFit t) (h' : tpFit t') (x y : Operand) (w : World) :
    eqRow Tryz.prog w 41 x y (.agg (tpV t)) (.agg (tpV t')) = .ok (.value (.bool (decide (t = t')))) w ∧
    neRow Tryz.prog w 41 x y (.agg (tpV t)) (.agg (tpV t')) = .ok (.value (.bool (!decide (t = t')))) w :=
  eq_rows (m := 10) (by kernel_rfl) (by decide) (by kernel_rfl) (keyLits_tp 0 t h) (keyLits_tp 0 t' h') (by simp [Value.formed, Tryz.underlying41, cellsOf_tp, tpR_length]) (by simp [Value.formed, Tryz.underlying41, cellsOf_tp, tpR_length])
    (by rw [decide_eq_true_eq]; exact ⟨fun e => by rw [e], tpK_inj⟩) x y w
theorem neRow_tp (t : GTpl) (h : tpFit t) (x y : Operand) (w : World) : neRow Tryz.prog w 41 x y (.agg (tpV t)) (.agg (tpV t)) = .ok (.value (.bool false)) w := by
  rw [(tp_rows t t h h x y w).2]
  simp
set_option maxRecDepth 100000 in
set_option maxHeartbeats 4000000 in
theorem refTplSame_any (A : List GTpl) (C : List GCh) (R1 R2 : List RCh) (a1 a2 c1 c2 : Option Addr) (k1 k2 k3 k4 : Nat) (hA : A.length ≤ 8) (hC : C.length ≤ 6) (hf : ∀ t ∈ A, tpFit t) (hv : ∀ c ∈ C, c.name.length ≤ maxLen ∧ c.vals.length ≤ 1000) (w : World)
    (h1 : ListIn tpCod w a1 A 0) (h2 : ListIn tpCod w a2 A 0) (h3 : ListIn chCod w c1 R1 0) (h4 : ListIn chCod w c2 R2 0) (h5 : ChsOk w 0 R1 C) (h6 : ChsOk w 0 R2 C) :
    Calls Tryz.prog 11 #[.slice a1 A.length k1, .slice a2 A.length k2, .slice c1 C.length k3, .slice c2 C.length k4] w fun e w' => e = .returned (.bool true) ∧ Below w.heap.size w w' := by
  have H1 := Lib.hid h1
  have H2 := Lib.hid h2
  have H3 := Lib.hid h3
  have H4 := Lib.hid h4
  have H5 := Lib.hid h5
  have H6 := Lib.hid h6
  have HF := Lib.hid hf
  have HV := Lib.hid hv
  clear h1 h2 h3 h4 h5 h6 hf hv
  go_enter Tryz.func11, Tryz.ntmps11
  go_wp2
  go_loopw [25] (fun i wr => ∃ k : Nat, k ≤ A.length ∧ i = .int .i64 k ∧ Below w.heap.size w wr) (fun i _ => A.length - (intOf i).toNat)
  case atStart => exact ⟨0, Nat.zero_le _, rfl, Below.refl _ _⟩
  case round =>
    obtain ⟨k, hk, rfl, hbw⟩ := hrel
    have hsz := hbw.size
    by_cases hlt : k < A.length
    · obtain ⟨b1, o1, rfl, _, g1, hat1⟩ := H1.out.resolve_left (fun h => by subst h; exact absurd hlt (Nat.not_lt_zero _))
      obtain ⟨b2, o2, rfl, _, g2, hat2⟩ := H2.out.resolve_left (fun h => by subst h; exact absurd hlt (Nat.not_lt_zero _))
      obtain ⟨r1, q1⟩ := tpRow (hat1.below hbw) k hlt
      obtain ⟨r2, q2⟩ := tpRow (hat2.below hbw) k hlt
      have hne := neRow_tp _ (HF.out _ (List.getElem_mem hlt))
      have hi1 : (k : Int) < (A.length : Int) := by omega
      clear hat1 hat2
      generalize A[k]'hlt = t at *
      go_wp2
      go_big_quiet (fail)
      go_wp2
      go_roundw
      case rel => exact ⟨k + 1, by omega, by go_num, (by repeat (first | exact Below.refl _ _ | assumption | refine below_grown ?_ (by first | omega | (simp [go_sem]; done) | (simp [go_sem] <;> omega)) _ | refine Below.alloc ?_ (by first | omega | (simp [go_sem]; done) | (simp [go_sem] <;> omega)) _ | refine below_bytesW ?_ (by first | omega | (simp [go_sem]; done) | (simp [go_sem] <;> omega)) _ | refine Below.drew ?_ | refine below_drewN ?_ _))⟩
      case measure => simp [intOf]; omega
    · obtain rfl : k = A.length := by omega
      obtain ⟨w1, rfl⟩ : ∃ w1, w1 = wr := ⟨_, rfl⟩
      have HB1 := Lib.hid hbw
      clear hbw H1 H2 HF
      go_wp2
      go_loopw [40] (fun i wr => ∃ k : Nat, k ≤ C.length ∧ i = .int .i64 k ∧ Below w.heap.size w wr) (fun i _ => C.length - (intOf i).toNat)
      case atStart => exact ⟨0, Nat.zero_le _, rfl, HB1.out⟩
      case round =>
        obtain ⟨k, hk, rfl, hbw⟩ := hrel
        have hsz2 := hbw.size
        by_cases hlt : k < C.length
        · have hl1 : k < R1.length := by rw [H5.out.1]; exact hlt
          have hl2 : k < R2.length := by rw [H6.out.1]; exact hlt
          obtain ⟨b1, o1, rfl, _, g1, hat1⟩ := H3.out.resolve_left (fun h => by subst h; exact absurd hl1 (Nat.not_lt_zero _))
          obtain ⟨b2, o2, rfl, _, g2, hat2⟩ := H4.out.resolve_left (fun h => by subst h; exact absurd hl2 (Nat.not_lt_zero _))
          obtain ⟨m1, m2, m3, m4⟩ := H5.out.2 k hl1 hlt
          obtain ⟨n1, n2, n3, n4⟩ := H6.out.2 k hl2 hlt
          obtain ⟨x1, x2⟩ := HV.out _ (List.getElem_mem hlt)
          have e1 := (hat1.below hbw).get k hl1 0 _ rfl
          have e2 := (hat1.below hbw).get k hl1 1 _ rfl
          have e3 := (hat2.below hbw).get k hl2 0 _ rfl
          have e4 := (hat2.below hbw).get k hl2 1 _ rfl
          have f1 : wr.cell? ⟨b1, o1 + k * 2, none⟩ = some (.string ⟨(R1[k]'hl1).name.toArray⟩) := e1
          have f2 : wr.cell? ⟨b1, o1 + k * 2 + 1, none⟩ = some (.slice (R1[k]'hl1).a (R1[k]'hl1).n (R1[k]'hl1).cap) := by rw [Nat.add_assoc]; exact e2
          have f3 : wr.cell? ⟨b2, o2 + k * 2, none⟩ = some (.string ⟨(R2[k]'hl2).name.toArray⟩) := e3
          have f4 : wr.cell? ⟨b2, o2 + k * 2 + 1, none⟩ = some (.slice (R2[k]'hl2).a (R2[k]'hl2).n (R2[k]'hl2).cap) := by rw [Nat.add_assoc]; exact e4
          rw [m1] at f1
          rw [m2] at f2
          rw [n1] at f3
          rw [n2] at f4
          have HSM : Hid (∀ w', Below wr.heap.size wr w' → Calls Tryz.prog 13 #[.slice (R1[k]'hl1).a (C[k]'hlt).vals.length (R1[k]'hl1).cap, .slice (R2[k]'hl2).a (C[k]'hlt).vals.length (R2[k]'hl2).cap] w' fun e w'' => e = .returned (.bool true) ∧ Below w'.heap.size w' w'') := fun w' hb => by
            have := refSame_any (C[k]'hlt).vals (C[k]'hlt).vals (R1[k]'hl1).a (R2[k]'hl2).a (R1[k]'hl1).cap (R2[k]'hl2).cap 0 0 (by omega) (by omega) w' ((m4.below hbw).below hb) ((n4.below hbw).below hb)
            rwa [show ((C[k]'hlt).vals == (C[k]'hlt).vals) = true from beq_self_eq_true _] at this
          have hi1 : (k : Int) < (C.length : Int) := by omega
          have i1 : isOld b1 wr = true := isOld_iff.2 (by omega)
          have i2 : isOld b2 wr = true := isOld_iff.2 (by omega)
          clear e1 e2 e3 e4 m1 m2 m3 m4 n1 n2 n3 n4 hat1 hat2 x2
          generalize R1[k]'hl1 = r1 at *
          generalize R2[k]'hl2 = r2 at *
          generalize C[k]'hlt = c at *
          go_wp2
          refine wp_region_quiet_grown (by kernel_rfl) (by kernel_rfl) ?_
          repeat (go_big_quiet_step ((go_at_call 13; exact quiet_grown (HSM.out _ (below_grown' _ _)))))
          refine wpQuiet_nil ?_; intro _ hw'; obtain ⟨pq, hw''⟩ := hw'; subst hw''
          go_wp2
          go_roundw
          case rel => exact ⟨k + 1, by omega, by go_num, (by repeat (first | exact Below.refl _ _ | assumption | refine below_grown ?_ (by first | omega | (simp [go_sem]; done) | (simp [go_sem] <;> omega)) _ | refine Below.alloc ?_ (by first | omega | (simp [go_sem]; done) | (simp [go_sem] <;> omega)) _ | refine below_bytesW ?_ (by first | omega | (simp [go_sem]; done) | (simp [go_sem] <;> omega)) _ | refine Below.drew ?_ | refine below_drewN ?_ _))⟩
          case measure => simp [intOf]; omega
        · obtain rfl : k = C.length := by omega
          go_wp2
          go_ret
          exact ⟨rfl, hbw⟩
end
end Go.Proofs.YtnkckejbkbbdlaaGreatDoor
