/- The shelf's Oldest and OldestOfAll walked; the oldest of a list. -/
import Derived.Test.YtaondmaebgicgaaShOld
namespace Go.Proofs.Ytaondmaebgicgaa
open Go Go.RowKit
set_option maxRecDepth 20000
set_option linter.unusedSimpArgs false
set_option linter.unusedVariables false

def oldStep (p : GKept → Bool) (acc : Bool × GKept) (k : GKept) : Bool × GKept := if (p k && (!acc.1 || decide (k.1.used < acc.2.1.used))) = true then (true, k) else acc
def oldW (p : GKept → Bool) (W : List GKept) : Bool × GKept := W.foldl (oldStep p) (false, zeroKt)
theorem oldW_go (p : GKept → Bool) : ∀ (rest pre : List GKept) (f : Bool) (b : GKept), (pre ++ rest).Pairwise (fun a b => a.1.seq < b.1.seq) → IsOld p pre f b → IsOld p (pre ++ rest) (rest.foldl (oldStep p) (f, b)).1 (rest.foldl (oldStep p) (f, b)).2
  | [], pre, f, b, _, h => by rw [List.append_nil]; exact h
  | k :: rest, pre, f, b, hr, h => by
    have e : pre ++ k :: rest = (pre ++ [k]) ++ rest := by simp
    rw [e] at hr ⊢
    rw [List.foldl_cons]
    have hlt : f = true → b.1.seq < k.1.seq := fun hf => by
      rcases h with ⟨h, _⟩ | ⟨_, h1, _⟩
      · rw [h] at hf; cases hf
      · have := (List.pairwise_append.1 hr).1
        exact (List.pairwise_append.1 this).2.2 b h1 k (by simp)
    have ho : olderB f b k = (!f || decide (k.1.used < b.1.used)) := by
      unfold olderB
      cases f
      · rfl
      · have := hlt rfl
        have h2 : decide (k.1.seq < b.1.seq) = false := by simp; omega
        rw [h2]; simp
    unfold oldStep
    by_cases hc : (p k && (!f || decide (k.1.used < b.1.used))) = true
    · rw [if_pos hc]
      rw [Bool.and_eq_true] at hc
      exact oldW_go p rest (pre ++ [k]) true k hr (isOld_yes h hc.1 (by rw [ho]; exact hc.2))
    · rw [if_neg hc]
      exact oldW_go p rest (pre ++ [k]) f b hr (isOld_no h (by rw [ho]; simpa using hc))
theorem isOld_W (p : GKept → Bool) {W : List GKept} (hr : W.Pairwise (fun a b => a.1.seq < b.1.seq)) : IsOld p W (oldW p W).1 (oldW p W).2 := by
  have := oldW_go p W [] false zeroKt (by simpa using hr) (isOld_start p)
  rw [List.nil_append] at this
  exact this
theorem seq_eq {W : List GKept} (hr : W.Pairwise (fun a b => a.1.seq < b.1.seq)) {k k' : GKept} (hk : k ∈ W) (hk' : k' ∈ W) (h : k.1.seq = k'.1.seq) : k = k' := by
  induction W with
  | nil => cases hk
  | cons x W ih =>
    have h2 := List.pairwise_cons.1 hr
    rcases List.mem_cons.1 hk with rfl | hk1
    · rcases List.mem_cons.1 hk' with rfl | hk2
      · rfl
      · have := h2.1 _ hk2; omega
    · rcases List.mem_cons.1 hk' with rfl | hk2
      · have := h2.1 _ hk1; omega
      · exact ih h2.2 hk1 hk2
theorem isOld_one {p : GKept → Bool} {W ps : List GKept} (hr : W.Pairwise (fun a b => a.1.seq < b.1.seq)) (hp : ps.Perm W) {f f' : Bool} {b b' : GKept} (h : IsOld p ps f b) (h' : IsOld p W f' b') : f = f' ∧ b = b' := by
  rcases h with ⟨rfl, hb, h⟩ | ⟨rfl, h1, h2, h⟩
  · rcases h' with ⟨rfl, hb', _⟩ | ⟨rfl, g1, g2, _⟩
    · exact ⟨rfl, hb.trans hb'.symm⟩
    · have := h b' (hp.symm.subset g1)
      rw [g2] at this; cases this
  · rcases h' with ⟨rfl, hb', g⟩ | ⟨rfl, g1, g2, g⟩
    · have := g b (hp.subset h1)
      rw [h2] at this; cases this
    · have q1 := h b' (hp.symm.subset g1) g2
      have q2 := g b (hp.subset h1) h2
      exact ⟨rfl, seq_eq hr (hp.subset h1) g1 (by omega)⟩
theorem OldPost.out {p : GKept → Bool} {W : List GKept} {w w' : World} {e : Ending} (hr : W.Pairwise (fun a b => a.1.seq < b.1.seq)) (h : OldPost p W w e w') : e = .returned (.tuple #[.agg (cookieC (oldW p W).2.1), .bool (oldW p W).1]) ∧ Below w.heap.size w w' := by
  obtain ⟨ps, f, b, h1, h2, rfl, h3⟩ := h
  obtain ⟨rfl, rfl⟩ := isOld_one hr h1 h2 (isOld_W p hr)
  exact ⟨rfl, h3⟩
theorem clAll_any (k : GKept) (w : World) : Calls Try.prog 25 #[.agg (keptV k)] w fun e w' => e = .returned (.bool true) ∧ Below w.heap.size w w' := by
  go_enter Try.func25, Try.ntmps25
  go_wp2
  go_ret
  exact ⟨rfl, (by repeat (first | exact Below.refl _ _ | assumption | refine below_grown ?_ (by first | omega | (simp [go_sem]; done) | (simp [go_sem] <;> omega)) _ | refine Below.alloc ?_ (by first | omega | (simp [go_sem]; done) | (simp [go_sem] <;> omega)) _ | refine below_bytesW ?_ (by first | omega | (simp [go_sem]; done) | (simp [go_sem] <;> omega)) _ | refine Below.drew ?_ | refine below_drewN ?_ _))⟩
@[go_sem] theorem keptV_site' (k : GKept) (h : 29 < (keptV k).size) : (keptV k)[29]'h = .string ⟨k.2.toArray⟩ := by
  have := keptV_site k
  rw [Array.getElem?_eq_getElem h] at this
  exact Option.some.inj this
theorem clSite_any (k : GKept) (s : List UInt8) (b3 : Nat) (w : World) (hs : w.cell? ⟨b3, 0, none⟩ = some (.string ⟨s.toArray⟩)) : Calls Try.prog 40 #[.agg (keptV k), .pointer (some ⟨b3, 0, none⟩)] w fun e w' => e = .returned (.bool (k.2 == s)) ∧ Below w.heap.size w w' := by
  have hob : isOld b3 w = true := isOld_iff.2 (block_lt_of_cell (a := ⟨b3, 0, none⟩) hs)
  go_enter Try.func40, Try.ntmps40
  go_wp2
  go_ret
  exact ⟨rfl, (by repeat (first | exact Below.refl _ _ | assumption | refine below_grown ?_ (by first | omega | (simp [go_sem]; done) | (simp [go_sem] <;> omega)) _ | refine Below.alloc ?_ (by first | omega | (simp [go_sem]; done) | (simp [go_sem] <;> omega)) _ | refine below_bytesW ?_ (by first | omega | (simp [go_sem]; done) | (simp [go_sem] <;> omega)) _ | refine Below.drew ?_ | refine below_drewN ?_ _))⟩
set_option maxHeartbeats 1000000 in
theorem shOldestAll_any (W : List GKept) (hA : Apart W) (hr : W.Pairwise (fun a b => a.1.seq < b.1.seq)) (last B bs ba bi : Nat) (w : World) (h : ShR w bs ba bi W last B) :
    Calls Try.prog 17 #[.pointer (some ⟨bs, 0, none⟩)] w fun e w' => e = .returned (.tuple #[.agg (cookieC (oldW (fun _ => true) W).2.1), .bool (oldW (fun _ => true) W).1]) ∧ Below w.heap.size w w' := by
  have HC : Hid (∀ w', Below w.heap.size w w' → Calls Try.prog 24 #[.pointer (some ⟨bs, 0, none⟩), .func (.func 25) #[] #[]] w' fun e w'' => e = .returned (.tuple #[.agg (cookieC (oldW (fun _ => true) W).2.1), .bool (oldW (fun _ => true) W).1]) ∧ Below w'.heap.size w' w'') := fun w' hb =>
    (shOldest_any W hA (fun _ => true) 25 #[] (enters_of Try.func25 (by kernel_rfl) rfl) last B bs ba bi w' (h.below hb) (fun k w2 _ => clAll_any k w2)).mono (fun e w'' h' => h'.out hr)
  clear hA hr h
  generalize oldW (fun _ => true) W = r at *
  go_enter Try.func17, Try.ntmps17
  go_wp2_with (go_at_call 24; (with_reducible refine (HC.out _ (by repeat (first | exact Below.refl _ _ | assumption | refine below_grown ?_ (by first | omega | (simp [go_sem]; done) | (simp [go_sem] <;> omega)) _ | refine Below.alloc ?_ (by first | omega | (simp [go_sem]; done) | (simp [go_sem] <;> omega)) _ | refine below_bytesW ?_ (by first | omega | (simp [go_sem]; done) | (simp [go_sem] <;> omega)) _ | refine Below.drew ?_ | refine below_drewN ?_ _))).mono ?_); intro e w3 he; obtain ⟨rfl, hb3⟩ := he; obtain ⟨p3, rfl⟩ := grown_of hb3; clear hb3)
  refine ret_cell_tmp w.heap.size (cookieC r.2.1) (.bool r.1) rfl rfl rfl agg_cookie (by simp [go_sem]) (by simp [go_sem]) rfl ⟨rfl, ?_⟩
  first | exact below_setRow (by repeat (first | exact Below.refl _ _ | assumption | refine below_grown ?_ (by first | omega | (simp [go_sem]; done) | (simp [go_sem] <;> omega)) _ | refine Below.alloc ?_ (by first | omega | (simp [go_sem]; done) | (simp [go_sem] <;> omega)) _ | refine below_bytesW ?_ (by first | omega | (simp [go_sem]; done) | (simp [go_sem] <;> omega)) _ | refine Below.drew ?_ | refine below_drewN ?_ _)) (by omega) _ | exact (by repeat (first | exact Below.refl _ _ | assumption | refine below_grown ?_ (by first | omega | (simp [go_sem]; done) | (simp [go_sem] <;> omega)) _ | refine Below.alloc ?_ (by first | omega | (simp [go_sem]; done) | (simp [go_sem] <;> omega)) _ | refine below_bytesW ?_ (by first | omega | (simp [go_sem]; done) | (simp [go_sem] <;> omega)) _ | refine Below.drew ?_ | refine below_drewN ?_ _))
set_option maxHeartbeats 1000000 in
theorem shOldestOf_any (W : List GKept) (hA : Apart W) (hr : W.Pairwise (fun a b => a.1.seq < b.1.seq)) (last B bs ba bi : Nat) (s : List UInt8) (w : World) (h : ShR w bs ba bi W last B) :
    Calls Try.prog 32 #[.pointer (some ⟨bs, 0, none⟩), .string ⟨s.toArray⟩] w fun e w' => e = .returned (.tuple #[.agg (cookieC (oldW (fun k => k.2 == s) W).2.1), .bool (oldW (fun k => k.2 == s) W).1]) ∧ Below w.heap.size w w' := by
  have HC : Hid (∀ w' b3, Below w.heap.size w w' → w'.cell? ⟨b3, 0, none⟩ = some (.string ⟨s.toArray⟩) → Calls Try.prog 24 #[.pointer (some ⟨bs, 0, none⟩), .func (.func 40) #[] #[.pointer (some ⟨b3, 0, none⟩)]] w' fun e w'' => e = .returned (.tuple #[.agg (cookieC (oldW (fun k => k.2 == s) W).2.1), .bool (oldW (fun k => k.2 == s) W).1]) ∧ Below w'.heap.size w' w'') := fun w' b3 hb hc =>
    (shOldest_any W hA (fun k => k.2 == s) 40 #[.pointer (some ⟨b3, 0, none⟩)] (enters_of Try.func40 (by kernel_rfl) rfl) last B bs ba bi w' (h.below hb) (fun k w2 hb2 => clSite_any k s b3 w2 ((hb2.cell (p := ⟨b3, 0, none⟩) (block_lt_of_cell (a := ⟨b3, 0, none⟩) hc)).trans hc))).mono (fun e w'' h' => h'.out hr)
  clear hA hr h
  generalize oldW (fun k => k.2 == s) W = r at *
  go_enter Try.func32, Try.ntmps32
  go_wp2_with (go_at_call 24; (with_reducible refine (HC.out _ _ (by repeat (first | exact Below.refl _ _ | assumption | refine below_grown ?_ (by first | omega | (simp [go_sem]; done) | (simp [go_sem] <;> omega)) _ | refine Below.alloc ?_ (by first | omega | (simp [go_sem]; done) | (simp [go_sem] <;> omega)) _ | refine below_bytesW ?_ (by first | omega | (simp [go_sem]; done) | (simp [go_sem] <;> omega)) _ | refine Below.drew ?_ | refine below_drewN ?_ _)) (by simp [go_sem])).mono ?_); intro e w3 he; obtain ⟨rfl, hb3⟩ := he; obtain ⟨p3, rfl⟩ := grown_of hb3; clear hb3)
  refine ret_cell_tmp (w.heap.size + 1) (cookieC r.2.1) (.bool r.1) rfl rfl rfl agg_cookie (by simp [go_sem]) (by simp [go_sem]) rfl ⟨rfl, ?_⟩
  first | exact below_setRow (by repeat (first | exact Below.refl _ _ | assumption | refine below_grown ?_ (by first | omega | (simp [go_sem]; done) | (simp [go_sem] <;> omega)) _ | refine Below.alloc ?_ (by first | omega | (simp [go_sem]; done) | (simp [go_sem] <;> omega)) _ | refine below_bytesW ?_ (by first | omega | (simp [go_sem]; done) | (simp [go_sem] <;> omega)) _ | refine Below.drew ?_ | refine below_drewN ?_ _)) (by omega) _ | exact (by repeat (first | exact Below.refl _ _ | assumption | refine below_grown ?_ (by first | omega | (simp [go_sem]; done) | (simp [go_sem] <;> omega)) _ | refine Below.alloc ?_ (by first | omega | (simp [go_sem]; done) | (simp [go_sem] <;> omega)) _ | refine below_bytesW ?_ (by first | omega | (simp [go_sem]; done) | (simp [go_sem] <;> omega)) _ | refine Below.drew ?_ | refine below_drewN ?_ _))
end Go.Proofs.Ytaondmaebgicgaa
