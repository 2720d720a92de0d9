/- Steps at maps that are functions. -/
import Derived.Test.YtaondmaebgicgaaShQ
namespace Go.Proofs.Ytaondmaebgicgaa
open Go Go.RowKit
set_option maxRecDepth 20000
set_option linter.unusedSimpArgs false
set_option linter.unusedVariables false

theorem wp_delete_map {o : Oper} {a : Act} {K : Act → World → Prop} {Z : Exit → Act → World → Prop} (m x : Operand) (t k e : TypeId)
    (ho : o.op = .call { callee := .builtin .delete, args := #[m, x], argTypes := #[t, k] }) (w : World) {b n : Nat} {f : Lit → Option Value} (hM : MapF Try.prog k w b f n) (Kd : Go.Maps.Keyed Try.prog k) (ht : Try.prog.underlying t = some (.map k e))
    {vx : Value} {kl : Lit} (hkey : keyOf Try.prog k vx = some kl) (hm : a.eval m = .map (some b)) (hx : a.eval x = vx)
    (h : ∀ w', MapF Try.prog k w' b (fun y => if y.sameKey kl = true then none else f y) (if (f kl).isSome = true then n - 1 else n) → Keeps (fun j => j = b) w w' → K (a.put o.dst (.tuple #[])) w') : Oper.wp Try.prog o a w K Z := by
  obtain ⟨w', hr, hM', hg⟩ := hM.del (ty := o.type) Kd ht hkey
  unfold Oper.wp execOp
  simp only [ho, resolve, invoke, builtin, Sem.run_bind, Sem.run_pure, Result.andThen_ok, List.map_toArray, List.map_cons, List.map_nil, hm, hx, hr]
  exact h w' hM' (Keeps.of_grown hg)
theorem step_delete_map {ops : Array Oper} {o : Oper} {a : Act} {K : Act → World → Prop} {Z : Exit → Act → World → Prop} {F : Prop} (hgd : o.guard = none) (m x : Operand) (t k e : TypeId)
    (ho : o.op = .call { callee := .builtin .delete, args := #[m, x], argTypes := #[t, k] }) (w : World) {b n : Nat} {f : Lit → Option Value} (hM : MapF Try.prog k w b f n) (Kd : Go.Maps.Keyed Try.prog k) (ht : Try.prog.underlying t = some (.map k e))
    {vx : Value} {kl : Lit} (hkey : keyOf Try.prog k vx = some kl) (hm : a.eval m = .map (some b)) (hx : a.eval x = vx)
    (h : ∀ w', MapF Try.prog k w' b (fun y => if y.sameKey kl = true then none else f y) (if (f kl).isSome = true then n - 1 else n) → Keeps (fun j => j = b) w w' → K (a.put o.dst (.tuple #[])) w') : if Region.wanted o (yielded ops a.tmps) = true then Oper.wp Try.prog o a w K Z else F := by
  have hw : Region.wanted o (yielded ops a.tmps) = true := by simp [Region.wanted, hgd]
  rw [if_pos hw]
  exact wp_delete_map m x t k e ho w hM Kd ht hkey hm hx h
theorem wp_update_map {o : Oper} {a : Act} {K : Act → World → Prop} {Z : Exit → Act → World → Prop} (m x v : Operand) (t k e : TypeId)
    (ho : o.op = .mapUpdate t m x v) (w : World) {b n : Nat} {f : Lit → Option Value} (hM : MapF Try.prog k w b f n) (Kd : Go.Maps.Keyed Try.prog k) (ht : Try.prog.underlying t = some (.map k e)) (hn : n < maxLen)
    {vx vv : Value} {kl : Lit} (hkey : keyOf Try.prog k vx = some kl) (hm : a.eval m = .map (some b)) (hx : a.eval x = vx) (hv : a.eval v = vv)
    (h : ∀ w', MapF Try.prog k w' b (fun y => if y.sameKey kl = true then some vv else f y) (if (f kl).isSome = true then n else n + 1) → Keeps (fun j => j = b) w w' → K (a.put o.dst undef) w') : Oper.wp Try.prog o a w K Z := by
  obtain ⟨w', hr, hM', hg⟩ := hM.put Kd ht hkey hn vv
  unfold Oper.wp execOp
  simp only [ho, Sem.run_bind, Sem.run_pure, Result.andThen_ok, hm, hx, hv, hr]
  exact h w' hM' (Keeps.of_grown hg)
theorem step_update_map {ops : Array Oper} {o : Oper} {a : Act} {K : Act → World → Prop} {Z : Exit → Act → World → Prop} {F : Prop} (hgd : o.guard = none) (m x v : Operand) (t k e : TypeId)
    (ho : o.op = .mapUpdate t m x v) (w : World) {b n : Nat} {f : Lit → Option Value} (hM : MapF Try.prog k w b f n) (Kd : Go.Maps.Keyed Try.prog k) (ht : Try.prog.underlying t = some (.map k e)) (hn : n < maxLen)
    {vx vv : Value} {kl : Lit} (hkey : keyOf Try.prog k vx = some kl) (hm : a.eval m = .map (some b)) (hx : a.eval x = vx) (hv : a.eval v = vv)
    (h : ∀ w', MapF Try.prog k w' b (fun y => if y.sameKey kl = true then some vv else f y) (if (f kl).isSome = true then n else n + 1) → Keeps (fun j => j = b) w w' → K (a.put o.dst undef) w') : if Region.wanted o (yielded ops a.tmps) = true then Oper.wp Try.prog o a w K Z else F := by
  have hw : Region.wanted o (yielded ops a.tmps) = true := by simp [Region.wanted, hgd]
  rw [if_pos hw]
  exact wp_update_map m x v t k e ho w hM Kd ht hn hkey hm hx hv h
/-- A store into a map as an equation, in whatever world its block is as now: for regions that draw. -/
theorem MapF.upds {P : Program} {K : TypeId} {w : World} {b n : Nat} {f : Lit → Option Value} (h : MapF P K w b f n) {t e : TypeId} {key : Value} {kl : Lit} (Kd : Go.Maps.Keyed P K) (ht : P.underlying t = some (.map K e)) (hkey : keyOf P K key = some kl) (hn : n < maxLen) (v : Value) {es : Array MapEntry} {k : Nat} (hB : ∀ W', mapB W' b es k = true → MapF P K W' b f n) :
    ∃ U : World → World, (∀ W', mapB W' b es k = true → (Instr.mapUpdate t (.map (some b)) key v).run P W' = .ok () (U W')) ∧
      Hid (∀ W', mapB W' b es k = true → MapF P K (U W') b (fun y => if y.sameKey kl = true then some v else f y) (if (f kl).isSome = true then n else n + 1) ∧ Keeps (fun j => j = b) W' (U W')) := by
  have : ∀ W', ∃ w', mapB W' b es k = true → (Instr.mapUpdate t (.map (some b)) key v).run P W' = .ok () w' ∧ MapF P K w' b (fun y => if y.sameKey kl = true then some v else f y) (if (f kl).isSome = true then n else n + 1) ∧ Keeps (fun j => j = b) W' w' := fun W' => by
    by_cases hh : mapB W' b es k = true
    · obtain ⟨w', h1, h2, h3⟩ := (hB W' hh).put Kd ht hkey hn v
      exact ⟨w', fun _ => ⟨h1, h2, Keeps.of_grown h3⟩⟩
    · exact ⟨W', fun hc => absurd hc hh⟩
  obtain ⟨U, hU⟩ := Classical.axiomOfChoice this
  exact ⟨U, fun W' hw => (hU W' hw).1, fun W' hw => (hU W' hw).2⟩
/-- The blocks that the shelf is. -/
def ShO (bs ba bi : Nat) : Nat → Prop := fun k => k = bs ∨ k = ba ∨ k = bi
theorem Keeps.sub {Q Q' : Nat → Prop} {w w' : World} (h : Keeps Q w w') (hq : ∀ k, Q k → Q' k) : Keeps Q' w w' := ⟨h.os, h.tape, h.output, h.size, fun k hk hn => h.block k hk fun hh => hn (hq k hh)⟩
theorem MapF.keeps {P : Program} {K : TypeId} {Q : Nat → Prop} {w w' : World} {b n : Nat} {f : Lit → Option Value} (h : MapF P K w b f n) (hk : Keeps Q w w') (hq : ¬ Q b) : MapF P K w' b f n := h.old (hk.block b h.lt hq)
end Go.Proofs.Ytaondmaebgicgaa
