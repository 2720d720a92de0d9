/- The document's list outlives the shelf's stores. -/
import Derived.Test.YtaondmaebgicgaaShRefPut
import Derived.Test.YtaondmaebgicgaaShAct
namespace Go.Proofs.Ytaondmaebgicgaa
open Go Go.RowKit
set_option maxRecDepth 20000
set_option linter.unusedSimpArgs false
set_option linter.unusedVariables false

theorem listIn_sh {w w' : World} {bs ba bi : Nat} {W W' : List GKept} {last B : Nat} {a : Option Addr} (hsh : ShR w bs ba bi W last B) (hl : ListIn dkCod w a W' 0) (hk : Keeps (ShO bs ba bi) w w') : ListIn dkCod w' a W' 0 := by
  rcases hl with h | ⟨b, o, h1, h2, h3, h4⟩
  · exact .inl h
  · cases W' with
    | nil => exact .inl rfl
    | cons k r =>
      have hc := h4.get 0 (by simp) 3 _ (List.getElem?_eq_getElem (show 3 < (keptR k).length by rw [keptR_length]; decide))
      have hne : ¬ ShO bs ba bi b := by
        rintro (e | e | e)
        · obtain ⟨t, ht⟩ := hsh.1
          rw [← e] at ht
          have hc' := hc
          simp only [World.cell?, ht] at hc'
          have hz : ([Value.map (some ba), .map (some bi), .int .i64 (last : Int)].toArray)[o + (0 * dkCod.sz + 3)]? = none := Array.getElem?_eq_none (by simp)
          simp [hz] at hc'
        · obtain ⟨D, ⟨es, clock, hb, _⟩, _⟩ := hsh.2.1
          rw [← e] at hb
          simp [World.cell?, hb] at hc
        · obtain ⟨n, _, D, ⟨es, clock, hb, _⟩, _⟩ := hsh.2.2.1
          rw [← e] at hb
          simp [World.cell?, hb] at hc
      exact .inr ⟨b, o, h1, h2, Nat.lt_of_lt_of_le h3 hk.size, h4.keeps hk h3 hne⟩
theorem listIn_var {w w' : World} {bb : Nat} {cs : List Value} {W' : List GKept} {a : Option Addr} (hv : Var w bb cs) (h3 : cs.length ≤ 3) (hl : ListIn dkCod w a W' 0) (hk : Keeps (fun j => j = bb) w w') : ListIn dkCod w' a W' 0 := by
  rcases hl with h | ⟨b, o, h1, h2, h3', h4⟩
  · exact .inl h
  · cases W' with
    | nil => exact .inl rfl
    | cons k r =>
      have hc := h4.get 0 (by simp) 3 _ (List.getElem?_eq_getElem (show 3 < (keptR k).length by rw [keptR_length]; decide))
      have hne : ¬ b = bb := by
        intro e
        obtain ⟨t, ht⟩ := hv
        rw [← e] at ht
        simp only [World.cell?, ht] at hc
        have hz : cs.toArray[o + (0 * dkCod.sz + 3)]? = none := Array.getElem?_eq_none (by simp; omega)
        rw [hz] at hc
        simp at hc
      exact .inr ⟨b, o, h1, h2, Nat.lt_of_lt_of_le h3' hk.size, h4.keeps hk h3' hne⟩
theorem shR_keeps {w w' : World} {Q : Nat → Prop} {bs ba bi : Nat} {W : List GKept} {last B : Nat} (h : ShR w bs ba bi W last B) (hk : Keeps Q w w') (hq : ∀ j, Q j → ¬ ShO bs ba bi j) : ShR w' bs ba bi W last B := by
  obtain ⟨h1, h2, ⟨n, h3, h4⟩, h5⟩ := h
  exact ⟨h1.keeps hk (fun e => hq _ e (.inl rfl)), h2.keeps hk (fun e => hq _ e (.inr (.inl rfl))), ⟨n, h3, h4.keeps hk (fun e => hq _ e (.inr (.inr rfl)))⟩, h5⟩
end Go.Proofs.Ytaondmaebgicgaa
