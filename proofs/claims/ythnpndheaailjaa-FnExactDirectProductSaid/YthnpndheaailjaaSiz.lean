/-
  Bounds on the size of a presentation (plain part).
-/
import Derived.Test.YthnpndheaailjaaPres
namespace Go.Proofs.Ythnpndheaailjaa
set_option linter.unusedVariables false
set_option linter.unusedSimpArgs false
set_option maxRecDepth 100000
open Go.RowKit

theorem cat_len_le {L : List (List Int)} {B : Nat} (h : ∀ x ∈ L, x.length ≤ B) : (cat L).length ≤ B * L.length := by
  induction L with
  | nil => simp [cat]
  | cons a L ih =>
    have h1 := h a (by simp)
    have h2 := ih (fun x hx => h x (by simp [hx]))
    have e : cat (a :: L) = a ++ cat L := by simp [cat]
    rw [e, List.length_append, List.length_cons, Nat.mul_succ]
    omega
theorem tot_le {β : Type} (g : β → Nat) {L : List β} {B : Nat} (h : ∀ x ∈ L, g x ≤ B) : tot g L ≤ B * L.length := by
  induction L with
  | nil => simp [tot]
  | cons a L ih =>
    have h1 := h a (by simp)
    have h2 := ih (fun x hx => h x (by simp [hx]))
    have e : tot g (a :: L) = g a + tot g L := by simp [tot]
    rw [e, List.length_cons, Nat.mul_succ]
    omega
theorem psize_bd {q : Pres} (h1 : q.orders.length ≤ 100) (h2 : q.powers.length ≤ 100) (h3 : q.conj.length ≤ 100) (h4 : ∀ x ∈ q.powers, x.length ≤ 100) (h5 : ∀ y ∈ q.conj, y.length ≤ 100 ∧ ∀ x ∈ y, x.length ≤ 100) : psize q ≤ 1000000000 := by
  have a1 := cat_len_le h4
  have a2 : 100 * q.powers.length ≤ 100 * 100 := Nat.mul_le_mul_left _ h2
  have a3 : ∀ y ∈ q.conj, size2 y ≤ 10100 := fun y hy => by
    obtain ⟨g1, g2⟩ := h5 y hy
    have := cat_len_le g2
    have : 100 * y.length ≤ 100 * 100 := Nat.mul_le_mul_left _ g1
    unfold size2; omega
  have a4 := tot_le size2 a3
  have a5 : 10100 * q.conj.length ≤ 10100 * 100 := Nat.mul_le_mul_left _ h3
  have e2 : size2 q.powers = q.powers.length + (cat q.powers).length := rfl
  unfold psize size3
  omega
end Go.Proofs.Ythnpndheaailjaa
