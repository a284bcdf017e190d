/-
  The order of a presentation; normal words, exported.
-/
import Derived.Test.YthnpndheaailjaaPresC
namespace Go.Proofs.Ythnpndheaailjaa
set_option linter.unusedVariables false
set_option linter.unusedSimpArgs false
set_option maxRecDepth 100000
open Go.RowKit

def okI (c : Bool) (n : Int) : Int := if c then n else 0
def cod1 (c : Bool) : Int := if c then 0 else 1
def okX (c : Bool) (xs : List Int) : List Int := if c then xs else []
theorem ret_ii {a b c d : Int} (h : a = b) (h' : c = d) : Ending.returned (.tuple #[.int .i64 a, .int .i64 c]) = .returned (.tuple #[.int .i64 b, .int .i64 d]) := by rw [h, h']
--== impl.orderOf
set_option maxHeartbeats 800000 in
theorem i_orderOf (vp : Value) (p : Pres) (w : World) (hp : PtrP w vp p) (ho : ordB p.orders = true) :
    Calls Try.prog 98 #[vp] w fun e w' => e = .returned (.int .i64 (prodO p.orders)) ∧ w = w' := by
  obtain ⟨pb, v1, v2, v3, rfl, hp1, hp2, hp3, hR, _, _⟩ := hp
  clear hp2 hp3
  obtain ⟨os, pw, cj⟩ := p
  simp only at hR ho ⊢
  obtain ⟨ao, cap, rfl, hc1, hc2, _, hA⟩ := hR
  have hpr := (ordB_true ho).1
  have hbd : ∀ j, 1 ≤ prodO (os.take j) ∧ prodO (os.take j) ≤ 729 := fun j => by
    have h1 := prodO_take hpr j
    have h2 := (ordB_true ho).2.2.2
    have : primesB (os.take j) = true := List.all_eq_true.2 fun x hx => List.all_eq_true.1 hpr x (List.mem_of_mem_take hx)
    have := (prod_both _ this).1
    omega
  have HB := Lib.hid hbd
  clear hbd
  go_enter Try.func98, Try.ntmps98
  go_wp2
  go_loop [3, 11] (fun u i => ∃ j : Nat, j ≤ os.length ∧ i = .int .i64 j ∧ u = .int .i64 (prodO (os.take j))) (fun _ i => os.length - (intOf i).toNat)
  case atStart => exact ⟨0, Nat.zero_le _, rfl, rfl⟩
  case round =>
    obtain ⟨j, hj, rfl, rfl⟩ := hrel
    obtain ⟨hb1, hb2⟩ := HB.out j
    by_cases hlt : j < os.length
    · rcases hA with hA | ⟨b, off, rfl, hA⟩
      · omega
      have hcell := hA j hlt
      have hob := primesB_at hpr (getD_mem hlt)
      have HS : Hid (prodO (os.take (j + 1)) = prodO (os.take j) * os.getD j 0) := by show _ = _; rw [take_snoc os j 0 hlt, prodO_snoc]
      have hb3 := HB.out (j + 1)
      rw [HS.out] at hb3
      clear hA hpr ho
      generalize os.getD j 0 = o at *
      generalize prodO (os.take j) = u at *
      go_wp2
      go_round
      case rel => exact ⟨j + 1, by omega, by go_num, by rw [HS.out]⟩
      case measure => simp [intOf]; omega
    · obtain rfl : j = os.length := by omega
      go_wp2
      go_ret
      exact ⟨ret_int (by simp), rfl⟩
