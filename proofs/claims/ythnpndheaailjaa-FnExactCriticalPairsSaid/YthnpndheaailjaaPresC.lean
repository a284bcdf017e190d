/-
  Exponent vectors, the order, normal words.
-/
import Derived.Test.YthnpndheaailjaaPresB
namespace Go.Proofs.Ythnpndheaailjaa
set_option linter.unusedVariables false
set_option linter.unusedSimpArgs false
set_option maxRecDepth 100000
open Go.RowKit

/-! ### normal words -/
/-- small exponents -/
def SmE (xs : List Int) : Prop := xs.length ≤ 10 ∧ ∀ j, j < xs.length → ∃ m : Nat, xs.getD j 0 = (m : Int) ∧ m ≤ 10
def nwTo (xs : List Int) (i : Nat) : List Int := ((List.range i).flatMap (lwAt xs)).map fun (k : Nat) => (k : Int) + 1
def nwL (xs : List Int) : List Int := (lw xs).map fun (k : Nat) => (k : Int) + 1
theorem nwTo_all (xs : List Int) : nwTo xs xs.length = nwL xs := rfl
theorem nwTo_zero (xs : List Int) : nwTo xs 0 = [] := rfl
theorem nwTo_succ (xs : List Int) (i m : Nat) (h : xs.getD i 0 = (m : Int)) : nwTo xs (i + 1) = nwTo xs i ++ List.replicate m ((i : Int) + 1) := by
  unfold nwTo
  rw [List.range_succ, List.flatMap_append, List.map_append]
  simp only [List.flatMap_cons, List.flatMap_nil, List.append_nil, lwAt, h, Int.toNat_natCast, List.map_replicate]
theorem nwTo_len {xs : List Int} (h : SmE xs) (i : Nat) (hi : i ≤ xs.length) : (nwTo xs i).length ≤ 10 * i := by
  induction i with
  | zero => simp [nwTo]
  | succ i ih =>
    obtain ⟨m, hm, hle⟩ := h.2 i (by omega)
    rw [nwTo_succ xs i m hm, List.length_append, List.length_replicate]
    have := ih (by omega)
    omega
theorem nwL_len {xs : List Int} (h : SmE xs) : (nwL xs).length ≤ 100 := by
  have := nwTo_len h xs.length (Nat.le_refl _)
  have := h.1
  rw [← nwTo_all]; omega
theorem nwL_small {xs : List Int} (h : SmE xs) : Small (nwL xs) := by
  intro x hx
  unfold nwL at hx
  obtain ⟨k, hk, rfl⟩ := List.mem_map.1 hx
  have := mem_lw hk
  have := h.1
  omega
theorem rep_snoc (l : List Int) (k : Nat) (x : Int) : l ++ List.replicate k x ++ [x] = l ++ List.replicate (k + 1) x := by
  rw [List.append_assoc, ← List.replicate_succ']
theorem tailB_sm {os v : List Int} {z : Nat} (ho : primesB os = true) (hn : os.length ≤ 6) (h : tailB os v z = true) : SmE v := by
  obtain ⟨hl, h1⟩ := tailB_true h
  refine ⟨by omega, fun j hj => ?_⟩
  have h2 := h1 j (by omega)
  have h3 := primesB_at ho (getD_mem (xs := os) (k := j) (by omega))
  exact ⟨(v.getD j 0).toNat, by omega, by omega⟩
--== impl.normalWord
set_option maxHeartbeats 2000000 in
theorem i_normalWord (v : Value) (xs : List Int) (w : World) (hv : Rd w v xs) (hs : SmE xs) :
    Calls Try.prog 93 #[v] w (RetInts w (nwL xs)) := by
  obtain ⟨i0, hi, hz0, hz1, hz2⟩ := info_parts Try.info2
  obtain ⟨ao, cap, rfl, hc1, hc2, _, hA⟩ := hv
  have h10 := hs.1
  have HS := Lib.hid hs
  clear hs
  go_enter Try.func93, Try.ntmps93
  go_wp2
  go_loopw [3, 8] (fun u i wr => ∃ j : Nat, j ≤ xs.length ∧ i = .int .i64 j ∧ Ints wr w.heap.size u (nwTo xs j) ∧ Below w.heap.size w wr) (fun _ i _ => xs.length - (intOf i).toNat)
  case atStart => exact ⟨0, Nat.zero_le _, rfl, Ints.nil _ _, Below.refl _ _⟩
  case round =>
    obtain ⟨j, hj, rfl, hI, hB⟩ := hrel
    by_cases hlt : j < xs.length
    · rcases hA with hA | ⟨b, off, rfl, hA⟩
      · omega
      have hc := hA j hlt
      have hcell : wr.cell? ⟨b, off + j, none⟩ = some (.int .i64 (xs.getD j 0)) := (hB.cell (World.block_lt_of_cell? w _ hc)).trans hc
      obtain ⟨m, hm, hm10⟩ := HS.out.2 j hlt
      have HN := Lib.hid (nwTo_succ xs j m hm)
      have hlen := nwTo_len HS.out j hj
      rw [hm] at hcell
      clear hc hm
      generalize nwTo xs j = R at *
      go_wp2_with fail
      go_loopw [3, 14] (fun u i wr2 => ∃ k : Nat, k ≤ m ∧ i = .int .i64 k ∧ Ints wr2 w.heap.size u (R ++ List.replicate k ((j : Int) + 1)) ∧ Below w.heap.size w wr2) (fun _ i _ => m - (intOf i).toNat)
      case atStart => exact ⟨0, Nat.zero_le _, rfl, by simpa using hI, hB⟩
      case round =>
        clear hI hB hcell
        obtain ⟨k, hk, rfl, hI, hB⟩ := hrel
        have hS := hB.size
        by_cases hkm : k < m
        · have hl : (R ++ List.replicate k ((j : Int) + 1)).length ≤ 1000000000 := by simp; omega
          have HR := Lib.hid (rep_snoc R k ((j : Int) + 1))
          generalize R ++ List.replicate k ((j : Int) + 1) = Q at *
          go_wp2_with (at_builtin; refine wp_app1 _ rfl _ _ rfl w.heap.size i0 Try.underlying22 hi hz0 hz1 hz2 _ _ rfl hI ((j : Int) + 1) rfl hl (by omega) ?_)
          intro v' w1 hI1 hG hB1
          go_wp2
          go_roundw
          case rel => exact ⟨k + 1, by omega, by go_num, by rw [← HR.out]; exact hI1, hB.trans hB1⟩
          case measure => simp [intOf]; omega
        · obtain rfl : k = m := by omega
          go_wp2_with fail
          go_roundw
          case rel => exact ⟨j + 1, by omega, by go_num, by rw [HN.out]; exact hI, hB⟩
          case measure => simp [intOf]; omega
    · obtain rfl : j = xs.length := by omega
      rw [nwTo_all] at hI
      go_wp2
      go_ret
      exact ⟨_, rfl, hI, hB⟩
--== spec.l07Word
set_option maxHeartbeats 2000000 in
theorem s_l07Word (v : Value) (xs : List Int) (w : World) (hv : Rd w v xs) (hs : SmE xs) :
    Calls Try.prog 136 #[v] w (RetInts w (nwL xs)) := by
  obtain ⟨i0, hi, hz0, hz1, hz2⟩ := info_parts Try.info2
  obtain ⟨ao, cap, rfl, hc1, hc2, _, hA⟩ := hv
  have h10 := hs.1
  have HS := Lib.hid hs
  clear hs
  go_enter Try.func136, Try.ntmps136
  go_wp2
  go_loopw [3, 4] (fun u i wr => ∃ j : Nat, j ≤ xs.length ∧ i = .int .i64 j ∧ Ints wr w.heap.size u (nwTo xs j) ∧ Below w.heap.size w wr) (fun _ i _ => xs.length - (intOf i).toNat)
  case atStart => exact ⟨0, Nat.zero_le _, rfl, Ints.empty w, below_alloc _ _⟩
  case round =>
    obtain ⟨j, hj, rfl, hI, hB⟩ := hrel
    by_cases hlt : j < xs.length
    · rcases hA with hA | ⟨b, off, rfl, hA⟩
      · omega
      have hc := hA j hlt
      obtain ⟨m, hm, hm10⟩ := HS.out.2 j hlt
      rw [hm] at hc
      have HN := Lib.hid (nwTo_succ xs j m hm)
      have hlen := nwTo_len HS.out j hj
      clear hm
      generalize nwTo xs j = R at *
      go_wp2_with fail
      go_loopw [3, 5] (fun u i wr2 => ∃ k : Nat, k ≤ m ∧ i = .int .i64 k ∧ Ints wr2 w.heap.size u (R ++ List.replicate k ((j : Int) + 1)) ∧ Below w.heap.size w wr2) (fun _ i _ => m - (intOf i).toNat)
      case atStart => exact ⟨0, Nat.zero_le _, rfl, by simpa using hI, hB⟩
      case round =>
        clear hI hB
        obtain ⟨k, hk, rfl, hI, hB⟩ := hrel
        have hS := hB.size
        have hcell : wr.cell? ⟨b, off + j, none⟩ = some (.int .i64 (m : Int)) := (hB.cell (World.block_lt_of_cell? w _ hc)).trans hc
        by_cases hkm : k < m
        · have hl : (R ++ List.replicate k ((j : Int) + 1)).length ≤ 1000000000 := by simp; omega
          have HR := Lib.hid (rep_snoc R k ((j : Int) + 1))
          generalize R ++ List.replicate k ((j : Int) + 1) = Q at *
          go_wp2_with (at_builtin; refine wp_app1 _ rfl _ _ rfl w.heap.size i0 Try.underlying22 hi hz0 hz1 hz2 _ _ rfl hI ((j : Int) + 1) rfl hl (by omega) ?_)
          intro v' w1 hI1 hG hB1
          go_wp2
          go_roundw
          case rel => exact ⟨k + 1, by omega, by go_num, by rw [← HR.out]; exact hI1, hB.trans hB1⟩
          case measure => simp [intOf]; omega
        · obtain rfl : k = m := by omega
          go_wp2_with fail
          go_roundw
          case rel => exact ⟨j + 1, by omega, by go_num, by rw [HN.out]; exact hI, hB⟩
          case measure => simp [intOf]; omega
    · obtain rfl : j = xs.length := by omega
      rw [nwTo_all] at hI
      go_wp2
      go_ret
      exact ⟨_, rfl, hI, hB⟩
--== exponent vectors
def exvB (p : Pres) (xs : List Int) : Bool := validB p && tailB p.orders xs 0
theorem exvB_no {p : Pres} {xs : List Int} (h : validB p = false) : exvB p xs = false := by simp [exvB, h]
theorem exvB_yes {p : Pres} {xs : List Int} (h : validB p = true) : exvB p xs = tailB p.orders xs 0 := by simp [exvB, h]
theorem exvB_true {p : Pres} {xs : List Int} (h : exvB p xs = true) : ValidP p ∧ tailB p.orders xs 0 = true := by
  simp only [exvB, Bool.and_eq_true] at h; exact ⟨validB_true.1 h.1, h.2⟩
theorem exvB_sm {p : Pres} {xs : List Int} (h : exvB p xs = true) : SmE xs := by
  obtain ⟨h1, h2⟩ := exvB_true h
  exact tailB_sm (ordB_true h1.ord).1 h1.n6 h2
