/-
  slices.Grow, slices.Concat, copies; products of words.
-/
import Derived.Test.YtjnnjnhmecidmaaWordsD
namespace Go.Proofs.Ytjnnjnhmecidmaa
set_option linter.unusedVariables false
set_option linter.unusedSimpArgs false
set_option maxRecDepth 100000
open Go.RowKit

theorem zeroInts (n : Nat) : (Builtin.zeroCells (Value.int .i64 0).cells n).toList = (List.replicate n (0 : Int)).map (Value.int .i64) := by
  have := toList_madeCells_one (Value.int .i64 0) n
  simp only [madeCells] at this
  simp only [Builtin.zeroCells, show (Value.int .i64 0).cells = #[.int .i64 0] from rfl, List.map_replicate]
  simpa using this

/-- 'append([]int64(nil), make([]int64, n)...)', as the translation has it -/
theorem wp_appZ {P : Program} (w : World) {ops : Array Oper} {rest : List Oper} {o : Oper} {a : Act} {Q : Exit → Act → World → Prop} (hgd : o.guard = none) (s x : Operand)
    (ho : o.op = .call { callee := .builtin .append, args := #[s, x], argTypes := #[22, 3] })
    (i : TypeInfo) (ht : P.underlying 22 = some (.slice 2)) (htn : P.underlying 3 = some (.int .i64)) (hi : P.info? 2 = some i) (hz : i.zero = some (.int .i64 0)) (hsize : i.size = 1) (hby : i.bytes = 8)
    (hs : a.eval s = .slice none 0 0) (n : Nat) (N : Int) (hN : N = (n : Int)) (hx : a.eval x = .int .i64 N) (h0 : 0 < n) (hn : n ≤ 1000000000)
    (h : ∀ w' cap, Ints w' w.heap.size (.slice (some ⟨w.heap.size, 0, none⟩) n cap) (List.replicate n 0) → n ≤ cap → cap ≤ 9223372036854775807 → Below w.heap.size w w' → wpList P ops Q rest (a.put o.dst (.slice (some ⟨w.heap.size, 0, none⟩) n cap)) w') :
    wpList P ops Q (o :: rest) a w := by
  subst hN
  refine wpList_plain hgd fun K hK' => ?_
  have hr := Lib.run_append_nil_zeros (P := P) w 22 3 o.type 2 i (.int .i64 0) .i64 .i64 ht htn hi hz n h0 (by omega) (by omega) (by rw [hby]; omega)
  have hge := grownCap_ge w n 0 2
  have hcm : grownCap w n 0 2 ≤ maxLen := grownCap_le_maxLen w n 0 2 (by unfold maxLen; omega)
  unfold Oper.wp execOp
  simp only [ho, resolve, invoke, builtin, Sem.run_bind, Sem.run_pure, Result.andThen_ok, List.map_toArray, List.map_cons, List.map_nil, hs, hx, hr]
  refine hK' _ _ (h _ _ ?_ hge (by unfold maxLen at hcm; omega) ?_)
  · refine ⟨by simp, .inr ⟨w.heap.size, _, _, by simp, Nat.le_refl _, heap_alloc_new w.drew _, by simpa using hge, hcm, ?_, ?_⟩⟩
    · simp only [Array.size_append, size_zeroCells, show (Value.int .i64 0).cells.size = 1 from rfl]; omega
    · rw [Array.toList_append, zeroInts]
      simp
  · exact ⟨rfl, rfl, rfl, by simp, fun k hk => Below.heap_alloc w.drew _ k hk⟩

--== slices.Grow
set_option maxHeartbeats 1000000 in
theorem f_Grow (n : Nat) (w : World) (hn : n ≤ 1000000000) :
    Calls Try.prog 183 #[.slice none 0 0, .int .i64 n] w (RetInts w []) := by
  obtain ⟨i0, hi, hz0, hz1, hz2⟩ := info_parts Try.info2
  by_cases h0 : n = 0
  · subst h0
    go_enter Try.func183, Try.ntmps183
    go_wp2
    go_ret
    exact ⟨_, rfl, Ints.nil _ _, Below.refl _ _⟩
  · have hpos : 0 < n := by omega
    clear h0
    go_enter Try.func183, Try.ntmps183
    go_wp2_with (at_builtin; refine wp_appZ _ rfl _ _ rfl i0 Try.underlying22 Try.underlying3 hi hz0 hz1 hz2 rfl n _ ?c1 rfl hpos hn ?_)
    case c1 => rfl
    intro w1 cap hI hc hc2 hB
    have hT := hI.take (by simp) (Nat.zero_le n)
    clear hI
    go_wp2
    go_ret
    exact ⟨_, rfl, hT, hB⟩
--== lists of lists
/-- the lists of a list, joined (no simp rule looks inside) -/
def cat (xss : List (List Int)) : List Int := xss.flatten
theorem flat_succ (xss : List (List Int)) (k : Nat) (h : k < xss.length) : cat (xss.take (k + 1)) = cat (xss.take k) ++ xss.getD k [] := by
  unfold cat; rw [take_snoc xss k [] h]; simp
theorem flat_le (xss : List (List Int)) (k : Nat) : (cat (xss.take k)).length ≤ (cat xss).length := by
  have h : xss.flatten = (xss.take k).flatten ++ (xss.drop k).flatten := by rw [← List.flatten_append, List.take_append_drop]
  unfold cat
  rw [h, List.length_append]; omega
--== slices.Concat
set_option maxHeartbeats 1000000 in
theorem f_Concat (v : Value) (xss : List (List Int)) (w : World) (hv : Rd2 w v xss) (hs : (cat xss).length ≤ 100000000) :
    Calls Try.prog 125 #[v] w (RetInts w (cat xss)) := by
  obtain ⟨i0, hi, hz0, hz1, hz2⟩ := info_parts Try.info2
  obtain ⟨ao, cap, rfl, hc1, hc2, hA⟩ := hv.open
  go_enter Try.func125, Try.ntmps125
  go_wp2
  go_loop [3, 5, 11] (fun s _ i => ∃ j : Nat, j ≤ xss.length ∧ i = .int .i64 j ∧ s = .int .i64 ((cat (xss.take j)).length : Int)) (fun _ _ i => xss.length - (intOf i).toNat)
  case atStart => exact ⟨0, Nat.zero_le _, rfl, rfl⟩
  case round =>
    obtain ⟨j, hj, rfl, rfl⟩ := hrel
    have hle := flat_le xss j
    by_cases hlt : j < xss.length
    · rcases hA with hA | ⟨b, off, rfl, hA⟩
      · omega
      obtain ⟨r, hcell, hr⟩ := hA j hlt
      have HS := Lib.hid (flat_succ xss j hlt)
      have hle2 := flat_le xss (j + 1)
      rw [flat_succ xss j hlt, List.length_append] at hle2
      clear hA
      generalize xss.getD j [] = x at *
      obtain ⟨ao', cap', rfl, _, _⟩ := hr.form
      generalize cat (xss.take j) = m at *
      go_wp2
      go_round
      case rel => exact ⟨j + 1, by omega, by go_num, by rw [HS.out, List.length_append]; go_num⟩
      case measure => simp [intOf]; omega
    · obtain rfl : j = xss.length := by omega
      rw [List.take_length]
      go_wp2_with fail
      refine (f_Grow (cat xss).length _ (by omega)).mono ?_
      rintro e w1 ⟨v1, rfl, hI, hB⟩
      go_wp2_with fail
      go_loopw [6, 8, 27] (fun u _ i wr => ∃ j : Nat, j ≤ xss.length ∧ i = .int .i64 j ∧ Ints wr w.heap.size u (cat (xss.take j)) ∧ Below w.heap.size w wr) (fun _ _ i _ => xss.length - (intOf i).toNat)
      case atStart => exact ⟨0, Nat.zero_le _, rfl, hI, hB⟩
      case round =>
        clear hI hB
        obtain ⟨j, hj', rfl, hI, hB⟩ := hrel
        have hS := hB.size
        have hle := flat_le xss j
        by_cases hlt : j < xss.length
        · rcases hA with hA | ⟨b, off, rfl, hA⟩
          · omega
          obtain ⟨r, hc, hr⟩ := hA j hlt
          have hcell : wr.cell? ⟨b, off + j, none⟩ = some r := (hB.cell (World.block_lt_of_cell? w _ hc)).trans hc
          have HS := Lib.hid (flat_succ xss j hlt)
          have hle2 := flat_le xss (j + 1)
          rw [flat_succ xss j hlt, List.length_append] at hle2
          have hr' := hr.below hB
          clear hA hc hr
          generalize xss.getD j [] = x at *
          obtain ⟨ao', cap', rfl, _, _⟩ := hr'.form
          generalize (cat (xss.take j)) = m at *
          go_wp2_with (at_builtin; refine wp_appN _ rfl _ _ rfl w.heap.size i0 Try.underlying22 hi hz0 hz1 hz2 _ _ rfl hI _ x rfl hr' (by omega) (by omega) (by omega) ?_)
          intro v' w2 hI1 hG hB1
          go_wp2
          go_roundw
          case rel => exact ⟨j + 1, by omega, by go_num, by rw [HS.out]; exact hI1, hB.trans hB1⟩
          case measure => simp [intOf]; omega
        · obtain rfl : j = xss.length := by omega
          rw [List.take_length] at hI
          go_wp2
          go_ret
          exact ⟨_, rfl, hI, hB⟩
--== spec.l01Own
set_option maxHeartbeats 1000000 in
theorem s_l01Own (v : Value) (xs : List Int) (w : World) (hv : Rd w v xs) (hs : xs.length ≤ 100000000) :
    Calls Try.prog 100 #[v] w (RetInts w xs) := by
  obtain ⟨i0, hi, hz0, hz1, hz2⟩ := info_parts Try.info2
  go_enter Try.func100, Try.ntmps100
  have hE := Ints.empty w
  have hv' := hv.below (below_alloc w (.cells #[] 2))
  go_wp2_with (at_builtin; refine wp_appN _ rfl _ _ rfl w.heap.size i0 Try.underlying22 hi hz0 hz1 hz2 _ _ rfl hE _ xs rfl hv' (by simp) (by omega) (by simp) ?_)
  intro v' w2 hI1 hG hB1
  go_wp2
  go_ret
  exact ⟨_, rfl, by simpa using hI1, (below_alloc w _).trans hB1⟩
end Go.Proofs.Ytjnnjnhmecidmaa
