/-
  AbelianPresentation.
-/
import Derived.Test.YtodlagikdofjfaaTriv
namespace Go.Proofs.Ytodlagikdofjfaa
set_option linter.unusedVariables false
set_option linter.unusedSimpArgs false
set_option maxRecDepth 100000
open Go.RowKit

--== results
/-- what a call leaves that returns a presentation and a code -/
def RetP2 (w : World) (p : Pres) (c : Int) (e : Ending) (w' : World) : Prop := ∃ v1 v2 v3, e = .returned (.tuple #[.agg #[v1, v2, v3], .int .i64 c]) ∧ OP w' (win w.heap.size w'.heap.size) v1 v2 v3 p ∧ Below w.heap.size w w'
def noP : Pres := ⟨[], [], []⟩
def okP (c : Int) (p : Pres) : Pres := if c = 0 then p else noP
theorem okP_zero (p : Pres) : okP 0 p = p := rfl
theorem okP_ne {c : Int} (p : Pres) (h : ¬ c = 0) : okP c p = noP := if_neg h
theorem OP.none (w : World) (S : Nat → Prop) : OP w S (.slice none 0 0) (.slice none 0 0) (.slice none 0 0) noP := ⟨fun _ => False, fun _ => False, fun _ => False, local_O1.nil _ _, local_O2.nil _ _, local_O3.nil _ _, fun _ hk => hk.elim, fun _ hk => hk.elim, fun _ hk => hk.elim, fun _ _ h => h, fun _ _ h => h, fun _ _ h => h⟩
def abC (os : List Int) : Int := if os.length ≤ 6 then (if primesB os then (if prodS os ≤ 729 then 0 else 3) else 2) else 3
theorem abC_len {os : List Int} (h : ¬ os.length ≤ 6) : abC os = 3 := if_neg h
theorem abC_prime {os : List Int} (h : os.length ≤ 6) (h2 : primesB os = false) : abC os = 2 := by simp [abC, h, h2]
theorem abC_big {os : List Int} (h : os.length ≤ 6) (h2 : primesB os = true) (h3 : ¬ prodS os ≤ 729) : abC os = 3 := by simp [abC, h, h2, h3]
theorem abC_ok {os : List Int} (h : os.length ≤ 6) (h2 : primesB os = true) (h3 : prodS os ≤ 729) : abC os = 0 := by simp [abC, h, h2, h3]
theorem prodO_le7 (l : List Int) : primesB l = true → prodO l ≤ 7 ^ l.length := by
  refine snoc_ind (P := fun l => primesB l = true → prodO l ≤ 7 ^ l.length) ?_ ?_ l
  · intro _; simp [prodO]
  · intro l o ih h
    rw [primesB_snoc, Bool.and_eq_true] at h
    have h1 := ih h.1
    have ho := primeB_true.1 h.2
    have h0 := (prod_both l h.1).1
    rw [prodO_snoc, List.length_append, List.length_cons, List.length_nil, Nat.zero_add, Int.pow_succ]
    generalize prodO l = x at *
    generalize (7 : Int) ^ l.length = y at *
    rcases ho with rfl | rfl | rfl | rfl <;> omega
theorem prodO_take_bd {os : List Int} {j : Nat} (h : primesB (os.take j) = true) (hl : os.length ≤ 6) : 1 ≤ prodO (os.take j) ∧ prodO (os.take j) ≤ 117649 := by
  have h1 := prodO_le7 _ h
  have h2 : (os.take j).length ≤ 6 := by rw [List.length_take]; omega
  have h3 : (7 : Int) ^ (os.take j).length ≤ 7 ^ 6 := by
    generalize (os.take j).length = n at h2
    match n, h2 with
    | 0, _ => decide
    | 1, _ => decide
    | 2, _ => decide
    | 3, _ => decide
    | 4, _ => decide
    | 5, _ => decide
    | 6, _ => decide
  have h4 := (prod_both _ h).1
  omega
--== impl.AbelianPresentation
set_option maxHeartbeats 4000000 in
theorem i_AbelianPresentation (v : Value) (os : List Int) (w : World) (hv : Rd w v os) :
    Calls Try.prog 17 #[v] w (RetP2 w (okP (abC os) (triv os)) (abC os)) := by
  have g0 := below_alloc w (Obj.cells #[Value.slice none 0 0, Value.slice none 0 0, Value.slice none 0 0] 26)
  have x0 := Bx.new w (Value.slice none 0 0) (Value.slice none 0 0) (Value.slice none 0 0)
  have HV := Lib.hid hv
  obtain ⟨ao, cap, rfl, hc1, hc2⟩ := hv.form
  clear hv
  by_cases h6 : os.length ≤ 6
  case neg =>
    have HC := Lib.hid (abC_len h6)
    go_enter Try.func17, Try.ntmps17
    go_wp2_with fail
    refine bodyPost_ret (v := .tuple #[.agg #[Value.slice none 0 0, Value.slice none 0 0, Value.slice none 0 0], .int .i64 3]) (by simp [results, Try.results17, go_sem]) rfl ?_
    rw [HC.out, okP_ne _ (by omega)]
    exact ⟨_, _, _, rfl, OP.none _ _, by simpa using g0⟩

  · go_enter Try.func17, Try.ntmps17
    go_wp2_with fail
    go_loop [4, 13] (fun u i => ∃ j : Nat, j ≤ os.length ∧ i = .int .i64 j ∧ u = .int .i64 (prodO (os.take j)) ∧ primesB (os.take j) = true) (fun _ i => os.length - (intOf i).toNat)
    case atStart => exact ⟨0, Nat.zero_le _, rfl, rfl, rfl⟩
    case round =>
      obtain ⟨j, hj, rfl, rfl, hpr⟩ := hrel
      obtain ⟨hp1, hp2⟩ := prodO_take_bd hpr h6
      have HP := Lib.hid hpr
      clear hpr
      by_cases hlt : j < os.length
      · obtain ⟨b, off, rfl, hcell⟩ := (HV.out.below g0).at hlt
        have HS : Hid (primesB (os.take (j + 1)) = (primesB (os.take j) && primeB (os.getD j 0))) := by show _ = _; rw [take_snoc os j 0 hlt, primesB_snoc]
        have HT : Hid (prodO (os.take (j + 1)) = prodO (os.take j) * os.getD j 0) := by show _ = _; rw [take_snoc os j 0 hlt, prodO_snoc]
        have HN := Lib.hid (ordB_no1 hlt)
        generalize os.getD j 0 = o at *
        generalize prodO (os.take j) = u at *
        by_cases ho : primeB o = true
        · have hob := primeB_true.1 ho
          have hob' : 2 ≤ o ∧ o ≤ 7 := by omega
          clear hob
          have hm0 : 0 ≤ u * o := Int.mul_nonneg (by omega) (by omega)
          have hm1 : u * o ≤ 117649 * 7 := Int.mul_le_mul hp2 hob'.2 (by omega) (by omega)
          have hm2 : u * o ≤ 823543 := by omega
          clear hm1
          go_wp2_with (go_at_call 56; refine (i_IsGroupPrime _ _).mono ?_; rintro e w' ⟨rfl, rfl⟩)
          go_round
          case rel => exact ⟨j + 1, by omega, by go_num, by rw [HT.out], by rw [HS.out, HP.out, ho]; rfl⟩
          case measure => simp [intOf]; omega
        · have ho' : primeB o = false := by simpa using ho
          clear ho
          have HC : Hid (abC os = 2) := abC_prime h6 (HN.out ho')
          go_wp2_with (go_at_call 56; refine (i_IsGroupPrime _ _).mono ?_; rintro e w' ⟨rfl, rfl⟩)
          go_wp2_with fail
          refine bodyPost_ret (v := .tuple #[.agg #[Value.slice none 0 0, Value.slice none 0 0, Value.slice none 0 0], .int .i64 2]) (by simp [results, Try.results17, go_sem]) rfl ?_
          rw [HC.out, okP_ne _ (by omega)]
          exact ⟨_, _, _, rfl, OP.none _ _, by simpa using g0⟩

      · obtain rfl : j = os.length := by omega
        have hpr : primesB os = true := by have := HP.out; rwa [List.take_length] at this
        have hpb := prod_both _ hpr
        by_cases h729 : prodS os ≤ 729
        case neg =>
          have HC := Lib.hid (abC_big h6 hpr h729)
          have hbig : 729 < prodO os := by omega
          rw [List.take_length]
          go_wp2_with fail
          refine bodyPost_ret (v := .tuple #[.agg #[Value.slice none 0 0, Value.slice none 0 0, Value.slice none 0 0], .int .i64 3]) (by simp [results, Try.results17, go_sem]) rfl ?_
          rw [HC.out, okP_ne _ (by omega)]
          exact ⟨_, _, _, rfl, OP.none _ _, by simpa using g0⟩

        have HC := Lib.hid (abC_ok h6 hpr h729)
        have hbig : prodO os ≤ 729 := by omega
        rw [List.take_length]
        go_wp2_with fail
        refine (i_trivialRelations _ os _ (HV.out.below g0) (by omega)).mono ?_
        rintro e w2 ⟨v1, v2, v3, rfl, hP, hB⟩
        have x2 := x0.below hB (by simp)
        have p0 := x2.c0
        have p1 := x2.c1
        have p2 := x2.c2
        have q0 := x2.fr 0
        have q1 := x2.fr 1
        have q2 := x2.fr 2
        obtain ⟨⟨a1, c1, rfl⟩, ⟨a2, c2, rfl⟩, ⟨a3, c3, rfl⟩⟩ := hP.forms
        have g2 := below_size g0 hB
        have nb : ¬ win (w.alloc (Obj.cells #[Value.slice none 0 0, Value.slice none 0 0, Value.slice none 0 0] 26)).heap.size w2.heap.size w.heap.size := fun h => by have := h.1; simp at this; omega
        have hP' := OP.sets (OP.sets (OP.sets hP nb 0 (Value.slice a1 (triv os).orders.length c1)) nb 1 (Value.slice a2 (triv os).powers.length c2)) nb 2 (Value.slice a3 (triv os).conj.length c3)
        have g3 := ((g2.setCell (p := ⟨w.heap.size, 0, none⟩) (Nat.le_refl _) (Value.slice a1 (triv os).orders.length c1)).setCell (p := ⟨w.heap.size, 1, none⟩) (Nat.le_refl _) (Value.slice a2 (triv os).powers.length c2)).setCell (p := ⟨w.heap.size, 2, none⟩) (Nat.le_refl _) (Value.slice a3 (triv os).conj.length c3)
        clear x2 x0 hP hB g2
        go_wp2_with fail
        refine bodyPost_ret (v := .tuple #[.agg #[Value.slice a1 (triv os).orders.length c1, Value.slice a2 (triv os).powers.length c2, Value.slice a3 (triv os).conj.length c3], .int .i64 0]) (by simp [results, Try.results17, go_sem, p0, p1, p2]) rfl ?_
        rw [HC.out, okP_zero]
        exact ⟨_, _, _, rfl, OP.sub hP' (fun k hk h => ⟨by have := h.1; simp at this; omega, hk⟩), g3⟩
--== spec.AbelianPresentation
set_option maxHeartbeats 4000000 in
theorem s_AbelianPresentation (v : Value) (os : List Int) (w : World) (hv : Rd w v os) :
    Calls Try.prog 15 #[v] w (RetP2 w (okP (abC os) (triv os)) (abC os)) := by
  have g0 := below_alloc w (Obj.cells #[Value.slice none 0 0, Value.slice none 0 0, Value.slice none 0 0] 26)
  have x0 := Bx.new w (Value.slice none 0 0) (Value.slice none 0 0) (Value.slice none 0 0)
  have HV := Lib.hid hv
  obtain ⟨ao, cap, rfl, hc1, hc2⟩ := hv.form
  clear hv
  by_cases h6 : os.length ≤ 6
  case neg =>
    have HC := Lib.hid (abC_len h6)
    go_enter Try.func15, Try.ntmps15
    go_wp2_with fail
    refine bodyPost_ret (v := .tuple #[.agg #[Value.slice none 0 0, Value.slice none 0 0, Value.slice none 0 0], .int .i64 3]) (by simp [results, Try.results15, go_sem]) rfl ?_
    rw [HC.out, okP_ne _ (by omega)]
    exact ⟨_, _, _, rfl, OP.none _ _, by simpa using g0⟩

  · go_enter Try.func15, Try.ntmps15
    go_wp2_with fail
    go_loop [4] (fun i => ∃ j : Nat, j ≤ os.length ∧ i = .int .i64 j ∧ primesB (os.take j) = true) (fun i => os.length - (intOf i).toNat)
    case atStart => exact ⟨0, Nat.zero_le _, rfl, rfl⟩
    case round =>
      obtain ⟨j, hj, rfl, hpr⟩ := hrel
      have HP := Lib.hid hpr
      clear hpr
      by_cases hlt : j < os.length
      · obtain ⟨b, off, rfl, hcell⟩ := (HV.out.below g0).at hlt
        have HS : Hid (primesB (os.take (j + 1)) = (primesB (os.take j) && primeB (os.getD j 0))) := by show _ = _; rw [take_snoc os j 0 hlt, primesB_snoc]
        have HT : Hid (prodO (os.take (j + 1)) = prodO (os.take j) * os.getD j 0) := by show _ = _; rw [take_snoc os j 0 hlt, prodO_snoc]
        have HN := Lib.hid (ordB_no1 hlt)
        generalize os.getD j 0 = o at *
        generalize prodO (os.take j) = u at *
        by_cases ho : primeB o = true
        · have hob := primeB_true.1 ho
          have hob' : 2 ≤ o ∧ o ≤ 7 := by omega
          clear hob
          go_wp2_with (go_at_call 53; refine (s_l01Prime _ _).mono ?_; rintro e w' ⟨rfl, rfl⟩)
          go_round
          case rel => exact ⟨j + 1, by omega, by go_num, by rw [HS.out, HP.out, ho]; rfl⟩
          case measure => simp [intOf]; omega
        · have ho' : primeB o = false := by simpa using ho
          clear ho
          have HC : Hid (abC os = 2) := abC_prime h6 (HN.out ho')
          go_wp2_with (go_at_call 53; refine (s_l01Prime _ _).mono ?_; rintro e w' ⟨rfl, rfl⟩)
          go_wp2_with fail
          refine bodyPost_ret (v := .tuple #[.agg #[Value.slice none 0 0, Value.slice none 0 0, Value.slice none 0 0], .int .i64 2]) (by simp [results, Try.results15, go_sem]) rfl ?_
          rw [HC.out, okP_ne _ (by omega)]
          exact ⟨_, _, _, rfl, OP.none _ _, by simpa using g0⟩

      · obtain rfl : j = os.length := by omega
        have hpr : primesB os = true := by have := HP.out; rwa [List.take_length] at this
        have hpb := prod_both _ hpr
        by_cases h729 : prodS os ≤ 729
        case neg =>
          have HC := Lib.hid (abC_big h6 hpr h729)
          have hbig : 729 < prodS os := by omega
          go_wp2_with (go_at_call 54; refine (s_l07Product _ _ _ (HV.out.below g0) hpr).mono ?_; rintro e w' ⟨rfl, rfl⟩)
          go_wp2_with fail
          refine bodyPost_ret (v := .tuple #[.agg #[Value.slice none 0 0, Value.slice none 0 0, Value.slice none 0 0], .int .i64 3]) (by simp [results, Try.results15, go_sem]) rfl ?_
          rw [HC.out, okP_ne _ (by omega)]
          exact ⟨_, _, _, rfl, OP.none _ _, by simpa using g0⟩

        have HC := Lib.hid (abC_ok h6 hpr h729)
        go_wp2_with fail
        refine (s_l07Product _ _ _ (HV.out.below g0) hpr).mono ?_
        rintro e w' ⟨rfl, rfl⟩
        go_wp2_with fail
        refine (s_l07Trivial _ os _ (HV.out.below g0) (by omega)).mono ?_
        rintro e w2 ⟨v1, v2, v3, rfl, hP, hB⟩
        have x2 := x0.below hB (by simp)
        have p0 := x2.c0
        have p1 := x2.c1
        have p2 := x2.c2
        have q0 := x2.fr 0
        have q1 := x2.fr 1
        have q2 := x2.fr 2
        obtain ⟨⟨a1, c1, rfl⟩, ⟨a2, c2, rfl⟩, ⟨a3, c3, rfl⟩⟩ := hP.forms
        have g2 := below_size g0 hB
        have nb : ¬ win (w.alloc (Obj.cells #[Value.slice none 0 0, Value.slice none 0 0, Value.slice none 0 0] 26)).heap.size w2.heap.size w.heap.size := fun h => by have := h.1; simp at this; omega
        have hP' := OP.sets (OP.sets (OP.sets hP nb 0 (Value.slice a1 (triv os).orders.length c1)) nb 1 (Value.slice a2 (triv os).powers.length c2)) nb 2 (Value.slice a3 (triv os).conj.length c3)
        have g3 := ((g2.setCell (p := ⟨w.heap.size, 0, none⟩) (Nat.le_refl _) (Value.slice a1 (triv os).orders.length c1)).setCell (p := ⟨w.heap.size, 1, none⟩) (Nat.le_refl _) (Value.slice a2 (triv os).powers.length c2)).setCell (p := ⟨w.heap.size, 2, none⟩) (Nat.le_refl _) (Value.slice a3 (triv os).conj.length c3)
        clear x2 x0 hP hB g2
        go_wp2_with fail
        refine bodyPost_ret (v := .tuple #[.agg #[Value.slice a1 (triv os).orders.length c1, Value.slice a2 (triv os).powers.length c2, Value.slice a3 (triv os).conj.length c3], .int .i64 0]) (by simp [results, Try.results15, go_sem, p0, p1, p2]) rfl ?_
        rw [HC.out, okP_zero]
        exact ⟨_, _, _, rfl, OP.sub hP' (fun k hk h => ⟨by have := h.1; simp at this; omega, hk⟩), g3⟩
theorem triv_size (os : List Int) (h : os.length ≤ 6) : psize (triv os) ≤ 1000000000 := by
  have h1 : ∀ n j, (cat (trivPow n j)).length = n * j := by
    intro n j
    induction j with
    | zero => simp [cat, trivPow]
    | succ j ih => rw [trivPow_succ]; unfold cat at *; simp [zrow, ih, Nat.mul_succ]
  have h2 : ∀ n i m, (cat (trivRow n i m)).length = n * m := by
    intro n i m
    induction m with
    | zero => simp [cat, trivRow]
    | succ m ih => rw [trivRow_succ]; unfold cat at *; simp [unitL_length, ih, Nat.mul_succ]
  have h3 : ∀ n j, n ≤ 6 → tot size2 (trivConj n j) ≤ 42 * j := by
    intro n j hn
    induction j with
    | zero => simp [tot, trivConj]
    | succ j ih =>
      have e : size2 (trivRow n j (n - 1 - j)) ≤ 42 := by
        unfold size2; rw [h2, trivRow_len]
        have : n * (n - 1 - j) ≤ 6 * 6 := Nat.mul_le_mul hn (by omega)
        omega
      rw [trivConj_succ]; unfold tot at *; simp only [List.map_append, List.sum_append, List.map_cons, List.map_nil, List.sum_cons, List.sum_nil]; omega
  have h4 := h3 os.length os.length h
  have h5 : os.length * os.length ≤ 6 * 6 := Nat.mul_le_mul h h
  unfold psize size2 size3 triv trivP
  simp only
  rw [h1, trivPow_len, trivConj_len]; omega
theorem noP_size : psize noP ≤ 1000000000 := by simp [psize, noP, size2, size3, cat, tot]
theorem abC_six {os : List Int} (h : abC os = 0) : os.length ≤ 6 := by
  by_cases h6 : os.length ≤ 6
  · exact h6
  · rw [abC_len h6] at h; omega
theorem len_AbelianPresentation (os : List Int) : psize (okP (abC os) (triv os)) ≤ 1000000000 := by
  by_cases h : abC os = 0
  · rw [h]; exact triv_size os (abC_six h)
  · rw [okP_ne _ h]; exact noP_size
end Go.Proofs.Ytodlagikdofjfaa
