/-
  Words: the inverse, the codes of arguments, joins.
-/
import Derived.Test.YtjnnjnhmecidmaaWordsB
import Derived.Test.YtjnnjnhmecidmaaRev
import Derived.Lib.AppendZeros
namespace Go.Proofs.Ytjnnjnhmecidmaa
set_option linter.unusedVariables false
set_option linter.unusedSimpArgs false
set_option maxRecDepth 100000
open Go.RowKit

/-- The slice value v reads as the lists xss. -/
def Rd2 (w : World) (v : Value) (xss : List (List Int)) : Prop :=
  ∃ vs, RdV w v vs ∧ vs.length = xss.length ∧ ∀ i, i < xss.length → Rd w (vs.getD i undef) (xss.getD i [])

theorem Rd2.of_cells {w w' : World} {v : Value} {xss : List (List Int)} (h : Rd2 w v xss) (hc : ∀ a u, w.cell? a = some u → w'.cell? a = some u) : Rd2 w' v xss := by
  obtain ⟨vs, h1, h2, h3⟩ := h
  exact ⟨vs, h1.of_cells hc, h2, fun i hi => (h3 i hi).of_cells hc⟩
theorem Rd2.below {w w' : World} {v : Value} {xss : List (List Int)} (h : Rd2 w v xss) (hb : Below w.heap.size w w') : Rd2 w' v xss :=
  h.of_cells fun a _ ha => (hb.cell (World.block_lt_of_cell? w a ha)).trans ha

/-- The shape, for a walk: the value, and each row. -/
theorem Rd2.open {w : World} {v : Value} {xss : List (List Int)} (h : Rd2 w v xss) :
    ∃ ao cap, v = .slice ao xss.length cap ∧ xss.length ≤ cap ∧ cap ≤ 9223372036854775807 ∧
      (xss.length = 0 ∨ ∃ b off, ao = some ⟨b, off, none⟩ ∧ ∀ j, j < xss.length → ∃ r, w.cell? ⟨b, off + j, none⟩ = some r ∧ Rd w r (xss.getD j [])) := by
  obtain ⟨vs, ⟨ao, cap, hv, h1, h2, h0, h3⟩, hl, hr⟩ := h
  rw [hl] at hv h1 h3
  refine ⟨ao, cap, hv, h1, h2, ?_⟩
  rcases h3 with h3 | ⟨b, off, rfl, h3⟩
  · exact .inl h3
  · refine .inr ⟨b, off, rfl, fun j hj => ⟨vs.getD j undef, ?_, hr j hj⟩⟩
    rw [h3 j hj, List.getD, List.getElem?_eq_getElem (by omega)]; rfl

theorem below_cells {w w' : World} (hb : Below w.heap.size w w') : ∀ a u, w.cell? a = some u → w'.cell? a = some u :=
  fun a _ ha => (hb.cell (World.block_lt_of_cell? w a ha)).trans ha

/-- A list of lists that the call itself has laid. -/
theorem Rd2.lit {w : World} (t : TypeId) (vs : List Value) (xss : List (List Int)) (hl : vs.length = xss.length) (hm : vs.length ≤ 1000) (h : ∀ i, i < xss.length → Rd w (vs.getD i undef) (xss.getD i [])) :
    Rd2 (w.alloc (.cells vs.toArray t)) (.slice (some ⟨w.heap.size, 0, none⟩) vs.length vs.length) xss := by
  refine ⟨vs, ⟨_, vs.length, rfl, Nat.le_refl _, by omega, fun h => by (cases h), .inr ⟨w.heap.size, 0, rfl, fun j hj => ?_⟩⟩, hl, fun i hi => (h i hi).of_cells (below_cells (below_alloc w _))⟩
  rw [Nat.zero_add, World.cell?_alloc_new]
  simp
theorem Rd2.lit1 {w : World} (t : TypeId) (v : Value) (xs : List Int) (h : Rd w v xs) : Rd2 (w.alloc (.cells #[v] t)) (.slice (some ⟨w.heap.size, 0, none⟩) 1 1) [xs] :=
  Rd2.lit t [v] [xs] rfl (by simp) fun i hi => by
    obtain rfl : i = 0 := by simpa using hi
    exact h
theorem Rd2.lit2 {w : World} (t : TypeId) (v v' : Value) (xs ys : List Int) (h : Rd w v xs) (h' : Rd w v' ys) : Rd2 (w.alloc (.cells #[v, v'] t)) (.slice (some ⟨w.heap.size, 0, none⟩) 2 2) [xs, ys] :=
  Rd2.lit t [v, v'] [xs, ys] rfl (by simp) fun i hi => by
    match i, hi with
    | 0, _ => exact h
    | 1, _ => exact h'
    | i + 2, hi => simp at hi; omega
theorem Rd2.lit4 {w : World} (t : TypeId) (v v' v'' v3 : Value) (xs ys zs us : List Int) (h : Rd w v xs) (h' : Rd w v' ys) (h'' : Rd w v'' zs) (h3 : Rd w v3 us) : Rd2 (w.alloc (.cells #[v, v', v'', v3] t)) (.slice (some ⟨w.heap.size, 0, none⟩) 4 4) [xs, ys, zs, us] :=
  Rd2.lit t [v, v', v'', v3] [xs, ys, zs, us] rfl (by simp) fun i hi => by
    match i, hi with
    | 0, _ => exact h
    | 1, _ => exact h'
    | 2, _ => exact h''
    | 3, _ => exact h3
    | i + 4, hi => simp at hi; omega

/-! ### the inverse -/
def invW (xs : List Int) : List Int := (xs.map fun x => -x).reverse
theorem invW_length (xs : List Int) : (invW xs).length = xs.length := by simp [invW]
theorem neg_succ (xs : List Int) (k : Nat) (h : k < xs.length) : (xs.take (k + 1)).map (fun x => -x) = (xs.take k).map (fun x => -x) ++ [-(xs.getD k 0)] := by
  rw [take_snoc xs k 0 h]; simp
theorem invW_succ (xs : List Int) (k : Nat) (h : k < xs.length) : invW (xs.drop (xs.length - (k + 1))) = invW (xs.drop (xs.length - k)) ++ [-(xs.getD (xs.length - 1 - k) 0)] := by
  have e : xs.drop (xs.length - (k + 1)) = xs.getD (xs.length - 1 - k) 0 :: xs.drop (xs.length - k) := by
    rw [List.drop_eq_getElem_cons (by omega)]
    have h1 : xs.length - (k + 1) = xs.length - 1 - k := by omega
    have h2 : xs.length - (k + 1) + 1 = xs.length - k := by omega
    rw [h2]
    simp [List.getD, h1, show xs.length - 1 - k < xs.length by omega]
  rw [e]; simp [invW]
theorem invW_small {xs : List Int} (h : Small xs) : Small (invW xs) := by
  intro x hx
  simp only [invW, List.mem_reverse, List.mem_map] at hx
  obtain ⟨y, hy, rfl⟩ := hx
  have := h y hy
  omega

--== impl.invertWord
set_option maxHeartbeats 1000000 in
theorem i_invertWord (v : Value) (xs : List Int) (w : World) (hv : Rd w v xs) (hs : xs.length ≤ 100000000) (hsm : Small xs) :
    Calls Try.prog 126 #[v] w (RetInts w (invW xs)) := by
  obtain ⟨i0, hi, hz0, hz1, hz2⟩ := info_parts Try.info2
  obtain ⟨ao, cap, rfl, hc1, hc2, _, hA⟩ := hv
  go_enter Try.func126, Try.ntmps126
  go_wp2
  go_loopw [3, 8] (fun u i wr => ∃ j : Nat, j ≤ xs.length ∧ i = .int .i64 j ∧ Ints wr w.heap.size u ((xs.take j).map fun x => -x) ∧ Below w.heap.size w wr) (fun _ i _ => xs.length - (intOf i).toNat)
  case atStart => exact ⟨0, Nat.zero_le _, rfl, Ints.nil _ _, Below.refl _ _⟩
  case round =>
    obtain ⟨j, hj, rfl, hI, hB⟩ := hrel
    have hS := hB.size
    by_cases hlt : j < xs.length
    · rcases hA with hA | ⟨b, off, rfl, hA⟩
      · omega
      have hc := hA j hlt
      have hcell : wr.cell? ⟨b, off + j, none⟩ = some (.int .i64 (xs.getD j 0)) := (hB.cell (World.block_lt_of_cell? w _ hc)).trans hc
      obtain ⟨hx1, hx2⟩ := hsm.getD j hlt
      have HS := Lib.hid (neg_succ xs j hlt)
      have hl : ((xs.take j).map fun x => -x).length ≤ 1000000000 := by simp; omega
      clear hA hc
      generalize xs.getD j 0 = x at *
      generalize ((xs.take j).map fun x => -x) = R at *
      go_wp2_with (at_builtin; refine wp_app1 _ rfl _ _ rfl w.heap.size i0 Try.underlying22 hi hz0 hz1 hz2 _ _ rfl hI (-x) rfl hl (by omega) ?_)
      intro v' w1 hI1 hG hB1
      go_wp2
      go_roundw
      case rel => exact ⟨j + 1, by omega, by go_num, by rw [HS.out]; exact hI1, hB.trans hB1⟩
      case measure => simp [intOf]; omega
    · obtain rfl : j = xs.length := by omega
      rw [List.take_length] at hI
      have hl : (xs.map fun x => -x).length ≤ 1000000000 := by simp; omega
      go_wp2_with (go_at_call 184; refine (f_Reverse _ _ _ _ hI hl).mono ?_; rintro e w1 ⟨rfl, hI1, hG, _⟩)
      go_ret
      exact ⟨_, rfl, hI1, hB.trans (hG.below hS fun g hg => (hI.lt g hg).1)⟩
--== spec.l06Invert
set_option maxHeartbeats 1000000 in
theorem s_l06Invert (v : Value) (xs : List Int) (w : World) (hv : Rd w v xs) (hs : xs.length ≤ 100000000) (hsm : Small xs) :
    Calls Try.prog 182 #[v] w (RetInts w (invW xs)) := by
  obtain ⟨i0, hi, hz0, hz1, hz2⟩ := info_parts Try.info2
  obtain ⟨ao, cap, rfl, hc1, hc2, _, hA⟩ := hv
  go_enter Try.func182, Try.ntmps182
  go_wp2
  go_loopw [3, 4] (fun u i wr => ∃ j : Nat, j ≤ xs.length ∧ i = .int .i64 ((xs.length : Int) - 1 - j) ∧ Ints wr w.heap.size u (invW (xs.drop (xs.length - j))) ∧ Below w.heap.size w wr) (fun _ i _ => (intOf i + 1).toNat)
  case atStart => exact ⟨0, Nat.zero_le _, by go_num, by simpa [invW] using Ints.empty w, below_alloc _ _⟩
  case round =>
    obtain ⟨j, hj, rfl, hI, hB⟩ := hrel
    have hS := hB.size
    by_cases hlt : j < xs.length
    · rcases hA with hA | ⟨b, off, rfl, hA⟩
      · omega
      have hc := hA (xs.length - 1 - j) (by omega)
      have hcell : wr.cell? ⟨b, off + (xs.length - 1 - j), none⟩ = some (.int .i64 (xs.getD (xs.length - 1 - j) 0)) := (hB.cell (World.block_lt_of_cell? w _ hc)).trans hc
      obtain ⟨hx1, hx2⟩ := hsm.getD (xs.length - 1 - j) (by omega)
      have HS := Lib.hid (invW_succ xs j hlt)
      have hl : (invW (xs.drop (xs.length - j))).length ≤ 1000000000 := by rw [invW_length]; simp; omega
      have hpos : (0 : Int) ≤ (xs.length : Int) - 1 - j := by omega
      clear hA hc
      generalize xs.getD (xs.length - 1 - j) 0 = x at *
      generalize invW (xs.drop (xs.length - j)) = R at *
      go_wp2_with (at_builtin; refine wp_app1 _ rfl _ _ rfl w.heap.size i0 Try.underlying22 hi hz0 hz1 hz2 _ _ rfl hI (-x) rfl hl (by omega) ?_)
      intro v' w1 hI1 hG hB1
      go_wp2
      go_roundw
      case rel => exact ⟨j + 1, by omega, by go_num, by rw [HS.out]; exact hI1, hB.trans hB1⟩
      case measure => simp [intOf]; omega
    · obtain rfl : j = xs.length := by omega
      rw [Nat.sub_self, List.drop_zero] at hI
      have hneg : ¬ ((0 : Int) ≤ (xs.length : Int) - 1 - xs.length) := by omega
      go_wp2
      go_ret
      exact ⟨_, rfl, hI, hB⟩
--== codes
def codeOf (k : Int) (ws : List (List Int)) : Int := if inB k 0 6 then (if ws.all (wordB k) then 0 else 1) else 2
theorem codeOf_out {k : Int} (ws : List (List Int)) (h : inB k 0 6 = false) : codeOf k ws = 2 := by simp [codeOf, h]
theorem codeOf_in {k : Int} (ws : List (List Int)) (h : inB k 0 6 = true) : codeOf k ws = if ws.all (wordB k) then 0 else 1 := by simp [codeOf, h]
theorem wordB_nil (k : Int) : wordB k [] = true := by simp [wordB]
theorem codeOf_nil (k : Int) (xs : List Int) : codeOf k [xs, []] = codeOf k [xs] := by simp [codeOf, wordB_nil]
theorem codeOf_zero {k : Int} {ws : List (List Int)} (h : codeOf k ws = 0) : (0 ≤ k ∧ k ≤ 6) ∧ ∀ x ∈ ws, wordB k x = true := by
  unfold codeOf at h
  split at h
  · rename_i hk
    refine ⟨inB_true.1 hk, ?_⟩
    split at h
    · rename_i ha; exact List.all_eq_true.1 ha
    · simp at h
  · simp at h
theorem wordB_small {k : Int} {xs : List Int} (hk : k ≤ 6) (h : wordB k xs = true) : Small xs ∧ xs.length ≤ 64 := by
  simp only [wordB, Bool.and_eq_true, decide_eq_true_eq, List.all_eq_true] at h
  refine ⟨fun x hx => ?_, h.2⟩
  have := h.1 x hx
  simp only [letB, Bool.and_eq_true] at this
  have := inB_true.1 this.2
  omega
--== impl.wordCode
set_option maxHeartbeats 1000000 in
theorem i_wordCode (k : Int) (v : Value) (ws : List (List Int)) (w : World) (hv : Rd2 w v ws) :
    Calls Try.prog 116 #[.int .i64 k, v] w fun e w' => e = .returned (.int .i64 (codeOf k ws)) ∧ w = w' := by
  obtain ⟨ao, cap, rfl, hc1, hc2, hA⟩ := hv.open
  by_cases hk : inB k 0 6 = true
  · have HC := Lib.hid (codeOf_in ws hk)
    obtain ⟨hk0, hk1⟩ := inB_true.1 hk
    go_enter Try.func116, Try.ntmps116
    go_wp2_with (go_at_call 120; refine (i_gensFit _ _).mono ?_; rintro e w' ⟨rfl, rfl⟩)
    go_loop [12] (fun i => ∃ j : Nat, j ≤ ws.length ∧ i = .int .i64 j ∧ ∀ t, t < j → wordB k (ws.getD t []) = true) (fun i => ws.length - (intOf i).toNat)
    case atStart => exact ⟨0, Nat.zero_le _, rfl, fun t ht => by omega⟩
    case round =>
      obtain ⟨j, hj, rfl, hall⟩ := hrel
      have HA := Lib.hid hall
      clear hall
      by_cases hlt : j < ws.length
      · rcases hA with hA | ⟨b, off, rfl, hA⟩
        · omega
        obtain ⟨r, hcell, hr⟩ := hA j hlt
        clear hA
        by_cases hw : wordB k (ws.getD j []) = true
        · have HX : Hid (∀ t, t < j + 1 → wordB k (ws.getD t []) = true) := fun t ht => by
            by_cases h : t < j
            · exact HA.out t h
            · obtain rfl : t = j := by omega
              exact hw
          clear HA
          generalize ws.getD j [] = x at hw hr
          go_wp2_with (go_at_call 121; refine (i_wordFits _ _ x _ (by omega) (by omega) hr).mono ?_; rintro e w' ⟨rfl, rfl⟩)
          go_round
          case rel => exact ⟨j + 1, by omega, by go_num, HX.out⟩
          case measure => simp [intOf]; omega
        · have hw' : wordB k (ws.getD j []) = false := by simpa using hw
          have HW := Lib.hid (show (if ws.all (wordB k) then (0 : Int) else 1) = 1 from if_neg (by
            intro h
            exact hw (List.all_eq_true.1 h _ (by simp [List.getD, hlt]))))
          clear hw HA
          generalize ws.getD j [] = x at hw' hr
          go_wp2_with (go_at_call 121; refine (i_wordFits _ _ x _ (by omega) (by omega) hr).mono ?_; rintro e w' ⟨rfl, rfl⟩)
          go_ret
          exact ⟨ret_int (by rw [HC.out, HW.out]), rfl⟩
      · obtain rfl : j = ws.length := by omega
        have HW := Lib.hid (show (if ws.all (wordB k) then (0 : Int) else 1) = 0 from if_pos (List.all_eq_true.2 fun x hx => by
          obtain ⟨t, ht, rfl⟩ := List.mem_iff_getElem.1 hx
          have := HA.out t ht
          simpa [List.getD, ht] using this))
        go_wp2
        go_ret
        exact ⟨ret_int (by rw [HC.out, HW.out]), rfl⟩
  · have hk' : inB k 0 6 = false := by simpa using hk
    have HC := Lib.hid (codeOf_out ws hk')
    clear hk
    go_enter Try.func116, Try.ntmps116
    go_wp2_with (go_at_call 120; refine (i_gensFit _ _).mono ?_; rintro e w' ⟨rfl, rfl⟩)
    go_ret
    exact ⟨ret_int HC.out.symm, rfl⟩
--== spec.l06Code
set_option maxHeartbeats 1000000 in
theorem s_l06Code (k : Int) (va vb : Value) (xs ys : List Int) (w : World) (ha : Rd w va xs) (hb : Rd w vb ys) :
    Calls Try.prog 118 #[.int .i64 k, va, vb] w fun e w' => e = .returned (.int .i64 (codeOf k [xs, ys])) ∧ w = w' := by
  by_cases hk : inB k 0 6 = true
  · obtain ⟨hk0, hk1⟩ := inB_true.1 hk
    by_cases h1 : wordB k xs = true
    · by_cases h2 : wordB k ys = true
      · go_enter Try.func118, Try.ntmps118
        go_wp2_with (first | (go_at_call 89; refine (s_l01In _ _ _ _).mono ?_; rintro e w' ⟨rfl, rfl⟩))
        refine (s_l06Word _ _ xs _ (by omega) (by omega) ha).mono ?_; rintro e w' ⟨rfl, rfl⟩
        go_wp2_with fail
        refine (s_l06Word _ _ ys _ (by omega) (by omega) hb).mono ?_; rintro e w' ⟨rfl, rfl⟩
        go_wp2_with fail
        go_ret
        exact ⟨ret_int (by simp [codeOf, hk, h1, h2]), rfl⟩
      · have h2' : wordB k ys = false := by simpa using h2
        clear h2
        go_enter Try.func118, Try.ntmps118
        go_wp2_with (first | (go_at_call 89; refine (s_l01In _ _ _ _).mono ?_; rintro e w' ⟨rfl, rfl⟩))
        refine (s_l06Word _ _ xs _ (by omega) (by omega) ha).mono ?_; rintro e w' ⟨rfl, rfl⟩
        go_wp2_with fail
        refine (s_l06Word _ _ ys _ (by omega) (by omega) hb).mono ?_; rintro e w' ⟨rfl, rfl⟩
        go_wp2_with fail
        go_ret
        exact ⟨ret_int (by simp [codeOf, hk, h1, h2']), rfl⟩
    · have h1' : wordB k xs = false := by simpa using h1
      clear h1
      go_enter Try.func118, Try.ntmps118
      go_wp2_with (first | (go_at_call 89; refine (s_l01In _ _ _ _).mono ?_; rintro e w' ⟨rfl, rfl⟩))
      refine (s_l06Word _ _ xs _ (by omega) (by omega) ha).mono ?_; rintro e w' ⟨rfl, rfl⟩
      go_wp2_with fail
      go_ret
      exact ⟨ret_int (by simp [codeOf, hk, h1']), rfl⟩
  · have hk' : inB k 0 6 = false := by simpa using hk
    clear hk
    go_enter Try.func118, Try.ntmps118
    go_wp2_with (first | (go_at_call 89; refine (s_l01In _ _ _ _).mono ?_; rintro e w' ⟨rfl, rfl⟩))
    go_ret
    exact ⟨ret_int (by simp [codeOf, hk']), rfl⟩
--== short
def shortW (xs : List Int) : List Int := if xs.length ≤ 64 then xs else []
def codeS (xs : List Int) : Int := if xs.length ≤ 64 then 0 else 3
theorem codeS_in {xs : List Int} (h : xs.length ≤ 64) : codeS xs = 0 ∧ shortW xs = xs := by simp [codeS, shortW, h]
theorem codeS_out {xs : List Int} (h : ¬ xs.length ≤ 64) : codeS xs = 3 ∧ shortW xs = [] := by simp [codeS, shortW, h]
--== impl.shortWord
theorem i_shortWord (B : Nat) (v : Value) (xs : List Int) (w : World) (hv : Ints w B v xs) :
    Calls Try.prog 123 #[v] w fun e w' => (∃ v', e = .returned (.tuple #[v', .int .i64 (codeS xs)]) ∧ Ints w B v' (shortW xs)) ∧ w = w' := by
  obtain ⟨ao, cap, rfl, _, _⟩ := hv.form
  by_cases h : xs.length ≤ 64
  · have HC := Lib.hid (codeS_in h)
    go_enter Try.func123, Try.ntmps123
    go_wp2
    go_ret2
    exact ⟨⟨_, ret_tup HC.out.1.symm, by rw [HC.out.2]; exact hv⟩, rfl⟩
  · have HC := Lib.hid (codeS_out h)
    go_enter Try.func123, Try.ntmps123
    go_wp2
    go_ret2
    exact ⟨⟨_, ret_tup HC.out.1.symm, by rw [HC.out.2]; exact Ints.nil _ _⟩, rfl⟩
--== spec.l06Result
theorem s_l06Result (v : Value) (xs : List Int) (w : World) (hv : Rd w v xs) (hs : xs.length ≤ 100000000) (hsm : Small xs) :
    Calls Try.prog 127 #[v] w (RetInts2 w (shortW (redW xs)) (codeS (redW xs))) := by
  go_enter Try.func127, Try.ntmps127
  go_wp2_with fail
  refine (s_l06Reduce _ xs _ hv hs hsm).mono ?_
  rintro e w1 ⟨v1, rfl, hI, hB⟩
  obtain ⟨ao, cap, rfl, _, _⟩ := hI.form
  by_cases h : (redW xs).length ≤ 64
  · have HC := Lib.hid (codeS_in h)
    go_wp2_with fail
    go_ret2
    exact ⟨_, ret_tup HC.out.1.symm, by rw [HC.out.2]; exact hI, hB⟩
  · have HC := Lib.hid (codeS_out h)
    go_wp2_with fail
    go_ret2
    exact ⟨_, ret_tup HC.out.1.symm, by rw [HC.out.2]; exact Ints.nil _ _, hB⟩
end Go.Proofs.Ytjnnjnhmecidmaa
