/-
  Exponent vectors, the order, normal words.
  The order of a presentation; normal words, exported.
  Appends to what a call owns, as runs: a row to a list of rows, an element to a presentation.
  Presentations whose relations are trivial.
  Texts of words.
  The text of a presentation: what it is; letters and digits; rows of strings.
  Parts of texts: cut at a byte, at a text; relations of a presentation and their texts (plain).
  Reading words.
  The text of a word is parsed to the word (plain part).
-/
import Derived.Test.YtiikoappknejgaaZb
import Derived.Deep.RegionLaw
import Derived.Deep.OwnRows
import Derived.Laws.Cover3
import Derived.Test.YtiikoappknejgaaZa
import Derived.PlainAid
import Derived.Laws.BytesArg
import Derived.Laws.IdiomStrings
import Derived.Lib.Join
import Derived.Lib.ItoaNum
import Derived.Lib.Split
namespace Go.Proofs.Ytiikoappknejgaa
set_option linter.unusedVariables false
set_option linter.unusedSimpArgs false
set_option maxRecDepth 100000
open Go.RowKit

/-! ### normal words -/
/-- small exponents -/
def SmE (xs : List Int) : Prop := xs.length ≤ 10 ∧ ∀ j, j < xs.length → ∃ m : Nat, xs.getD j 0 = (m : Int) ∧ m ≤ 10
def nwTo (xs : List Int) (i : Nat) : List Int := ((List.range i).flatMap (lwAt xs)).map fun (k : Nat) => (k : Int) + 1
def nwL (xs : List Int) : List Int := (lw xs).map fun (k : Nat) => (k : Int) + 1
theorem nwTo_all (xs : List Int) : nwTo xs xs.length = nwL xs := rfl
theorem nwTo_zero (xs : List Int) : nwTo xs 0 = [] := rfl
theorem nwTo_succ (xs : List Int) (i m : Nat) (h : xs.getD i 0 = (m : Int)) : nwTo xs (i + 1) = nwTo xs i ++ List.replicate m ((i : Int) + 1) := by
  unfold nwTo
  rw [List.range_succ, List.flatMap_append, List.map_append]
  simp only [List.flatMap_cons, List.flatMap_nil, List.append_nil, lwAt, h, Int.toNat_natCast, List.map_replicate]
theorem nwTo_len {xs : List Int} (h : SmE xs) (i : Nat) (hi : i ≤ xs.length) : (nwTo xs i).length ≤ 10 * i := by
  induction i with
  | zero => simp [nwTo]
  | succ i ih =>
    obtain ⟨m, hm, hle⟩ := h.2 i (by omega)
    rw [nwTo_succ xs i m hm, List.length_append, List.length_replicate]
    have := ih (by omega)
    omega
theorem nwL_len {xs : List Int} (h : SmE xs) : (nwL xs).length ≤ 100 := by
  have := nwTo_len h xs.length (Nat.le_refl _)
  have := h.1
  rw [← nwTo_all]; omega
theorem nwL_small {xs : List Int} (h : SmE xs) : Small (nwL xs) := by
  intro x hx
  unfold nwL at hx
  obtain ⟨k, hk, rfl⟩ := List.mem_map.1 hx
  have := mem_lw hk
  have := h.1
  omega
theorem rep_snoc (l : List Int) (k : Nat) (x : Int) : l ++ List.replicate k x ++ [x] = l ++ List.replicate (k + 1) x := by
  rw [List.append_assoc, ← List.replicate_succ']
theorem tailB_sm {os v : List Int} {z : Nat} (ho : primesB os = true) (hn : os.length ≤ 6) (h : tailB os v z = true) : SmE v := by
  obtain ⟨hl, h1⟩ := tailB_true h
  refine ⟨by omega, fun j hj => ?_⟩
  have h2 := h1 j (by omega)
  have h3 := primesB_at ho (getD_mem (xs := os) (k := j) (by omega))
  exact ⟨(v.getD j 0).toNat, by omega, by omega⟩
--== impl.normalWord
set_option maxHeartbeats 2000000 in
theorem i_normalWord (v : Value) (xs : List Int) (w : World) (hv : Rd w v xs) (hs : SmE xs) :
    Calls Try.prog 34 #[v] w (RetInts w (nwL xs)) := by
  obtain ⟨i0, hi, hz0, hz1, hz2⟩ := info_parts Try.info2
  obtain ⟨ao, cap, rfl, hc1, hc2, _, hA⟩ := hv
  have h10 := hs.1
  have HS := Lib.hid hs
  clear hs
  go_enter Try.func34, Try.ntmps34
  go_wp2
  go_loopw [3, 8] (fun u i wr => ∃ j : Nat, j ≤ xs.length ∧ i = .int .i64 j ∧ Ints wr w.heap.size u (nwTo xs j) ∧ Below w.heap.size w wr) (fun _ i _ => xs.length - (intOf i).toNat)
  case atStart => exact ⟨0, Nat.zero_le _, rfl, Ints.nil _ _, Below.refl _ _⟩
  case round =>
    obtain ⟨j, hj, rfl, hI, hB⟩ := hrel
    by_cases hlt : j < xs.length
    · rcases hA with hA | ⟨b, off, rfl, hA⟩
      · omega
      have hc := hA j hlt
      have hcell : wr.cell? ⟨b, off + j, none⟩ = some (.int .i64 (xs.getD j 0)) := (hB.cell (World.block_lt_of_cell? w _ hc)).trans hc
      obtain ⟨m, hm, hm10⟩ := HS.out.2 j hlt
      have HN := Lib.hid (nwTo_succ xs j m hm)
      have hlen := nwTo_len HS.out j hj
      rw [hm] at hcell
      clear hc hm
      generalize nwTo xs j = R at *
      go_wp2_with fail
      go_loopw [3, 14] (fun u i wr2 => ∃ k : Nat, k ≤ m ∧ i = .int .i64 k ∧ Ints wr2 w.heap.size u (R ++ List.replicate k ((j : Int) + 1)) ∧ Below w.heap.size w wr2) (fun _ i _ => m - (intOf i).toNat)
      case atStart => exact ⟨0, Nat.zero_le _, rfl, by simpa using hI, hB⟩
      case round =>
        clear hI hB hcell
        obtain ⟨k, hk, rfl, hI, hB⟩ := hrel
        have hS := hB.size
        by_cases hkm : k < m
        · have hl : (R ++ List.replicate k ((j : Int) + 1)).length ≤ 1000000000 := by simp; omega
          have HR := Lib.hid (rep_snoc R k ((j : Int) + 1))
          generalize R ++ List.replicate k ((j : Int) + 1) = Q at *
          go_wp2_with (at_builtin; refine wp_app1 _ rfl _ _ rfl w.heap.size i0 Try.underlying24 hi hz0 hz1 hz2 _ _ rfl hI ((j : Int) + 1) rfl hl (by omega) ?_)
          intro v' w1 hI1 hG hB1
          go_wp2
          go_roundw
          case rel => exact ⟨k + 1, by omega, by go_num, by rw [← HR.out]; exact hI1, hB.trans hB1⟩
          case measure => simp [intOf]; omega
        · obtain rfl : k = m := by omega
          go_wp2_with fail
          go_roundw
          case rel => exact ⟨j + 1, by omega, by go_num, by rw [HN.out]; exact hI, hB⟩
          case measure => simp [intOf]; omega
    · obtain rfl : j = xs.length := by omega
      rw [nwTo_all] at hI
      go_wp2
      go_ret
      exact ⟨_, rfl, hI, hB⟩
--== spec.l07Word
set_option maxHeartbeats 2000000 in
theorem s_l07Word (v : Value) (xs : List Int) (w : World) (hv : Rd w v xs) (hs : SmE xs) :
    Calls Try.prog 64 #[v] w (RetInts w (nwL xs)) := by
  obtain ⟨i0, hi, hz0, hz1, hz2⟩ := info_parts Try.info2
  obtain ⟨ao, cap, rfl, hc1, hc2, _, hA⟩ := hv
  have h10 := hs.1
  have HS := Lib.hid hs
  clear hs
  go_enter Try.func64, Try.ntmps64
  go_wp2
  go_loopw [3, 4] (fun u i wr => ∃ j : Nat, j ≤ xs.length ∧ i = .int .i64 j ∧ Ints wr w.heap.size u (nwTo xs j) ∧ Below w.heap.size w wr) (fun _ i _ => xs.length - (intOf i).toNat)
  case atStart => exact ⟨0, Nat.zero_le _, rfl, Ints.empty w, below_alloc _ _⟩
  case round =>
    obtain ⟨j, hj, rfl, hI, hB⟩ := hrel
    by_cases hlt : j < xs.length
    · rcases hA with hA | ⟨b, off, rfl, hA⟩
      · omega
      have hc := hA j hlt
      obtain ⟨m, hm, hm10⟩ := HS.out.2 j hlt
      rw [hm] at hc
      have HN := Lib.hid (nwTo_succ xs j m hm)
      have hlen := nwTo_len HS.out j hj
      clear hm
      generalize nwTo xs j = R at *
      go_wp2_with fail
      go_loopw [3, 5] (fun u i wr2 => ∃ k : Nat, k ≤ m ∧ i = .int .i64 k ∧ Ints wr2 w.heap.size u (R ++ List.replicate k ((j : Int) + 1)) ∧ Below w.heap.size w wr2) (fun _ i _ => m - (intOf i).toNat)
      case atStart => exact ⟨0, Nat.zero_le _, rfl, by simpa using hI, hB⟩
      case round =>
        clear hI hB
        obtain ⟨k, hk, rfl, hI, hB⟩ := hrel
        have hS := hB.size
        have hcell : wr.cell? ⟨b, off + j, none⟩ = some (.int .i64 (m : Int)) := (hB.cell (World.block_lt_of_cell? w _ hc)).trans hc
        by_cases hkm : k < m
        · have hl : (R ++ List.replicate k ((j : Int) + 1)).length ≤ 1000000000 := by simp; omega
          have HR := Lib.hid (rep_snoc R k ((j : Int) + 1))
          generalize R ++ List.replicate k ((j : Int) + 1) = Q at *
          go_wp2_with (at_builtin; refine wp_app1 _ rfl _ _ rfl w.heap.size i0 Try.underlying24 hi hz0 hz1 hz2 _ _ rfl hI ((j : Int) + 1) rfl hl (by omega) ?_)
          intro v' w1 hI1 hG hB1
          go_wp2
          go_roundw
          case rel => exact ⟨k + 1, by omega, by go_num, by rw [← HR.out]; exact hI1, hB.trans hB1⟩
          case measure => simp [intOf]; omega
        · obtain rfl : k = m := by omega
          go_wp2_with fail
          go_roundw
          case rel => exact ⟨j + 1, by omega, by go_num, by rw [HN.out]; exact hI, hB⟩
          case measure => simp [intOf]; omega
    · obtain rfl : j = xs.length := by omega
      rw [nwTo_all] at hI
      go_wp2
      go_ret
      exact ⟨_, rfl, hI, hB⟩
--== exponent vectors
def exvB (p : Pres) (xs : List Int) : Bool := validB p && tailB p.orders xs 0
theorem exvB_no {p : Pres} {xs : List Int} (h : validB p = false) : exvB p xs = false := by simp [exvB, h]
theorem exvB_yes {p : Pres} {xs : List Int} (h : validB p = true) : exvB p xs = tailB p.orders xs 0 := by simp [exvB, h]
theorem exvB_true {p : Pres} {xs : List Int} (h : exvB p xs = true) : ValidP p ∧ tailB p.orders xs 0 = true := by
  simp only [exvB, Bool.and_eq_true] at h; exact ⟨validB_true.1 h.1, h.2⟩
theorem exvB_sm {p : Pres} {xs : List Int} (h : exvB p xs = true) : SmE xs := by
  obtain ⟨h1, h2⟩ := exvB_true h
  exact tailB_sm (ordB_true h1.ord).1 h1.n6 h2
--== impl.IsExponentVector
set_option maxHeartbeats 2000000 in
theorem i_IsExponentVector (v1 v2 v3 : Value) (p : Pres) (v : Value) (xs : List Int) (w : World) (hp : RdP w v1 v2 v3 p) (hv : Rd w v xs) :
    Calls Try.prog 33 #[.agg #[v1, v2, v3], v] w (RetV w (.bool (exvB p xs))) := by
  have HP := Lib.hid hp
  obtain ⟨ao1, cap1, rfl, _, _⟩ := hp.1.form
  obtain ⟨ao2, cap2, rfl, _, _⟩ := hp.2.1.form
  obtain ⟨ao3, cap3, rfl, _, _⟩ := hp.2.2.form
  have g0 := below_alloc w (Obj.cells #[Value.slice ao1 p.orders.length cap1, Value.slice ao2 p.powers.length cap2, Value.slice ao3 p.conj.length cap3] 28)
  clear hp
  by_cases hV : validB p = true
  case neg =>
    have hV' : validB p = false := by simpa using hV
    have HX := Lib.hid (exvB_no (xs := xs) hV')
    clear hV
    go_enter Try.func33, Try.ntmps33
    go_wp2_with fail
    refine (i_IsPresentation _ _ _ p _ (HP.out.below g0)).mono ?_
    rintro e w1 ⟨rfl, hb⟩
    have g1 := below_size g0 hb
    rw [hV']
    clear hb hV'
    go_wp2_with fail
    go_ret
    exact ⟨ret_bool HX.out.symm, g1⟩
  have HX := Lib.hid (exvB_yes (xs := xs) hV)
  have HO := Lib.hid (ordB_true (validB_true.1 hV).ord).1
  go_enter Try.func33, Try.ntmps33
  go_wp2_with fail
  refine (i_IsPresentation _ _ _ p _ (HP.out.below g0)).mono ?_
  rintro e w1 ⟨rfl, hb⟩
  have g1 := below_size g0 hb
  have PT : PtrP w1 (.pointer (some ⟨w.heap.size, 0, none⟩)) p := PtrP.below ⟨_, _, _, _, rfl, by simp [go_sem], by simp [go_sem], by simp [go_sem], HP.out.below g0⟩ hb
  rw [hV]
  clear hb hV
  go_wp2_with fail
  refine (i_isExponents _ _ p xs _ PT (hv.below g1) HO.out).mono ?_
  rintro e w' ⟨rfl, rfl⟩
  go_wp2_with fail
  go_ret
  exact ⟨ret_bool HX.out.symm, g1⟩
end Go.Proofs.Ytiikoappknejgaa
namespace Go.Proofs.Ytiikoappknejgaa
set_option linter.unusedVariables false
set_option linter.unusedSimpArgs false
set_option maxRecDepth 100000
open Go.RowKit

def okI (c : Bool) (n : Int) : Int := if c then n else 0
def cod1 (c : Bool) : Int := if c then 0 else 1
def okX (c : Bool) (xs : List Int) : List Int := if c then xs else []
theorem ret_ii {a b c d : Int} (h : a = b) (h' : c = d) : Ending.returned (.tuple #[.int .i64 a, .int .i64 c]) = .returned (.tuple #[.int .i64 b, .int .i64 d]) := by rw [h, h']
--== impl.NormalWord
set_option maxHeartbeats 2000000 in
theorem i_NormalWord (v1 v2 v3 : Value) (p : Pres) (v : Value) (xs : List Int) (w : World) (hp : RdP w v1 v2 v3 p) (hv : Rd w v xs) :
    Calls Try.prog 15 #[.agg #[v1, v2, v3], v] w (RetInts2 w (okX (exvB p xs) (nwL xs)) (cod1 (exvB p xs))) := by
  have HP := Lib.hid hp
  obtain ⟨ao1, cap1, rfl, _, _⟩ := hp.1.form
  obtain ⟨ao2, cap2, rfl, _, _⟩ := hp.2.1.form
  obtain ⟨ao3, cap3, rfl, _, _⟩ := hp.2.2.form
  have g0 := below_alloc w (Obj.cells #[Value.slice ao1 p.orders.length cap1, Value.slice ao2 p.powers.length cap2, Value.slice ao3 p.conj.length cap3] 28)
  clear hp
  by_cases hV : exvB p xs = true
  case neg =>
    have hV' : exvB p xs = false := by simpa using hV
    rw [hV']
    go_enter Try.func15, Try.ntmps15
    go_wp2_with fail
    refine (i_IsExponentVector _ _ _ p _ xs _ (HP.out.below g0) (hv.below g0)).mono ?_
    rintro e w1 ⟨rfl, hb⟩
    have g1 := below_size g0 hb
    rw [hV']
    clear hb hV' hV
    go_wp2_with fail
    go_ret2
    exact ⟨_, rfl, Ints.nil _ _, g1⟩
  have HS := Lib.hid (exvB_sm hV)
  rw [hV]
  go_enter Try.func15, Try.ntmps15
  go_wp2_with fail
  refine (i_IsExponentVector _ _ _ p _ xs _ (HP.out.below g0) (hv.below g0)).mono ?_
  rintro e w1 ⟨rfl, hb⟩
  have g1 := below_size g0 hb
  rw [hV]
  clear hb hV
  go_wp2_with fail
  refine (i_normalWord _ xs _ (hv.below g1) HS.out).mono ?_
  rintro e w2 ⟨v2, rfl, hI, hb⟩
  have g2 := below_size g1 hb
  have s1 := g1.size
  clear hb
  go_wp2_with fail
  go_ret2
  exact ⟨_, rfl, hI.mono s1, g2⟩
end Go.Proofs.Ytiikoappknejgaa
namespace Go.Proofs.Ytiikoappknejgaa
set_option linter.unusedVariables false
set_option linter.unusedSimpArgs false
set_option maxRecDepth 100000
open Go.RowKit

section
variable {α : Type} {e : TypeId} {O : World → (Nat → Prop) → Value → List α → Prop}
/-- blocks behind an append: the old ones, the element's, new ones -/
def aft (S T : Nat → Prop) (w w' : World) : Nat → Prop := fun k => (S k ∨ T k) ∧ k < w.heap.size ∨ w.heap.size ≤ k ∧ k < w'.heap.size
theorem run_appO (hO : Local O) {P : Program} (w : World) (t ty : TypeId) (i : TypeInfo) (ht : P.underlying t = some (.slice e)) (hi : P.info? e = some i) (hz : i.zero = some (.slice none 0 0)) (hsize : i.size = 1) (hby : i.bytes = 24)
    (S T' : Nat → Prop) (v : Value) (ds : List (List α)) (hown : ON e O w S v ds) (y : Value) (d : List α) (hy : O w T' y d) (hone : y.oneCell' = true) (hd : ∀ k, T' k → ¬ S k) (hn : ds.length ≤ 1000000000) :
    ∃ v' w', (Builtin.append_ #[t, t] ty #[v, .slice (some ⟨w.heap.size, 0, none⟩) 1 1]).run P (w.alloc (.cells #[y] e)) = .ok v' w' ∧ ON e O w' (aft S T' w w') v' (ds ++ [d]) ∧ ChgS (fun k => S k ∧ v.ownBlock = some k) w w' := by
  obtain ⟨vs, T, k1, k2, k3, k4, k5⟩ := hown
  have hvl : vs.length = ds.length := by have := k1.1; omega
  obtain ⟨v', w', hr, g1, g2, g3⟩ := run_app (w.alloc (.cells #[y] e)) 0 t ty e i (.slice none 0 0) 24 ht hi hz hsize hby rfl v ds.length vs (World.ownsRow.alloc k1 _) (.slice (some ⟨w.heap.size, 0, none⟩) 1 1) [y]
    ⟨_, 1, rfl, by simp, by simp, fun h => by (cases h), .inr ⟨w.heap.size, 0, rfl, fun j hj => by
      obtain rfl : j = 0 := by simpa using hj
      simp⟩⟩
    (fun u hu => by simp at hu; subst hu; exact hone) (by simp [maxLen]; omega) (by simp; omega) (Nat.zero_le _)
  refine ⟨v', w', hr, ?_⟩
  have hG : Grew w w' v v' := ⟨⟨g2.os, g2.tape, g2.output, by have := g2.size; simp at this; omega, fun k hk hne => (g2.block k (by simp; omega) hne).trans (Below.heap_alloc w _ k hk)⟩, fun g hg => (g3 g hg).imp id fun h => by simp at h; omega⟩
  have hsz := hG.grown.size
  have keep : ∀ (A : Nat → Prop) (u : Value) (c : List α), O w A u c → (∀ g, v.ownBlock = some g → ¬ A g) → O w' (fun k => A k ∧ k < w.heap.size) u c := fun A u c hu hd' =>
    hO.loc (hO.cut hu) fun k hk1 hk3 => hG.grown.block k hk3 fun e => hd' k e.symm hk1.1
  have hvT : ∀ g, v.ownBlock = some g → ¬ T' g := fun g hg ht => hd g ht (k2 g hg)
  refine ⟨⟨vs ++ [y], fun j => if j = ds.length then fun k => T' k ∧ k < w.heap.size else fun k => T j k ∧ k < w.heap.size, by rw [List.length_append]; exact g1, fun g hg => ?_, fun j hj => ?_, fun j hj g hg => ?_, fun j k hj hk hjk => ?_⟩, ChgS.of_grew hG fun g hg => ⟨k2 g hg, hg⟩⟩
  · have hlt := own_lt g1 hg
    rcases hG.moved g hg with hm | hm
    · exact .inl ⟨.inl (k2 g hm), (own_lt k1 hm).2⟩
    · exact .inr ⟨hm, hlt.2⟩
  · rw [List.length_append] at hj
    simp only [List.length_cons, List.length_nil] at hj
    by_cases hjl : j = ds.length
    · subst hjl
      simp only [if_true]
      rw [gapp_last, ← hvl, gapp_last]
      exact ⟨fun k hk => .inl ⟨.inr hk.1, hk.2⟩, keep _ _ _ hy hvT⟩
    · simp only [if_neg hjl]
      rw [gapp_left _ _ _ _ (by omega), gapp_left _ _ _ _ (by omega)]
      have := k3 j (by omega)
      exact ⟨fun k hk => .inl ⟨.inl (this.1 k hk.1), hk.2⟩, keep _ _ _ this.2 fun g hg => k4 j (by omega) g hg⟩
  · rw [List.length_append] at hj
    simp only [List.length_cons, List.length_nil] at hj
    by_cases hjl : j = ds.length
    · simp only [if_pos hjl]
      rcases hG.moved g hg with hm | hm
      · exact fun h => hvT g hm h.1
      · exact fun h => by have := h.2; omega
    · simp only [if_neg hjl]
      rcases hG.moved g hg with hm | hm
      · exact fun h => k4 j (by omega) g hm h.1
      · exact fun h => by have := h.2; omega
  · rw [List.length_append] at hj hk
    simp only [List.length_cons, List.length_nil] at hj hk
    by_cases hjn : j = ds.length
    · by_cases hkl : k = ds.length
      · omega
      · simp only [if_pos hjn, if_neg hkl]; exact fun x hx hx' => hd x hx.1 ((k3 k (by omega)).1 x hx'.1)
    · by_cases hkl : k = ds.length
      · simp only [if_neg hjn, if_pos hkl]; exact fun x hx hx' => hd x hx'.1 ((k3 j (by omega)).1 x hx.1)
      · simp only [if_neg hjn, if_neg hkl]; exact fun x hx hx' => k5 j k (by omega) (by omega) hjk x hx.1 hx'.1
end

/-- an append whose run is known -/
theorem wp_of_run {P : Program} (w : World) {ops : Array Oper} {rest : List Oper} {o : Oper} {a : Act} {Q : Exit → Act → World → Prop} (hgd : o.guard = none) (s x : Operand) (t : TypeId)
    (ho : o.op = .call { callee := .builtin .append, args := #[s, x], argTypes := #[t, t] }) (v vx : Value) (hs : a.eval s = v) (hx : a.eval x = vx) (v' : Value) (w' : World)
    (hr : (Builtin.append_ #[t, t] o.type #[v, vx]).run P w = .ok v' w') (h : wpList P ops Q rest (a.put o.dst v') w') : wpList P ops Q (o :: rest) a w := by
  refine wpList_plain hgd fun K hK' => ?_
  unfold Oper.wp execOp
  simp only [ho, resolve, invoke, builtin, Sem.run_bind, Sem.run_pure, Result.andThen_ok, List.map_toArray, List.map_cons, List.map_nil, hs, hx, hr]
  exact hK' _ _ h
theorem step_of_run {P : Program} {w : World} {ops : Array Oper} {o : Oper} {a : Act} {K : Act → World → Prop} {Q : Exit → Act → World → Prop} {E : Prop} (hgd : o.guard = none) (s x : Operand) (t : TypeId)
    (ho : o.op = .call { callee := .builtin .append, args := #[s, x], argTypes := #[t, t] }) (v vx : Value) (hs : a.eval s = v) (hx : a.eval x = vx) (v' : Value) (w' : World)
    (hr : (Builtin.append_ #[t, t] o.type #[v, vx]).run P w = .ok v' w') (h : K (a.put o.dst v') w') : if Region.wanted o (yielded ops a.tmps) = true then Oper.wp P o a w K Q else E := by
  rw [if_pos (by simp [Region.wanted, hgd])]
  unfold Oper.wp execOp
  simp only [ho, resolve, invoke, builtin, Sem.run_bind, Sem.run_pure, Result.andThen_ok, List.map_toArray, List.map_cons, List.map_nil, hs, hx, hr]
  exact h
theorem run_eql_nil {P : Program} (w : World) (t e : TypeId) (a : Option Addr) (l c : Nat) (h : P.underlying t = some (.slice e)) : (binOp .eql t (.slice a l c) (.slice none 0 0)).run P w = .ok (.bool a.isNone) w := by
  have h1 : (Op.equal t (.slice a l c) (.slice none 0 0)).run P w = .ok a.isNone w := Go.run_equal_slice_nil w t e a l c h
  simp only [binOp]
  simp [h1]

/-- a presentation that grows by a power -/
theorem run_appPow (w : World) (ty : TypeId) (S T : Nat → Prop) (v1 v2 v3 : Value) (p : Pres) (h : OP w S v1 v2 v3 p) (y : Value) (d : List Int) (hy : O1 w T y d) (hone : y.oneCell' = true) (hd : ∀ k, T k → ¬ S k) (hn : p.powers.length ≤ 1000000000) :
    ∃ v2' w', (Builtin.append_ #[25, 25] ty #[v2, .slice (some ⟨w.heap.size, 0, none⟩) 1 1]).run Try.prog (w.alloc (.cells #[y] 24)) = .ok v2' w' ∧ OP w' (aft S T w w') v1 v2' v3 ⟨p.orders, p.powers ++ [d], p.conj⟩ ∧ ChgS S w w' := by
  obtain ⟨i0, hi, hz0, hz1, hz2⟩ := info_parts Try.infoRow
  obtain ⟨A, B, C, h1, h2, h3, s1, s2, s3, d1, d2, d3⟩ := h
  obtain ⟨v2', w', hr, hO, hC⟩ := run_appO local_O1 w 25 ty i0 Try.underlying25 hi hz0 hz1 hz2 B T v2 p.powers h2 y d hy hone (fun k hk hb => hd k hk (s2 k hb)) hn
  have hC2 : ChgS B w w' := hC.sub fun k hk => hk.1
  refine ⟨v2', w', hr, ⟨fun k => A k ∧ k < w.heap.size, aft B T w w', fun k => C k ∧ k < w.heap.size, local_O1.chg (local_O1.cut h1) hC2 fun k hk => d1 k hk.1, hO, local_O3.chg (local_O3.cut h3) hC2 fun k hk hb => d3 k hb hk.1, ?_, ?_, ?_, ?_, ?_, ?_⟩, hC2.sub s2⟩
  · exact fun k hk => .inl ⟨.inl (s1 k hk.1), hk.2⟩
  · rintro k (⟨hk | hk, hl⟩ | hk)
    · exact .inl ⟨.inl (s2 k hk), hl⟩
    · exact .inl ⟨.inr hk, hl⟩
    · exact .inr hk
  · exact fun k hk => .inl ⟨.inl (s3 k hk.1), hk.2⟩
  · rintro k ⟨hk, hl⟩ (⟨hb | hb, _⟩ | hb)
    · exact d1 k hk hb
    · exact hd k hb (s1 k hk)
    · omega
  · exact fun k hk hc => d2 k hk.1 hc.1
  · rintro k (⟨hb | hb, _⟩ | hb) ⟨hc, hl⟩
    · exact d3 k hb hc
    · exact hd k hb (s3 k hc)
    · omega
theorem run_appConj (w : World) (ty : TypeId) (S T : Nat → Prop) (v1 v2 v3 : Value) (p : Pres) (h : OP w S v1 v2 v3 p) (y : Value) (d : List (List Int)) (hy : O2 w T y d) (hone : y.oneCell' = true) (hd : ∀ k, T k → ¬ S k) (hn : p.conj.length ≤ 1000000000) :
    ∃ v3' w', (Builtin.append_ #[26, 26] ty #[v3, .slice (some ⟨w.heap.size, 0, none⟩) 1 1]).run Try.prog (w.alloc (.cells #[y] 25)) = .ok v3' w' ∧ OP w' (aft S T w w') v1 v2 v3' ⟨p.orders, p.powers, p.conj ++ [d]⟩ ∧ ChgS S w w' := by
  obtain ⟨i0, hi, hz0, hz1, hz2⟩ := info_parts Try.infoRow2
  obtain ⟨A, B, C, h1, h2, h3, s1, s2, s3, d1, d2, d3⟩ := h
  obtain ⟨v3', w', hr, hO, hC⟩ := run_appO local_O2 w 26 ty i0 Try.underlying26 hi hz0 hz1 hz2 C T v3 p.conj h3 y d hy hone (fun k hk hb => hd k hk (s3 k hb)) hn
  have hC2 : ChgS C w w' := hC.sub fun k hk => hk.1
  refine ⟨v3', w', hr, ⟨fun k => A k ∧ k < w.heap.size, fun k => B k ∧ k < w.heap.size, aft C T w w', local_O1.chg (local_O1.cut h1) hC2 fun k hk => d2 k hk.1, local_O2.chg (local_O2.cut h2) hC2 fun k hk => d3 k hk.1, hO, ?_, ?_, ?_, ?_, ?_, ?_⟩, hC2.sub s3⟩
  · exact fun k hk => .inl ⟨.inl (s1 k hk.1), hk.2⟩
  · exact fun k hk => .inl ⟨.inl (s2 k hk.1), hk.2⟩
  · rintro k (⟨hk | hk, hl⟩ | hk)
    · exact .inl ⟨.inl (s3 k hk), hl⟩
    · exact .inl ⟨.inr hk, hl⟩
    · exact .inr hk
  · exact fun k hk hc => d1 k hk.1 hc.1
  · rintro k ⟨hk, hl⟩ (⟨hb | hb, _⟩ | hb)
    · exact d2 k hk hb
    · exact hd k hb (s1 k hk)
    · omega
  · rintro k ⟨hk, hl⟩ (⟨hb | hb, _⟩ | hb)
    · exact d3 k hk hb
    · exact hd k hb (s2 k hk)
    · omega
/-- a row of zeros that 'make' has laid -/
theorem made_own (w : World) (n : Nat) (hn : n ≤ 1000000) : Ints (w.alloc (.cells (madeCells #[.int .i64 0] n) 2)) w.heap.size (.slice (some ⟨w.heap.size, 0, none⟩) n n) (List.replicate n 0) := by
  have hm := madeInts n
  rw [Nat.mul_one] at hm
  have hm' : (madeCells #[.int .i64 0] n).toList = (List.replicate n (0 : Int)).map (Value.int .i64) := hm
  have hsz : (madeCells #[.int .i64 0] n).size = n := by
    have := congrArg List.length hm'
    simpa using this
  refine ⟨by simp, .inr ⟨w.heap.size, n, madeCells #[.int .i64 0] n, by simp, Nat.le_refl _, heap_alloc_new w _, by simp, by unfold maxLen; omega, by omega, ?_⟩⟩
  rw [hm']; simp
theorem run_makeInts (n : Nat) (hn : n ≤ 1000000) (w : World) : (Instr.makeSlice 24 (.int .i64 (n : Int)) (.int .i64 (n : Int))).run Try.prog w = .ok (.slice (some ⟨w.heap.size, 0, none⟩) n n) (w.alloc (.cells (madeCells #[.int .i64 0] n) 2)) :=
  run_make_row' 24 2 (.int .i64 0) 8 Try.underlying24 Try.info2 rfl .i64 .i64 n (by omega) (by omega) w

/-! ### three cells of a presentation -/
def Bx (w : World) (b : Nat) (v1 v2 v3 : Value) : Prop := w.heap[b]? = some (.cells #[v1, v2, v3] 28 (0, 0))
section
variable {w w' : World} {b : Nat} {v1 v2 v3 : Value}
theorem Bx.lt (h : Bx w b v1 v2 v3) : b < w.heap.size := (Array.getElem?_eq_some_iff.1 h).1
theorem Bx.c0 (h : Bx w b v1 v2 v3) : w.cell? ⟨b, 0, none⟩ = some v1 := by unfold Bx at h; simp [World.cell?, h]
theorem Bx.c1 (h : Bx w b v1 v2 v3) : w.cell? ⟨b, 1, none⟩ = some v2 := by unfold Bx at h; simp [World.cell?, h]
theorem Bx.c2 (h : Bx w b v1 v2 v3) : w.cell? ⟨b, 2, none⟩ = some v3 := by unfold Bx at h; simp [World.cell?, h]
theorem Bx.fr (h : Bx w b v1 v2 v3) (o : Nat) : w.frozen? ⟨b, o, none⟩ = false := by unfold Bx at h; simp [World.frozen?, h]
theorem Bx.chg {S : Nat → Prop} (h : Bx w b v1 v2 v3) (hc : ChgS S w w') (hS : ¬ S b) : Bx w' b v1 v2 v3 := (hc.block b h.lt hS).trans h
theorem Bx.below {B : Nat} (h : Bx w b v1 v2 v3) (hb : Below B w w') (hB : b < B) : Bx w' b v1 v2 v3 := (hb.block b hB).trans h
theorem Bx.drew (h : Bx w b v1 v2 v3) : Bx w.drew b v1 v2 v3 := h
theorem Bx.new (w : World) (v1 v2 v3 : Value) : Bx (w.alloc (.cells #[v1, v2, v3] 28)) w.heap.size v1 v2 v3 := heap_alloc_new w _
theorem Bx.old (h : Bx w b v1 v2 v3) (o : Obj) : Bx (w.alloc o) b v1 v2 v3 := (Below.heap_alloc w o b h.lt).trans h
theorem Bx.other (h : Bx w b v1 v2 v3) {c : Nat} (hc : b ≠ c) (o : Nat) (y : Value) : Bx (w.setCell ⟨c, o, none⟩ y) b v1 v2 v3 := (heap_setCell_other w ⟨c, o, none⟩ b y hc).trans h
theorem Bx.set0 (h : Bx w b v1 v2 v3) (y : Value) : Bx (w.setCell ⟨b, 0, none⟩ y) b y v2 v3 := by
  have := heap_setCell_same w b 0 #[v1, v2, v3] _ y h
  simpa [Bx] using this
theorem Bx.set1 (h : Bx w b v1 v2 v3) (y : Value) : Bx (w.setCell ⟨b, 1, none⟩ y) b v1 y v3 := by
  have := heap_setCell_same w b 1 #[v1, v2, v3] _ y h
  simpa [Bx] using this
theorem Bx.set2 (h : Bx w b v1 v2 v3) (y : Value) : Bx (w.setCell ⟨b, 2, none⟩ y) b v1 v2 y := by
  have := heap_setCell_same w b 2 #[v1, v2, v3] _ y h
  simpa [Bx] using this
theorem Bx.ptr {p : Pres} (h : Bx w b v1 v2 v3) (hr : RdP w v1 v2 v3 p) : PtrP w (.pointer (some ⟨b, 0, none⟩)) p := ⟨b, v1, v2, v3, rfl, h.c0, h.c1, h.c2, hr⟩
end
theorem OP.sets {w : World} {S : Nat → Prop} {v1 v2 v3 : Value} {p : Pres} (h : OP w S v1 v2 v3 p) {b : Nat} (hb : ¬ S b) (o : Nat) (y : Value) : OP (w.setCell ⟨b, o, none⟩ y) S v1 v2 v3 p := h.chg (ChgS.setCell w b o y) fun k hk e => hb (e ▸ hk)
theorem OP.sub {w : World} {S S' : Nat → Prop} {v1 v2 v3 : Value} {p : Pres} (h : OP w S v1 v2 v3 p) (hs : ∀ k, k < w.heap.size → S k → S' k) : OP w S' v1 v2 v3 p := by
  obtain ⟨A, B, C, h1, h2, h3, s1, s2, s3, d1, d2, d3⟩ := h
  exact ⟨fun k => A k ∧ k < w.heap.size, fun k => B k ∧ k < w.heap.size, fun k => C k ∧ k < w.heap.size, local_O1.cut h1, local_O2.cut h2, local_O3.cut h3, fun k hk => hs k hk.2 (s1 k hk.1), fun k hk => hs k hk.2 (s2 k hk.1), fun k hk => hs k hk.2 (s3 k hk.1),
    fun k hk hk' => d1 k hk.1 hk'.1, fun k hk hk' => d2 k hk.1 hk'.1, fun k hk hk' => d3 k hk.1 hk'.1⟩
theorem OP.nil {w : World} {S : Nat → Prop} {v1 : Value} {os : List Int} (h : O1 w S v1 os) : OP w S v1 (.slice none 0 0) (.slice none 0 0) ⟨os, [], []⟩ :=
  ⟨S, fun _ => False, fun _ => False, h, local_O2.nil _ _, local_O3.nil _ _, fun _ hk => hk, fun _ hk => hk.elim, fun _ hk => hk.elim, fun _ _ h => h, fun _ _ h => h, fun _ _ h => h⟩
theorem OP.forms {w : World} {S : Nat → Prop} {v1 v2 v3 : Value} {p : Pres} (h : OP w S v1 v2 v3 p) :
    (∃ a c, v1 = .slice a p.orders.length c) ∧ (∃ a c, v2 = .slice a p.powers.length c) ∧ ∃ a c, v3 = .slice a p.conj.length c := by
  obtain ⟨r1, r2, r3⟩ := h.rd
  obtain ⟨a1, c1, e1, _⟩ := r1.form
  obtain ⟨a2, c2, e2, _⟩ := r2.form
  obtain ⟨a3, c3, e3, _⟩ := r3.form
  exact ⟨⟨a1, c1, e1⟩, ⟨a2, c2, e2⟩, a3, c3, e3⟩
theorem OP.formsN {w : World} {S : Nat → Prop} {v1 v2 v3 : Value} {p : Pres} (h : OP w S v1 v2 v3 p) {n1 n2 n3 : Nat} (e1 : p.orders.length = n1) (e2 : p.powers.length = n2) (e3 : p.conj.length = n3) :
    (∃ a c, v1 = .slice a n1 c) ∧ (∃ a c, v2 = .slice a n2 c) ∧ ∃ a c, v3 = .slice a n3 c := by
  subst e1 e2 e3; exact h.forms
theorem Below.toChg {B : Nat} {w w' : World} (h : Below B w w') : ChgS (fun k => B ≤ k) w w' := ⟨h.os, h.tape, h.output, h.size, fun k _ hn => h.block k (by omega)⟩
/-- the ways through a region meet in one state -/
def MeetAt (a' : Act) (w' : World) : Exit → Act → World → Prop
  | .normal, a, w => a = a' ∧ w = w'
  | _, _, _ => False
theorem via {P : Program} {c : Code} {Q : Exit → Act → World → Prop} {a : Act} {w : World} (a' : Act) (w' : World) (h : Code.wp P c (MeetAt a' w') a w) (hQ : Q .normal a' w') : Code.wp P c Q a w :=
  Code.wp_mono (fun e b u hb => by
    cases e with
    | normal => obtain ⟨rfl, rfl⟩ := hb; exact hQ
    | _ => exact hb.elim) h
--== plain (forms)
/-- how often each letter occurs -/
def vecS (e : List Int) (l : Int) : List Int := e.set (l - 1).toNat (e.getD (l - 1).toNat 0 + 1)
theorem gset_selfI (l : List Int) (i : Nat) (x : Int) (h : i < l.length) : (l.set i x).getD i 0 = x := by simp [List.getD, h]
theorem gset_neI (l : List Int) (i j : Nat) (x : Int) (h : ¬ i = j) : (l.set i x).getD j 0 = l.getD j 0 := by simp [List.getD, List.getElem?_set, h]
def vecL (n : Nat) (w : List Int) : List Int := w.foldl vecS (List.replicate n 0)
theorem vecL_len (n : Nat) (w : List Int) : (vecL n w).length = n := by
  refine snoc_ind (P := fun w => (vecL n w).length = n) (by simp [vecL]) ?_ w
  intro w l ih
  simp only [vecL, List.foldl_append, List.foldl_cons, List.foldl_nil] at ih ⊢
  unfold vecS
  rw [List.length_set]; exact ih
theorem vecL_succ (n : Nat) (w : List Int) (j : Nat) (h : j < w.length) : vecL n (w.take (j + 1)) = vecS (vecL n (w.take j)) (w.getD j 0) := by
  rw [take_snoc w j 0 h, vecL, List.foldl_append]; rfl
theorem vecL_bd (n : Nat) (w : List Int) (t : Nat) : 0 ≤ (vecL n w).getD t 0 ∧ (vecL n w).getD t 0 ≤ w.length := by
  refine snoc_ind (P := fun w => 0 ≤ (vecL n w).getD t 0 ∧ (vecL n w).getD t 0 ≤ w.length) (by simp [vecL, List.getD, List.getElem?_replicate]; split <;> simp) ?_ w
  intro w l ih
  have e : vecL n (w ++ [l]) = vecS (vecL n w) l := by simp [vecL, List.foldl_append]
  rw [e, List.length_append, List.length_cons, List.length_nil]
  unfold vecS
  by_cases ht : (l - 1).toNat = t
  · subst ht
    by_cases hlt : (l - 1).toNat < (vecL n w).length
    · have := gset_selfI (vecL n w) (l - 1).toNat ((vecL n w).getD (l - 1).toNat 0 + 1) hlt
      rw [this]; omega
    · rw [List.set_eq_of_length_le (by omega)]; omega
  · rw [gset_neI _ _ _ _ ht]; omega
theorem nam (x : Int) : ∃ y, Hid (x = y) := ⟨x, rfl⟩
theorem Rd.formN {w : World} {v : Value} {xs : List Int} (h : Rd w v xs) {n : Nat} (e : xs.length = n) : ∃ ao cap, v = .slice ao n cap ∧ n ≤ cap ∧ cap ≤ 9223372036854775807 := by subst e; exact h.form
theorem Rd2.formN {w : World} {v : Value} {xs : List (List Int)} (h : Rd2 w v xs) {n : Nat} (e : xs.length = n) : ∃ ao cap, v = .slice ao n cap ∧ n ≤ cap ∧ cap ≤ 9223372036854775807 := by subst e; exact h.form
theorem Rd3.formN {w : World} {v : Value} {xs : List (List (List Int))} (h : Rd3 w v xs) {n : Nat} (e : xs.length = n) : ∃ ao cap, v = .slice ao n cap ∧ n ≤ cap ∧ cap ≤ 9223372036854775807 := by subst e; exact h.form
theorem conj_at {w : World} {p : Pres} (hV : ValidP p) {v : Value} (h3 : Rd3 w v p.conj) {i : Nat} (hi : i < p.n) :
    ∃ b o q, v = .slice (some ⟨b, o, none⟩) p.n q ∧ ∃ a z, w.cell? ⟨b, o + i, none⟩ = some (.slice a (p.n - (i + 1)) z) ∧
      ∀ k, i + 1 + k < p.n → ∃ b' o', a = some ⟨b', o', none⟩ ∧ ∃ a5 z5, w.cell? ⟨b', o' + k, none⟩ = some (.slice a5 p.n z5) ∧ Rd w (.slice a5 p.n z5) (p.C i (i + 1 + k)) := by
  obtain ⟨a3, q3, rfl, _, _⟩ := h3.formN hV.cl
  have hl3 := hV.cl
  obtain ⟨b3, o3, r3, rfl, k3, RC⟩ := h3.at (j := i) (by omega)
  have hcl := hV.clen i hi
  obtain ⟨a, z, rfl, _, _⟩ := RC.formN (n := p.n - (i + 1)) (by omega)
  refine ⟨b3, o3, q3, rfl, a, z, k3, fun k hk => ?_⟩
  obtain ⟨b4, o4, r4, rfl, k4, RC4⟩ := RC.at (j := k) (by omega)
  have he : (p.conj.getD i []).getD k [] = p.C i (i + 1 + k) := by unfold Pres.C; rw [show i + 1 + k - i - 1 = k by omega]
  have hVI := hV.valid.cj i (i + 1 + k) (by omega) hk
  rw [he] at RC4
  obtain ⟨a5, z5, rfl, _, _⟩ := RC4.formN (n := p.n) hVI.len
  exact ⟨b4, o4, rfl, a5, z5, k4, RC4⟩
theorem pow_at {w : World} {p : Pres} (hV : ValidP p) {v : Value} (h2 : Rd2 w v p.powers) (hn : 0 < p.n) :
    ∃ b o q, v = .slice (some ⟨b, o, none⟩) p.n q ∧ ∀ j, j < p.n → ∃ a z, w.cell? ⟨b, o + j, none⟩ = some (.slice a p.n z) ∧ Rd w (.slice a p.n z) (p.P j) := by
  obtain ⟨a2, q2, rfl, _, _⟩ := h2.formN hV.pl
  have hl2 := hV.pl
  obtain ⟨b2, o2, _, rfl, _, _⟩ := h2.at (j := 0) (by omega)
  refine ⟨b2, o2, q2, rfl, fun j hj => ?_⟩
  obtain ⟨b2', o2', r2, he, k2, RP⟩ := h2.at (j := j) (by omega)
  cases he
  obtain ⟨a, z, rfl, _, _⟩ := RP.formN (n := p.n) (hV.valid.pow j hj).len
  exact ⟨a, z, k2, RP⟩
theorem ord_at {w : World} {p : Pres} {v : Value} (h1 : Rd w v p.orders) (hn : 0 < p.n) :
    ∃ b o q, v = .slice (some ⟨b, o, none⟩) p.n q ∧ ∀ j, j < p.n → w.cell? ⟨b, o + j, none⟩ = some (.int .i64 (p.r j)) := by
  obtain ⟨a1, q1, rfl, _, _⟩ := h1.formN (n := p.n) rfl
  obtain ⟨b1, o1, rfl, _⟩ := h1.at (j := 0) hn
  refine ⟨b1, o1, q1, rfl, fun j hj => ?_⟩
  obtain ⟨b', o', he, k⟩ := h1.at (j := j) hj
  cases he; exact k
def PosM (n : Nat) (w : List Int) : Prop := ∀ l ∈ w, 1 ≤ l ∧ l ≤ (n : Int)
theorem nwL_pos {n : Nat} {v : List Int} (h : v.length = n) : PosM n (nwL v) := fun l hl => by
  unfold nwL at hl
  rw [List.mem_map] at hl
  obtain ⟨k, hk, rfl⟩ := hl
  have := (mem_lw hk).1
  omega
theorem VI.sm {p : Pres} {i : Nat} {v : List Int} (hV : ValidP p) (h : VI p i v) : SmE v := ⟨by rw [h.len]; have := hV.n6; omega, fun j hj => by
  rw [h.len] at hj
  have h1 := h.lo j hj
  have h2 := h.hi j hj
  have h3 := hV.rk j hj
  exact ⟨(v.getD j 0).toNat, by omega, by omega⟩⟩
--== spec.l01Zero
set_option maxHeartbeats 400000 in
theorem s_l01Zero (v : Value) (xs : List Int) (w : World) (hv : Rd w v xs) :
    Calls Try.prog 92 #[v] w fun e w' => e = .returned (.bool (zeroB xs)) ∧ w = w' := by
  obtain ⟨ao, cap, rfl, hc1, hc2, _, hA⟩ := hv
  go_enter Try.func92, Try.ntmps92
  go_wp2
  go_loop [3] (fun i => ∃ j : Nat, j ≤ xs.length ∧ i = .int .i64 j ∧ ∀ t, t < j → xs.getD t 0 = 0) (fun i => xs.length - (intOf i).toNat)
  case atStart => exact ⟨0, Nat.zero_le _, rfl, fun t ht => by omega⟩
  case round =>
    obtain ⟨j, hj, rfl, hall⟩ := hrel
    have HA := Lib.hid hall
    clear hall
    by_cases hlt : j < xs.length
    · rcases hA with hA | ⟨b, off, rfl, hA⟩
      · omega
      have hcell := hA j hlt
      clear hA
      generalize hx : xs.getD j 0 = x at hcell
      have HX := Lib.hid hx
      clear hx
      by_cases h0 : x = 0
      · subst h0
        go_wp2
        go_round
        case rel => exact ⟨j + 1, by omega, by go_num, fun t ht => by
          by_cases h : t = j
          · subst h; exact HX.out
          · exact HA.out t (by omega)⟩
        case measure => simp [intOf]; omega
      · have h1 : (x == 0) = false := by simpa using h0
        have h2 : (x != 0) = true := by simpa using h0
        have HN := Lib.hid h0
        clear h0
        go_wp2
        go_ret
        exact ⟨ret_bool (zeroB_false hlt (by rw [HX.out]; exact HN.out)).symm, rfl⟩
    · obtain rfl : j = xs.length := by omega
      go_wp2
      go_ret
      exact ⟨ret_bool (zeroB_true.2 HA.out).symm, rfl⟩
--== spec.l01Same
set_option maxHeartbeats 1000000 in
theorem s_l01Same (va vb : Value) (xs ys : List Int) (w : World) (ha : Rd w va xs) (hb : Rd w vb ys) (hl : xs.length = ys.length) :
    Calls Try.prog 95 #[va, vb] w (RetQuiet w (.bool (decide (xs = ys)))) := by
  obtain ⟨n, hn⟩ : ∃ n, ys.length = n := ⟨_, rfl⟩
  obtain ⟨ao, ca, rfl, ha1, ha2⟩ := ha.formN (hl.trans hn)
  obtain ⟨bo, cb, rfl, hb1, hb2⟩ := hb.formN hn
  have HA := Lib.hid ha
  have HB := Lib.hid hb
  have HN := Lib.hid hn
  have HL := Lib.hid (hl.trans hn)
  clear hl hn ha hb
  go_enter Try.func95, Try.ntmps95
  go_wp2_with fail
  go_loopw [5] (fun i wr => ∃ k : Nat, k ≤ n ∧ i = .int .i64 k ∧ (∀ j, j < k → xs.getD j 0 = ys.getD j 0) ∧ ∃ q, wr = w.drewN q) (fun i _ => n - (intOf i).toNat)
  case atStart => exact ⟨0, Nat.zero_le _, rfl, fun j h => by omega, 0, rfl⟩
  case round =>
    obtain ⟨k, hk, rfl, hpre, q, hq⟩ := hrel
    have HP := Lib.hid hpre
    have HQ := Lib.hid hq
    clear hpre hq
    by_cases hlt : k < n
    · obtain ⟨b, o, rfl, c1⟩ := HA.out.at (show k < xs.length by rw [HL.out]; exact hlt)
      obtain ⟨b', o', rfl, c2⟩ := HB.out.at (show k < ys.length by rw [HN.out]; exact hlt)
      have c1' : wr.cell? ⟨b, o + k, none⟩ = some (.int .i64 (xs.getD k 0)) := by rw [HQ.out]; exact c1
      have c2' : wr.cell? ⟨b', o' + k, none⟩ = some (.int .i64 (ys.getD k 0)) := by rw [HQ.out]; exact c2
      obtain ⟨x, Hx⟩ := nam (xs.getD k 0)
      obtain ⟨y, Hy⟩ := nam (ys.getD k 0)
      rw [Hx.out] at c1'
      rw [Hy.out] at c2'
      clear c1 c2
      by_cases hxy : x = y
      · have D1 : (x != y) = false := by simpa using hxy
        have HXY := Lib.hid hxy
        clear hxy
        go_wp2_with fail
        go_quiet (fail)
        go_wp2_with fail
        go_roundw
        case rel => exact ⟨k + 1, by omega, by go_num, fun j hj => by
          by_cases h : j = k
          · subst h; rw [Hx.out, Hy.out]; exact HXY.out
          · exact HP.out j (by omega), by rw [HQ.out]; exact drewN_drewN _ _ _⟩
        case measure => simp [intOf]; omega
      · have D1 : (x != y) = true := by simpa using hxy
        have HXY : Hid (decide (xs = ys) = false) := by
          show _ = _; rw [decide_eq_false]; intro h; apply hxy; rw [← Hx.out, ← Hy.out, h]
        clear hxy
        go_wp2_with fail
        go_quiet (fail)
        go_wp2_with fail
        go_ret
        exact ⟨ret_bool HXY.out.symm, by rw [HQ.out]; exact drewN_drewN _ _ _⟩
    · obtain rfl : k = n := by omega
      have HE : Hid (decide (xs = ys) = true) := by
        show _ = _; rw [decide_eq_true_iff]; exact all_eq (HL.out.trans HN.out.symm) fun j hj => HP.out j (by rw [HL.out] at hj; exact hj)
      go_wp2_with fail
      go_ret
      exact ⟨ret_bool HE.out.symm, q, HQ.out⟩
--== end
end Go.Proofs.Ytiikoappknejgaa
namespace Go.Proofs.Ytiikoappknejgaa
set_option linter.unusedVariables false
set_option linter.unusedSimpArgs false
set_option maxRecDepth 100000
open Go.RowKit

--== slices.Clone
set_option maxHeartbeats 1000000 in
theorem f_Clone (v : Value) (xs : List Int) (w : World) (hv : Rd w v xs) (hs : xs.length ≤ 1000000) :
    Calls Try.prog 24 #[v] w (RetInts w xs) := by
  obtain ⟨i0, hi, hz0, hz1, hz2⟩ := info_parts Try.info2
  have hR := Lib.hid hv
  obtain ⟨ao, cap, rfl, hc1, hc2, h0, hA⟩ := hv
  cases ao with
  | none =>
    have hx : xs = [] := by have := h0 rfl; exact List.eq_nil_of_length_eq_zero (by omega)
    subst hx
    have hc : cap = 0 := h0 rfl
    subst hc
    have hq : ∀ w : World, (binOp .eql 24 (.slice none 0 0) (.slice none 0 0)).run Try.prog w = .ok (.bool true) w := fun w => run_eql_nil w _ _ _ _ _ Try.underlying24
    go_enter Try.func24, Try.ntmps24
    go_wp2
    go_ret
    exact ⟨_, rfl, Ints.nil _ _, Below.refl _ _⟩
  | some ad =>
    clear h0
    have hq : ∀ w : World, (binOp .eql 24 (.slice (some ad) xs.length cap) (.slice none 0 0)).run Try.prog w = .ok (.bool false) w := fun w => run_eql_nil w _ _ _ _ _ Try.underlying24
    go_enter Try.func24, Try.ntmps24
    go_wp2_with (at_builtin; refine wp_appN _ rfl _ _ rfl w.heap.size i0 Try.underlying24 hi hz0 hz1 hz2 _ [] rfl (Ints.empty w) _ xs rfl (hR.out.below (below_alloc _ _)) (by simp) (by omega) (by simp) ?_)
    intro v' w1 hI hG hB
    go_wp2
    go_ret
    exact ⟨_, rfl, by simpa using hI, (below_alloc _ _).trans hB⟩
--== units
def unitL (n k : Nat) : List Int := (List.replicate n (0 : Int)).set k 1
theorem unitL_length (n k : Nat) : (unitL n k).length = n := by simp [unitL]
--== spec.l07Unit
set_option maxHeartbeats 1000000 in
theorem s_l07Unit (n k : Nat) (w : World) (hk : k < n) (hn : n ≤ 1000) :
    Calls Try.prog 78 #[.int .i64 n, .int .i64 k] w (RetInts w (unitL n k)) := by
  obtain ⟨i0, hi, hz0, hz1, hz2⟩ := info_parts Try.info2
  go_enter Try.func78, Try.ntmps78
  go_wp2_with (at_make; refine wp_mkInts _ rfl _ _ rfl i0 Try.underlying24 hi hz0 hz1 hz2 _ _ _ _ n rfl rfl rfl rfl (by omega) ?_)
  intro w1 hI hB hlt
  obtain ⟨g, cap, he, _, _, _, _, hcell, hfr⟩ := hI.open (by simp; omega)
  simp only [List.length_replicate, Value.slice.injEq, Option.some.injEq, Addr.mk.injEq, and_true, true_and] at he hcell
  obtain ⟨rfl, rfl⟩ := he
  have hc := hcell k hk
  have hf := hfr k
  have hset := hI.set (by simp) k 1
  clear hcell hfr
  go_wp2
  go_ret
  refine ⟨_, rfl, ?_, hB.trans (hset.2.below (Nat.le_refl _) (by omega))⟩
  exact hset.1
--== trivial relations
def zrow (n : Nat) : List Int := List.replicate n 0
def trivPow (n j : Nat) : List (List Int) := List.replicate j (zrow n)
def trivRow (n i m : Nat) : List (List Int) := (List.range m).map fun t => unitL n (i + 1 + t)
def trivConj (n j : Nat) : List (List (List Int)) := (List.range j).map fun i => trivRow n i (n - 1 - i)
def trivP (os : List Int) (j : Nat) : Pres := ⟨os, trivPow os.length j, trivConj os.length j⟩
def triv (os : List Int) : Pres := trivP os os.length
theorem trivPow_succ (n j : Nat) : trivPow n (j + 1) = trivPow n j ++ [zrow n] := by unfold trivPow; rw [List.replicate_succ']
theorem trivConj_succ (n j : Nat) : trivConj n (j + 1) = trivConj n j ++ [trivRow n j (n - 1 - j)] := by simp [trivConj, List.range_succ]
theorem trivRow_succ (n i m : Nat) : trivRow n i (m + 1) = trivRow n i m ++ [unitL n (i + 1 + m)] := by simp [trivRow, List.range_succ]
theorem trivPow_len (n j : Nat) : (trivPow n j).length = j := by simp [trivPow]
theorem trivConj_len (n j : Nat) : (trivConj n j).length = j := by simp [trivConj]
theorem trivRow_len (n i m : Nat) : (trivRow n i m).length = m := by simp [trivRow]
--== the local presentation
/-- what stands at each round's head -/
def TInv (os : List Int) (w : World) (b2 b4 : Nat) (j : Nat) (wr : World) : Prop :=
  ∃ v1 v2 v3, Bx wr b2 (.slice none 0 0) (.slice none 0 0) (.slice none 0 0) ∧ Bx wr b4 v1 v2 v3 ∧ OP wr (fun k => w.heap.size ≤ k ∧ k ≠ b2 ∧ k ≠ b4) v1 v2 v3 (trivP os j) ∧ Below w.heap.size w wr
theorem ON.empty {α : Type} {e : TypeId} {O : World → (Nat → Prop) → Value → List α → Prop} (w : World) : ON e O (w.alloc (.cells #[] e)) (fun k => k = w.heap.size) (.slice (some ⟨w.heap.size, 0, none⟩) 0 0) [] :=
  ⟨[], fun _ _ => False, ⟨rfl, .inr ⟨w.heap.size, 0, #[], by simp, Nat.zero_le _, heap_alloc_new w _, by simp, by simp [maxLen], by simp, by simp⟩⟩, fun g hg => by simp [Value.ownBlock] at hg; exact hg.symm, fun i hi => by simp at hi, fun i hi => by simp at hi, fun i j hi => by simp at hi⟩
--== spec.l07Trivial
set_option maxHeartbeats 8000000 in
theorem s_l07Trivial (v : Value) (os : List Int) (w : World) (hv : Rd w v os) (hs : os.length ≤ 100) :
    Calls Try.prog 67 #[v] w (RetP w (triv os)) := by
  obtain ⟨i0, hi, hz0, hz1, hz2⟩ := info_parts Try.infoRow
  obtain ⟨ao, cap, rfl, hc1, hc2⟩ := hv.form
  have HV := Lib.hid hv
  have g0 := below_alloc w (Obj.cells #[Value.slice none 0 0, Value.slice none 0 0, Value.slice none 0 0] 28)
  have x0 := Bx.new w (Value.slice none 0 0) (Value.slice none 0 0) (Value.slice none 0 0)
  go_enter Try.func67, Try.ntmps67
  go_wp2_with fail
  refine (s_l01Own _ os _ (HV.out.below g0) (by omega)).mono ?_
  rintro e w1 ⟨u1, rfl, hI, hB⟩
  have z1 : w.heap.size < w1.heap.size := by have := hB.size; simp at this; omega
  have g1 := below_size g0 hB
  have x1 := x0.below hB (by simp)
  have j1 := hI.o1
  obtain ⟨a1, q1, rfl, _, _⟩ := hI.form
  clear hI hB hv
  go_wp2_with fail
  have I0 : TInv os w w.heap.size w1.heap.size 0 (w1.alloc (Obj.cells #[Value.slice a1 os.length q1, Value.slice none 0 0, Value.slice none 0 0] 28)) :=
    ⟨_, _, _, x1.old _, Bx.new w1 _ _ _, OP.sub (OP.nil (local_O1.below j1 (below_alloc _ _))) (fun k _ hk => ⟨by have := hk.1; simp at this; omega, by have := hk.1; simp at this; omega, by have := hk.2; omega⟩), g1.alloc (by omega) _⟩
  clear x0 x1 j1 g0 g1
  go_loopw [5] (fun i wr => ∃ j : Nat, j ≤ os.length ∧ i = .int .i64 j ∧ TInv os w w.heap.size w1.heap.size j wr) (fun i _ => os.length - (intOf i).toNat)
  case atStart => exact ⟨0, Nat.zero_le _, rfl, I0⟩
  case round =>
    clear I0
    obtain ⟨j, hj, rfl, v1, v2, v3, X2, X4, hP, hW⟩ := hrel
    have l2 := X2.lt
    have l4 := X4.lt
    obtain ⟨⟨a1', c1', rfl⟩, ⟨a2, c2, rfl⟩, ⟨a3, c3, rfl⟩⟩ := hP.formsN (n1 := os.length) (n2 := j) (n3 := j) rfl (trivPow_len _ _) (trivConj_len _ _)
    have m0 := X4.c0
    have m1 := X4.c1
    have m2 := X4.c2
    by_cases hlt : j < os.length
    · have hmk := run_makeInts os.length (by omega)
      have hPz : OP (wr.drew.alloc (.cells (madeCells #[.int .i64 0] os.length) 2)) (fun k => w.heap.size ≤ k ∧ k < wr.heap.size ∧ k ≠ w.heap.size ∧ k ≠ w1.heap.size) _ _ _ _ := OP.below (OP.sub (w := wr.drew) hP fun k hk h => ⟨h.1, hk, h.2.1, h.2.2⟩) (below_alloc wr.drew _)
      have hy : O1 (wr.drew.alloc (.cells (madeCells #[.int .i64 0] os.length) 2)) (fun k => k = wr.heap.size) (.slice (some ⟨wr.heap.size, 0, none⟩) os.length os.length) (zrow os.length) := ⟨(made_own wr.drew os.length (by omega)).mono (Nat.zero_le _), fun g hg => by simp [Value.ownBlock] at hg; exact hg.symm⟩
      obtain ⟨v2', w3, hr, hP3, hC3⟩ := run_appPow _ 25 _ _ _ _ _ _ hPz _ _ hy rfl (fun k hk h => by omega) (by rw [show (trivP os j).powers.length = j from trivPow_len _ _]; omega)
      have s3 : wr.heap.size < w3.heap.size := by have := hC3.size; simp at this; omega
      have X23 : Bx w3 w.heap.size _ _ _ := (X2.drew.old _).chg hC3 (fun h => h.2.2.1 rfl)
      have X43 : Bx w3 w1.heap.size _ _ _ := (X4.drew.old _).chg hC3 (fun h => h.2.2.2 rfl)
      have W3 : Below w.heap.size w w3 := ((hW.drew).alloc (by have := hW.size; simpa using this) _).trans (hC3.below (fun k hk => hk.1) (by have := hW.size; simp; omega))
      obtain ⟨_, ⟨a2', c2', rfl⟩, _⟩ := hP3.formsN (n1 := os.length) (n2 := j + 1) (n3 := j) rfl (by simp [trivP, trivPow_len]) (trivConj_len _ _)
      have n1 := X43.c1
      have fz := X43.fr 1
      have hP3' : OP w3 (fun k => (w.heap.size ≤ k ∧ k ≠ w.heap.size ∧ k ≠ w1.heap.size)) _ _ _ _ := OP.sub hP3 (fun k hk h => by
        rcases h with ⟨h | h, h2⟩ | ⟨h, _⟩
        · exact ⟨h.1, h.2.2.1, h.2.2.2⟩
        · have : k = wr.heap.size := h; exact ⟨by omega, by omega, by omega⟩
        · simp at h; exact ⟨by omega, by omega, by omega⟩)
      clear hPz hy hP hC3 hP3
      go_wp2_with fail
      apply via
      case h =>
        go_region_law (refine step_of_run rfl (.tmp 19) (.tmp 22) 25 rfl _ _ (by simp [Act.eval, Act.put]) (by simp [Act.eval, Act.put]) _ _ hr ?_)
        all_goals exact ⟨rfl, rfl⟩
      have X24 := X23.other (c := w1.heap.size) (by omega) 1 (Value.slice a2' (j + 1) c2')
      have X44 := X43.set1 (Value.slice a2' (j + 1) c2')
      have hP4 := OP.sets hP3' (b := w1.heap.size) (fun h => h.2.2 rfl) 1 (Value.slice a2' (j + 1) c2')
      have W4 := W3.setCell (p := ⟨w1.heap.size, 1, none⟩) (by show _ ≤ w1.heap.size; omega) (Value.slice a2' (j + 1) c2')
      clear m0 m1 m2 X2 X4 l2 l4 hr X23 X43 W3 hP3' n1 fz hmk hW
      have sE : (w3.setCell ⟨w1.heap.size, 1, none⟩ (Value.slice a2' (j + 1) c2')).heap.size = w3.heap.size := by simp
      generalize w3.setCell ⟨w1.heap.size, 1, none⟩ (Value.slice a2' (j + 1) c2') = w4 at *
      have hP4' : OP w4 (fun k => (w.heap.size ≤ k ∧ k ≠ w.heap.size ∧ k ≠ w1.heap.size) ∧ k < w4.heap.size) _ _ _ _ := OP.sub hP4 fun k hk h => ⟨h, hk⟩
      clear hP4 s3 sE

      have E0 : O2 (w4.alloc (.cells #[] 24)) (win w4.heap.size (w4.heap.size + 1)) (.slice (some ⟨w4.heap.size, 0, none⟩) 0 0) [] := local_O2.mono (ON.empty w4) (fun k _ hk => ⟨by omega, by omega⟩)
      go_wp2_with fail
      go_loopw [6, 7] (fun u t wr2 => ∃ m : Nat, j + 1 + m ≤ os.length ∧ t = .int .i64 ((j : Int) + 1 + m) ∧ O2 wr2 (win w4.heap.size wr2.heap.size) u (trivRow os.length j m) ∧ Below w4.heap.size w4 wr2) (fun _ t _ => os.length - (intOf t).toNat)
      case atStart => exact ⟨0, by omega, by go_num, by rw [show trivRow os.length j 0 = [] from rfl]; simpa using E0, below_alloc _ _⟩
      case round =>
        obtain ⟨m, hm, rfl, hO, hB2⟩ := hrel
        obtain ⟨a6, c6, e6, _, _⟩ := hO.rd.form
        rw [trivRow_len] at e6
        subst e6
        have HL := Lib.hid (trivRow_len os.length j m)
        have sz2 := hB2.size
        by_cases hmn : j + 1 + m < os.length
        · have HS := Lib.hid (trivRow_succ os.length j m)
          generalize trivRow os.length j m = R at *
          go_wp2_with fail
          have hcast : (Value.int .i64 ((j : Int) + 1 + m)) = .int .i64 ((j + 1 + m : Nat) : Int) := by go_num
          rw [hcast]
          refine (s_l07Unit os.length (j + 1 + m) _ (by omega) (by omega)).mono ?_
          rintro e w5 ⟨u5, rfl, hI5, hB5⟩
          have hO5 := local_O2.below hO hB5
          have hy5 := hI5.o1
          have sz5 := hB5.size
          obtain ⟨a5, c5, rfl, _, _⟩ := hI5.form
          obtain ⟨v6, w6, hr6, hO6, hC6⟩ := run_appO local_O1 w5 25 25 i0 Try.underlying25 hi hz0 hz1 hz2 _ _ _ _ hO5 _ _ hy5 rfl (fun k hk h => by have := hk.1; have := h.2; omega) (by rw [HL.out]; omega)
          have sz6 := hC6.size
          have hO6' : O2 w6 (win w4.heap.size w6.heap.size) v6 (R ++ [unitL os.length (j + 1 + m)]) := local_O2.mono hO6 (fun k hk h => ⟨by
            rcases h with ⟨h | h, _⟩ | h
            · exact h.1
            · have := h.1; omega
            · omega, hk⟩)
          have hB6 : Below w4.heap.size w4 w6 := (hB2.trans (hB5.mono sz2)).trans (hC6.below (fun k hk => hk.1.1) (by omega))
          clear hO5 hO6 hy5 hI5 hB5 hC6
          go_wp2_with (at_builtin; refine wp_of_run _ rfl _ _ _ rfl _ _ rfl rfl _ _ hr6 ?_)
          go_roundw
          case rel => exact ⟨m + 1, by omega, by go_num, by rw [HS.out]; exact hO6', hB6⟩
          case measure => simp [intOf]; omega
        · have hme : m = os.length - 1 - j := by omega
          have X25 := X24.below hB2 X24.lt
          have X45 := X44.below hB2 X44.lt
          have hP5 := OP.below hP4' hB2
          have W5 := W4.trans (hB2.mono W4.size)
          obtain ⟨v3', w6, hr6, hP6, hC6⟩ := run_appConj wr 26 _ _ _ _ _ _ hP5 _ _ hO rfl (fun k hk h => by have := hk.1; have := h.2; omega) (by show (trivP os j).conj.length ≤ _; rw [show (trivP os j).conj.length = j from trivConj_len _ _]; omega)
          have sz6 := hC6.size
          have X26 := X25.chg hC6 (fun h => h.1.2.1 rfl)
          have X46 := X45.chg hC6 (fun h => h.1.2.2 rfl)
          have W6 : Below w.heap.size w w6 := W5.trans (hC6.below (fun k hk => hk.1.1) W5.size)
          have hP6' : OP w6 (fun k => (w.heap.size ≤ k ∧ k ≠ w.heap.size ∧ k ≠ w1.heap.size)) _ _ _ _ := OP.sub hP6 (fun k hk h => by
            have l1 := X24.lt
            have l2 := X44.lt
            rcases h with ⟨h | h, h2⟩ | ⟨h, _⟩
            · exact h.1
            · have := h.1; exact ⟨by omega, by omega, by omega⟩
            · exact ⟨by omega, by omega, by omega⟩)
          obtain ⟨_, _, ⟨a3', c3', rfl⟩⟩ := hP6.formsN (n1 := os.length) (n2 := j + 1) (n3 := j + 1) rfl (by simp [trivP, trivPow_len]) (by simp [trivP, trivConj_len])
          have n2 := X46.c2
          have fz := X46.fr 2
          have o2 := X45.c2
          have X27 := X26.other (c := w1.heap.size) (by omega) 2 (Value.slice a3' (j + 1) c3')
          have X47 := X46.set2 (Value.slice a3' (j + 1) c3')
          have hP7 := OP.sets hP6' (b := w1.heap.size) (fun h => h.2.2 rfl) 2 (Value.slice a3' (j + 1) c3')
          have W7 := W6.setCell (p := ⟨w1.heap.size, 2, none⟩) (by show _ ≤ w1.heap.size; omega) (Value.slice a3' (j + 1) c3')
          have HI : TInv os w w.heap.size w1.heap.size (j + 1) (w6.setCell ⟨w1.heap.size, 2, none⟩ (Value.slice a3' (j + 1) c3')) := by
            refine ⟨_, _, _, X27, X47, ?_, W7⟩
            have hq : trivP os (j + 1) = ⟨(trivP os j).orders, (trivP os j).powers ++ [zrow os.length], (trivP os j).conj ++ [trivRow os.length j m]⟩ := by
              subst hme
              simp only [trivP, trivPow_succ, trivConj_succ]
            rw [hq]
            exact hP7
          clear X24 X44 X25 X45 X26 X46 X27 X47 hP4' hP5 hP6 hP6' hP7 W4 W5 W6 W7 hC6 hO hB2 hme
          go_wp2_with (at_builtin; refine wp_of_run _ rfl _ _ _ rfl _ _ rfl rfl _ _ hr6 ?_)
          go_roundw
          case rel => exact ⟨j + 1, by omega, by go_num, HI⟩
          case measure => simp [intOf]; omega
    · obtain rfl : j = os.length := by omega
      have p0 := X2.c0
      have p1 := X2.c1
      have p2 := X2.c2
      have q0 := X2.fr 0
      have q1' := X2.fr 1
      have q2 := X2.fr 2
      have hP' := OP.sets (OP.sets (OP.sets hP (b := w.heap.size) (fun h => h.2.1 rfl) 0 (Value.slice a1' os.length c1')) (b := w.heap.size) (fun h => h.2.1 rfl) 1 (Value.slice a2 os.length c2)) (b := w.heap.size) (fun h => h.2.1 rfl) 2 (Value.slice a3 os.length c3)
      have hW' := ((hW.setCell (p := ⟨w.heap.size, 0, none⟩) (Nat.le_refl _) (Value.slice a1' os.length c1')).setCell (p := ⟨w.heap.size, 1, none⟩) (Nat.le_refl _) (Value.slice a2 os.length c2)).setCell (p := ⟨w.heap.size, 2, none⟩) (Nat.le_refl _) (Value.slice a3 os.length c3)
      go_wp2_with fail
      refine bodyPost_ret (v := .agg #[Value.slice a1' os.length c1', Value.slice a2 os.length c2, Value.slice a3 os.length c3]) (by simp [results, Try.results67, go_sem, p0, p1, p2]) rfl ⟨_, _, _, rfl, OP.sub hP' (fun k hk h => ⟨h.1, hk⟩), hW'⟩
end Go.Proofs.Ytiikoappknejgaa
namespace Go.Proofs.Ytiikoappknejgaa
set_option linter.unusedVariables false
set_option linter.unusedSimpArgs false
set_option maxRecDepth 100000
open Go.RowKit Go.PlainAid

/-- an owned row of bytes, as numbers -/
def U8s (w : World) (B : Nat) (v : Value) (ys : List Int) : Prop := w.ownsRow B 5 1 v ys.length (ys.map (Value.int .u8))
theorem U8s.nil (w : World) (B : Nat) : U8s w B (.slice none 0 0) [] := World.ownsRow_nil _ _ _ _
theorem U8s.empty (w : World) : U8s (w.alloc (.cells #[] 5)) w.heap.size (.slice (some ⟨w.heap.size, 0, none⟩) 0 0) [] :=
  ⟨rfl, .inr ⟨w.heap.size, 0, #[], rfl, Nat.le_refl _, heap_alloc_new w _, Nat.le_refl _, by simp [maxLen], rfl, rfl⟩⟩

/-- 'append(out, b)': one byte. -/
theorem wp_app1U {P : Program} (w : World) {ops : Array Oper} {rest : List Oper} {o : Oper} {a : Act} {Q : Exit → Act → World → Prop} (hgd : o.guard = none) (s x : Operand)
    (ho : o.op = .call { callee := .builtin .append, args := #[s, x], argTypes := #[22, 22] })
    (B : Nat) (i : TypeInfo) (ht : P.underlying 22 = some (.slice 5)) (hi : P.info? 5 = some i) (hz : i.zero = some (.int .u8 0)) (hsize : i.size = 1) (hby : i.bytes = 1)
    (v : Value) (xs : List Int) (hs : a.eval s = v) (hown : U8s w B v xs) (y : Int) (hx : a.eval x = .slice (some ⟨w.heap.size, 0, none⟩) 1 1) (hn : xs.length ≤ 1000000000) (hB : B ≤ w.heap.size)
    (h : ∀ v' w', U8s w' B v' (xs ++ [y]) → Grew w w' v v' → Below B w w' → wpList P ops Q rest (a.put o.dst v') w') : wpList P ops Q (o :: rest) a (w.alloc (.cells #[.int .u8 y] 5)) := by
  refine wp_app _ hgd s x 22 ho B 5 i (.int .u8 0) 1 ht hi hz hsize hby rfl v xs.length (xs.map (Value.int .u8)) hs (World.ownsRow.alloc hown _) _ [.int .u8 y] hx ?_ ?_ ?_ ?_ ?_ ?_
  · refine ⟨_, 1, rfl, by simp, by simp, fun h => by (cases h), .inr ⟨w.heap.size, 0, rfl, fun j hj => ?_⟩⟩
    obtain rfl : j = 0 := by simpa using hj
    simp
  · intro u hu; simp at hu; subst hu; rfl
  · simp [maxLen]; omega
  · simp; omega
  · simp; omega
  · intro v' w' h1 h2 h3
    have hg : Grew w w' v v' := ⟨⟨h2.os, h2.tape, h2.output, by have := h2.size; simp at this; omega, fun k hk hne => (h2.block k (by simp; omega) hne).trans (Below.heap_alloc w _ k hk)⟩, fun g hg => (h3 g hg).imp id fun h => by simp at h; omega⟩
    refine h v' w' ?_ hg (hg.below hB fun g hg => (World.ownsRow.lt hown g hg).1)
    unfold U8s
    rw [List.length_append, List.map_append]
    exact h1

/-- 'string(b)' of an owned row -/
theorem wp_b2s {P : Program} (w : World) {ops : Array Oper} {rest : List Oper} {o : Oper} {a : Act} {Q : Exit → Act → World → Prop} (hgd : o.guard = none) (x : Operand) (ho : o.op = Op.convert 22 9 x)
    (hs : P.underlying 22 = some (.slice 5)) (he : P.underlying 5 = some (.int .u8)) (hd : P.underlying 9 = some .string)
    (B : Nat) (v : Value) (ys : List Int) (hx : a.eval x = v) (hown : U8s w B v ys) (h : wpList P ops Q rest (a.put o.dst (.string (strOfNums ys))) w) : wpList P ops Q (o :: rest) a w := by
  refine wpList_plain hgd fun K hK' => ?_
  have hr : (convert 22 9 v).run P w = .ok (.string (strOfNums ys)) w := by
    have hl : (ys.map (Value.int .u8)).length = ys.length := by simp
    rcases hown.2 with ⟨rfl, h0⟩ | ⟨g, cap, cur, rfl, hb, hg, hnc, hcm, hcs, htake⟩
    · have : ys = [] := List.eq_nil_of_length_eq_zero h0
      subst this
      exact run_convert_bytes_nil w _ _ hs he 0 0 _ hd
    · have h1 : w.ownsRow B 5 1 (.slice (some ⟨g, 0, none⟩) ys.length cap) ys.length (ys.map (Value.int .u8)) := hown
      refine run_convert_bytes_arg w _ _ hs he g 0 ys.length cap ys rfl (fun i hi => ?_) _ hd
      rw [Nat.zero_add, h1.cellAt i (by omega)]
      simp [List.getD, hi]
  unfold Oper.wp execOp
  simp only [ho, hx, Sem.run_bind, Sem.run_pure, Result.andThen_ok, hr]
  exact hK' _ _ h

/-! ### the text of a word -/
def chI (x : Int) : Int := if 0 < x then 96 + x else 64 - x
def txtL (xs : List Int) : List Int := xs.map chI
theorem txtL_succ (xs : List Int) (k : Nat) (h : k < xs.length) : txtL (xs.take (k + 1)) = txtL (xs.take k) ++ [chI (xs.getD k 0)] := by
  rw [take_snoc xs k 0 h]; simp [txtL]
theorem txtL_length (xs : List Int) : (txtL xs).length = xs.length := by simp [txtL]
def txtW (xs : List Int) : ByteArray := if xs.length = 0 then ⟨#[49]⟩ else strOfNums (txtL xs)
theorem txtW_empty {xs : List Int} (h : xs.length = 0) : txtW xs = ⟨#[49]⟩ := if_pos h
theorem txtW_ne {xs : List Int} (h : ¬ xs.length = 0) : txtW xs = strOfNums (txtL xs) := if_neg h
theorem ret_str {a b : ByteArray} (h : a = b) : Ending.returned (.string a) = .returned (.string b) := by rw [h]
def Let26 (xs : List Int) : Prop := ∀ x ∈ xs, -20 ≤ x ∧ x ≤ 20
theorem wordB_26 {k : Int} {xs : List Int} (hk : k ≤ 6) (h : wordB k xs = true) : Let26 xs := by
  simp only [wordB, Bool.and_eq_true, List.all_eq_true] at h
  intro x hx
  have := h.1 x hx
  simp only [letB, Bool.and_eq_true] at this
  have := inB_true.1 this.2
  omega

--== spec.l06Text
set_option maxHeartbeats 2000000 in
theorem s_l06Text (v : Value) (xs : List Int) (w : World) (hv : Rd w v xs) (hs : xs.length ≤ 100000000) (hx : Let26 xs) :
    Calls Try.prog 94 #[v] w (RetV w (.string (txtW xs))) := by
  obtain ⟨i0, hi, hz0, hz1, hz2⟩ := info_parts Try.infoByte
  obtain ⟨ao, cap, rfl, _, _, _, hA⟩ := hv
  by_cases h0 : xs.length = 0
  · have HT := Lib.hid (txtW_empty h0)
    have h0' : xs.length ≤ 0 := by omega
    have h0b : ((xs.length : Int) == 0) = true := by simp [h0]
    clear h0
    go_enter Try.func94, Try.ntmps94
    go_wp2
    go_ret
    exact ⟨ret_str HT.out.symm, Below.refl _ _⟩
  · have HT := Lib.hid (txtW_ne h0)
    have h0' : 0 < xs.length := by omega
    have h0b : ((xs.length : Int) == 0) = false := by simp; intro h; exact h0 (by simp [h])
    clear h0
    go_enter Try.func94, Try.ntmps94
    go_wp2
    go_loopw [3, 4] (fun u i wr => ∃ j : Nat, j ≤ xs.length ∧ i = .int .i64 j ∧ U8s wr w.heap.size u (txtL (xs.take j)) ∧ Below w.heap.size w wr) (fun _ i _ => xs.length - (intOf i).toNat)
    case atStart => exact ⟨0, Nat.zero_le _, rfl, U8s.empty w, below_alloc _ _⟩
    case round =>
      obtain ⟨j, hj, rfl, hI, hB⟩ := hrel
      have hS := hB.size
      by_cases hlt : j < xs.length
      · rcases hA with hA | ⟨b, off, rfl, hA⟩
        · omega
        have hc := hA j hlt
        have hcell : wr.cell? ⟨b, off + j, none⟩ = some (.int .i64 (xs.getD j 0)) := (hB.cell (World.block_lt_of_cell? w _ hc)).trans hc
        obtain ⟨hx1, hx2⟩ := hx _ (getD_mem hlt)
        have HS := Lib.hid (txtL_succ xs j hlt)
        have hll : (txtL (xs.take j)).length ≤ 1000000000 := by rw [txtL_length]; simp; omega
        clear hA hc
        generalize xs.getD j 0 = x at *
        generalize txtL (xs.take j) = R at *
        by_cases hp : 0 < x
        · have HE : Hid (chI x = 97 + x - 1) := by show _ = _; unfold chI; rw [if_pos hp]; omega
          go_wp2_with (at_builtin; refine wp_app1U _ rfl _ _ rfl w.heap.size i0 Try.underlying22 hi hz0 hz1 hz2 _ _ rfl hI (97 + x - 1) rfl hll (by omega) ?_)
          intro v' w1 hI1 hG hB1
          go_wp2
          go_roundw
          case rel => exact ⟨j + 1, by omega, by go_num, by rw [HS.out, HE.out]; exact hI1, hB.trans hB1⟩
          case measure => simp [intOf]; omega
        · have HE : Hid (chI x = 65 - x - 1) := by show _ = _; unfold chI; rw [if_neg hp]; omega
          go_wp2_with (at_builtin; refine wp_app1U _ rfl _ _ rfl w.heap.size i0 Try.underlying22 hi hz0 hz1 hz2 _ _ rfl hI (65 - x - 1) rfl hll (by omega) ?_)
          intro v' w1 hI1 hG hB1
          go_wp2
          go_roundw
          case rel => exact ⟨j + 1, by omega, by go_num, by rw [HS.out, HE.out]; exact hI1, hB.trans hB1⟩
          case measure => simp [intOf]; omega
      · obtain rfl : j = xs.length := by omega
        rw [List.take_length] at hI
        go_wp2_with (with_reducible refine wp_b2s _ rfl _ rfl Try.underlying22 Try.underlying5 Try.underlying9 _ _ _ rfl hI ?_)
        go_ret
        exact ⟨ret_str HT.out.symm, hB⟩
--== okS
def okS (c : Int) (s : ByteArray) : ByteArray := if c = 0 then s else ⟨#[]⟩
theorem okS_zero {c : Int} {s : ByteArray} (h : c = 0) : okS c s = s := if_pos h
theorem okS_ne {c : Int} {s : ByteArray} (h : ¬ c = 0) : okS c s = ⟨#[]⟩ := if_neg h
theorem ret_st {a b : ByteArray} {x y : Int} (h : a = b) (h' : x = y) : Ending.returned (.tuple #[.string a, .int .i64 x]) = .returned (.tuple #[.string b, .int .i64 y]) := by rw [h, h']
end Go.Proofs.Ytiikoappknejgaa
namespace Go.Proofs.Ytiikoappknejgaa
set_option linter.unusedVariables false
set_option linter.unusedSimpArgs false
set_option maxRecDepth 100000
open Go.RowKit

--== plain
abbrev Txt := List UInt8
def dg (o : Int) : Txt := Lib.decDigits o.toNat
def lt1 (i : Nat) : Txt := [UInt8.ofNat (97 + i)]
def wtx (v : List Int) : Txt := (txtW (nwL v)).data.toList
def powX (p : Pres) (i : Nat) : Txt := lt1 i ++ ([94] ++ (dg (p.r i) ++ ([61] ++ wtx (p.P i))))
def cnjX (p : Pres) (i j : Nat) : Txt := lt1 j ++ ([94] ++ (lt1 i ++ ([61] ++ wtx (p.C i j))))
def ordsT (p : Pres) (m : Nat) : List Txt := (List.range m).map fun i => dg (p.r i)
def pow1 (p : Pres) (i : Nat) : List Txt := if zeroB (p.P i) = true then [] else [powX p i]
def powsT (p : Pres) (m : Nat) : List Txt := (List.range m).flatMap (pow1 p)
def cnj1 (p : Pres) (i j : Nat) : List Txt := if p.C i j = unitL p.n j then [] else [cnjX p i j]
def cnjR (p : Pres) (i m : Nat) : List Txt := (List.range m).flatMap fun d => cnj1 p i (i + 1 + d)
def cnjsT (p : Pres) (m : Nat) : List Txt := (List.range m).flatMap fun i => cnjR p i (p.n - (i + 1))
def ordT (p : Pres) : Txt := if p.n = 0 then [49] else Lib.join (ordsT p p.n) [32]
/-- the text of a valid presentation -/
def ptx (p : Pres) : Txt := Lib.join (ordT p :: (powsT p p.n ++ cnjsT p p.n)) [59, 32]
theorem ordsT_succ (p : Pres) (m : Nat) : ordsT p (m + 1) = ordsT p m ++ [dg (p.r m)] := by simp [ordsT, List.range_succ]
theorem ordsT_len (p : Pres) (m : Nat) : (ordsT p m).length = m := by simp [ordsT]
theorem powsT_succ (p : Pres) (m : Nat) : powsT p (m + 1) = powsT p m ++ pow1 p m := by simp [powsT, List.range_succ]
theorem cnjR_succ (p : Pres) (i m : Nat) : cnjR p i (m + 1) = cnjR p i m ++ cnj1 p i (i + 1 + m) := by simp [cnjR, List.range_succ]
theorem cnjsT_succ (p : Pres) (m : Nat) : cnjsT p (m + 1) = cnjsT p m ++ cnjR p m (p.n - (m + 1)) := by simp [cnjsT, List.range_succ]
theorem joinTail_app (sep : Txt) (a b : List Txt) : Lib.joinTail sep (a ++ b) = Lib.joinTail sep a ++ Lib.joinTail sep b := by simp [Lib.joinTail]
theorem joinTail_one (sep x : Txt) : Lib.joinTail sep [x] = sep ++ x := by simp [Lib.joinTail]
theorem joinTail_nil (sep : Txt) : Lib.joinTail sep [] = [] := rfl
/-- one more element behind at least one -/
theorem join_snoc (xs : List Txt) (x sep : Txt) (h : xs ≠ []) : Lib.join (xs ++ [x]) sep = Lib.join xs sep ++ (sep ++ x) := by
  cases xs with
  | nil => exact absurd rfl h
  | cons a r => rw [List.cons_append, Lib.join_cons, Lib.join_cons, joinTail_app, joinTail_one, List.append_assoc]
theorem ptx_eq (p : Pres) : ptx p = ordT p ++ (Lib.joinTail [59, 32] (powsT p p.n) ++ Lib.joinTail [59, 32] (cnjsT p p.n)) := by
  unfold ptx
  rw [Lib.join_cons, joinTail_app]
theorem ba_app (a b : ByteArray) : (a ++ b).data.toList = a.data.toList ++ b.data.toList := by simp [ByteArray.data_append]
theorem ba_of (l : Txt) : (⟨l.toArray⟩ : ByteArray).data.toList = l := by simp
theorem ba_ext {a b : ByteArray} (h : a.data.toList = b.data.toList) : a = b := by
  cases a; cases b
  congr 1
  exact Array.toList_inj.1 h
theorem dg_small {o : Int} (h0 : 0 ≤ o) (h1 : o < 10) : dg o = [UInt8.ofNat (48 + o.toNat)] := by
  unfold dg Lib.decDigits
  rw [dif_pos (by omega)]
theorem dg_str {o : Int} (h0 : 0 ≤ o) (h1 : o < 10) : (strOfNums [48 + o]).data.toList = dg o := by
  rw [dg_small h0 h1, strOfNums_data, List.map_cons, List.map_nil, show (48 + o).toNat = 48 + o.toNat by omega]
theorem lt_str (k : Nat) : (txtW [(k : Int) + 1]).data.toList = lt1 k := by
  rw [txtW_ne (by simp), strOfNums_data]
  unfold lt1 txtL chI
  rw [List.map_cons, List.map_nil, List.map_cons, List.map_nil, if_pos (by omega), show (96 + ((k : Int) + 1)).toNat = 97 + k by omega]
--== rows of strings
theorem Try.infoStr : (Try.prog.info? 9).map (fun i => (i.zero, i.size, i.bytes)) = some (some (.string ⟨#[]⟩), 1, 16) := by kernel_rfl
def Strs (w : World) (B : Nat) (v : Value) (ss : List ByteArray) : Prop := w.ownsRow B 9 1 v ss.length (ss.map Value.string)
theorem Strs.nil (w : World) (B : Nat) : Strs w B (.slice none 0 0) [] := World.ownsRow_nil _ _ _ _
theorem Strs.one (w : World) (s : ByteArray) : Strs (w.alloc (.cells #[.string s] 9)) w.heap.size (.slice (some ⟨w.heap.size, 0, none⟩) 1 1) [s] :=
  ⟨rfl, .inr ⟨w.heap.size, 1, #[.string s], rfl, Nat.le_refl _, heap_alloc_new w _, by simp, by simp [maxLen], by simp, by simp⟩⟩
theorem Strs.form {w : World} {B : Nat} {v : Value} {ss : List ByteArray} (h : Strs w B v ss) : ∃ a c, v = .slice a ss.length c ∧ ss.length ≤ c := by
  rcases h.2 with ⟨rfl, h0⟩ | ⟨g, cap, cur, rfl, _, _, hn, _⟩
  · exact ⟨none, 0, by rw [h0], by omega⟩
  · exact ⟨_, cap, rfl, hn⟩
theorem Strs.formN {w : World} {B : Nat} {v : Value} {ss : List ByteArray} (h : Strs w B v ss) {n : Nat} (e : ss.length = n) : ∃ a c, v = .slice a n c ∧ n ≤ c := e ▸ h.form
theorem Strs.below {w w' : World} {B : Nat} {v : Value} {ss : List ByteArray} (h : Strs w B v ss) (hb : Below w.heap.size w w') : Strs w' B v ss := own_below h hb
theorem Strs.at {w : World} {B : Nat} {a : Option Addr} {n c : Nat} {ss : List ByteArray} (h : Strs w B (.slice a n c) ss) {j : Nat} {s : ByteArray} (hj : ss[j]? = some s) : ∃ g, a = some ⟨g, 0, none⟩ ∧ B ≤ g ∧ g < w.heap.size ∧ w.cell? ⟨g, j, none⟩ = some (.string s) := by
  have hlt : j < ss.length := (List.getElem?_eq_some_iff.1 hj).1
  have h' : w.ownsRow B 9 1 (.slice a n c) ss.length (ss.map Value.string) := h
  rcases h.2 with ⟨_, h0⟩ | ⟨g, cap, cur, he, hB, hg, _⟩
  · omega
  · simp only [Value.slice.injEq] at he
    obtain ⟨rfl, rfl, rfl⟩ := he
    refine ⟨g, rfl, hB, (own_lt h' rfl).2, ?_⟩
    rw [h'.cellAt j (by omega), List.getElem?_map, hj]; rfl
theorem run_appStr (w : World) (B : Nat) (v : Value) (ss : List ByteArray) (hown : Strs w B v ss) (s : ByteArray) (hn : ss.length ≤ 100000000) (hB : B ≤ w.heap.size) :
    ∃ v' w', (Builtin.append_ #[110, 110] 110 #[v, .slice (some ⟨w.heap.size, 0, none⟩) 1 1]).run Try.prog (w.alloc (.cells #[.string s] 9)) = .ok v' w' ∧ Strs w' B v' (ss ++ [s]) ∧ Below B w w' := by
  obtain ⟨i0, hi, hz0, hz1, hz2⟩ := info_parts Try.infoStr
  obtain ⟨v', w', hr, h1, h2, h3⟩ := run_app (w.alloc (.cells #[.string s] 9)) B 110 110 9 i0 _ 16 Try.underlying110 hi hz0 hz1 hz2 rfl v ss.length (ss.map Value.string) (World.ownsRow.alloc hown _)
    (.slice (some ⟨w.heap.size, 0, none⟩) 1 1) [.string s]
    ⟨_, 1, rfl, by simp, by simp, fun h => by (cases h), .inr ⟨w.heap.size, 0, rfl, fun j hj => by
      obtain rfl : j = 0 := by simpa using hj
      simp⟩⟩ (fun y hy => by simp at hy; subst hy; rfl) (by simp [maxLen]; omega) (by simp; omega) (by simp; omega)
  have hg : Grew w w' v v' := ⟨⟨h2.os, h2.tape, h2.output, by have := h2.size; simp at this; omega, fun k hk hne => (h2.block k (by simp; omega) hne).trans (Below.heap_alloc w _ k hk)⟩, fun g hg => (h3 g hg).imp id fun h => by simp at h; omega⟩
  refine ⟨v', w', hr, ?_, hg.below hB fun g hg => (World.ownsRow.lt hown g hg).1⟩
  unfold Strs
  rw [List.length_append, List.map_append]
  exact h1
--== spec.l01Dec
set_option maxHeartbeats 1000000 in
theorem s_l01Dec1 (o : Int) (w : World) (h0 : 0 ≤ o) (h1 : o < 10) : Calls Try.prog 91 #[.int .i64 o] w fun e w' => ∃ s, e = .returned (.string s) ∧ s.data.toList = dg o ∧ Below w.heap.size w w' := by
  have HD := Lib.hid (dg_str h0 h1)
  have hb : U8s (w.alloc (.cells #[.int .u8 (48 + o)] 5)) w.heap.size (.slice (some ⟨w.heap.size, 0, none⟩) 1 1) [48 + o] :=
    ⟨rfl, .inr ⟨w.heap.size, 1, #[.int .u8 (48 + o)], rfl, Nat.le_refl _, heap_alloc_new w _, by simp, by simp [maxLen], by simp, by simp⟩⟩
  have HB := Lib.hid hb
  have hB5 := below_alloc w (Obj.cells #[.int .u8 (48 + o)] 5)
  go_enter Try.func91, Try.ntmps91
  go_wp2_with (with_reducible refine wp_b2s _ rfl _ rfl Try.underlying22 Try.underlying5 Try.underlying9 _ _ _ rfl hb ?_)
  go_ret
  exact ⟨_, rfl, HD.out, hB5⟩
--== spec.l07Letter
set_option maxHeartbeats 1000000 in
theorem s_l07Letter (k : Nat) (w : World) (hk : k ≤ 6) : Calls Try.prog 93 #[.int .i64 k] w fun e w' => ∃ s, e = .returned (.string s) ∧ s.data.toList = lt1 k ∧ Below w.heap.size w w' := by
  have HD := Lib.hid (lt_str k)
  have HR : Hid (Rd (w.alloc (.cells #[.int .i64 ((k : Int) + 1)] 2)) (.slice (some ⟨w.heap.size, 0, none⟩) 1 1) [(k : Int) + 1]) :=
    ⟨_, 1, rfl, by simp, by simp, fun h => by (cases h), .inr ⟨w.heap.size, 0, rfl, fun j hj => by
      obtain rfl : j = 0 := by simpa using hj
      simp⟩⟩
  go_enter Try.func93, Try.ntmps93
  go_wp2_with fail
  refine (s_l06Text _ [(k : Int) + 1] _ HR.out (by simp) (fun x hx => by simp at hx; omega)).mono ?_
  rintro e w5 ⟨rfl, hB⟩
  have hB5 := below_size (below_alloc w (Obj.cells #[.int .i64 ((k : Int) + 1)] 2)) hB
  clear hB
  go_wp2_with fail
  go_ret
  exact ⟨_, rfl, HD.out, hB5⟩
--== end
end Go.Proofs.Ytiikoappknejgaa
namespace Go.Proofs.Ytiikoappknejgaa
set_option linter.unusedVariables false
set_option linter.unusedSimpArgs false
set_option maxRecDepth 100000
open Go.RowKit

--== parts at a byte
theorem strs_lenS {ss : List ByteArray} {l : List Txt} (h : ss.map (·.data.toList) = l) : ss.length = l.length := by rw [← h]; simp
/-- the parts of a text at a byte: done, the part under way, what is left -/
def splG (b : UInt8) : List Txt → Txt → Txt → List Txt
  | d, c, [] => d ++ [c]
  | d, c, x :: r => if x = b then splG b (d ++ [c]) [] r else splG b d (c ++ [x]) r
def spl (b : UInt8) (t : Txt) : List Txt := splG b [] [] t
theorem splG_hit (b : UInt8) (d : List Txt) (c r : Txt) : splG b d c (b :: r) = splG b (d ++ [c]) [] r := by rw [splG, if_pos rfl]
theorem splG_miss {b x : UInt8} (h : x ≠ b) (d : List Txt) (c r : Txt) : splG b d c (x :: r) = splG b d (c ++ [x]) r := by rw [splG, if_neg h]
theorem splG_run (b : UInt8) : ∀ (a : Txt), b ∉ a → ∀ d c r, splG b d c (a ++ r) = splG b d (c ++ a) r := by
  intro a
  induction a with
  | nil => intro _ d c r; rw [List.nil_append, List.append_nil]
  | cons x a ih =>
    intro h d c r
    rw [List.cons_append, splG_miss (fun e => h (by rw [e]; exact List.mem_cons_self)), ih (fun e => h (List.mem_cons_of_mem _ e)), List.append_assoc]; rfl
theorem splG_end {b : UInt8} {a : Txt} (h : b ∉ a) (d : List Txt) (c : Txt) : splG b d c a = d ++ [c ++ a] := by
  have := splG_run b a h d c []
  rw [List.append_nil] at this
  rw [this]; rfl
theorem splG_tail (b : UInt8) (s : Txt) (hs : b ∉ s) : ∀ (xs : List Txt), (∀ x ∈ xs, b ∉ x) → ∀ d (a : Txt), splG b d a (Lib.joinTail (b :: s) xs) = d ++ a :: xs.map (s ++ ·) := by
  intro xs
  induction xs with
  | nil => intro _ d a; rfl
  | cons x xs ih =>
    intro h d a
    have e : Lib.joinTail (b :: s) (x :: xs) = b :: ((s ++ x) ++ Lib.joinTail (b :: s) xs) := by simp [Lib.joinTail]
    have hx : b ∉ s ++ x := fun m => by
      rcases List.mem_append.1 m with m | m
      · exact hs m
      · exact h x List.mem_cons_self m
    rw [e, splG_hit, splG_run b _ hx, ih (fun y hy => h y (List.mem_cons_of_mem _ hy)), List.nil_append, List.map_cons, List.append_assoc]; rfl
theorem spl_join {b : UInt8} {s a : Txt} {xs : List Txt} (hs : b ∉ s) (ha : b ∉ a) (h : ∀ x ∈ xs, b ∉ x) : spl b (a ++ Lib.joinTail (b :: s) xs) = a :: xs.map (s ++ ·) := by
  unfold spl
  rw [splG_run b a ha, List.nil_append, splG_tail b s hs xs h]; rfl
theorem spl_two {b : UInt8} {a r : Txt} (ha : b ∉ a) (hr : b ∉ r) : spl b (a ++ b :: r) = [a, r] := by
  unfold spl
  rw [splG_run b a ha, splG_hit, splG_end hr]; rfl
--== parts at a text
theorem index_at {c : UInt8} {s a : Txt} (r : Txt) (ha : c ∉ a) : Lib.index (a ++ (c :: s) ++ r) (c :: s) = a.length :=
  Lib.index_first (by simp) (by simp [Lib.occAt]) fun j hj => by
    cases h : Lib.occAt (a ++ (c :: s) ++ r) (c :: s) j with
    | false => rfl
    | true =>
      have := Lib.occAt_head rfl h
      rw [List.append_assoc, List.getElem?_append_left hj] at this
      exact absurd (List.mem_of_getElem? this) ha
theorem index_no {c : UInt8} {s a : Txt} (ha : c ∉ a) : Lib.index a (c :: s) = -1 :=
  Lib.index_none fun j hj => by
    cases h : Lib.occAt a (c :: s) j with
    | false => rfl
    | true => exact absurd (List.mem_of_getElem? (Lib.occAt_head rfl h)) ha
theorem cut_hit {c : UInt8} {a : Txt} (r : Txt) (ha : c ∉ a) : Lib.cut (a ++ c :: r) [c] = (a, r, true) := by
  have h := index_at (s := []) r ha
  rw [List.append_assoc] at h
  have e : Lib.index (a ++ c :: r) [c] = a.length := h
  unfold Lib.cut
  rw [e, if_pos (by omega)]
  simp
theorem cut_no {c : UInt8} {a : Txt} (ha : c ∉ a) : Lib.cut a [c] = (a, [], false) := by
  unfold Lib.cut
  rw [index_no ha]; rfl
theorem split_tail (c : UInt8) (s : Txt) : ∀ (xs : List Txt) (a : Txt), c ∉ a → (∀ x ∈ xs, c ∉ x) → Lib.split (a ++ Lib.joinTail (c :: s) xs) (c :: s) = a :: xs := by
  intro xs
  induction xs with
  | nil =>
    intro a ha _
    have e : Lib.index (a ++ Lib.joinTail (c :: s) []) (c :: s) = -1 := by rw [joinTail_nil, List.append_nil]; exact index_no ha
    unfold Lib.split
    rw [Lib.count_miss e, joinTail_nil, List.append_nil]; rfl
  | cons x xs ih =>
    intro a ha h
    have e0 : a ++ Lib.joinTail (c :: s) (x :: xs) = a ++ (c :: s) ++ (x ++ Lib.joinTail (c :: s) xs) := by simp [Lib.joinTail]
    have e := index_at (s := s) (x ++ Lib.joinTail (c :: s) xs) ha
    have hd : (a ++ (c :: s) ++ (x ++ Lib.joinTail (c :: s) xs)).drop (a.length + (c :: s).length) = x ++ Lib.joinTail (c :: s) xs := by
      rw [← List.length_append, List.drop_left]
    have ih' := ih x (h x List.mem_cons_self) fun y hy => h y (List.mem_cons_of_mem _ hy)
    unfold Lib.split at ih' ⊢
    rw [e0, Lib.count_hit (by simp) e, hd, Nat.add_comm 1, Lib.splitK, e]
    have hm : ((a.length : Int) == -1) = false := by rw [beq_eq_false_iff_ne]; omega
    rw [hm, Int.toNat_natCast, hd, ih', Nat.add_zero, List.append_assoc, List.take_left]; rfl
--== relations
/-- a relation: the letter, the letter that acts (none: a power), the exponents -/
abbrev Rln := Nat × Option Nat × List Int
def powR (p : Pres) (i : Nat) : List Rln := if zeroB (p.P i) = true then [] else [(i, none, p.P i)]
def cnjQ (p : Pres) (i j : Nat) : List Rln := if p.C i j = unitL p.n j then [] else [(j, some i, p.C i j)]
def powsR (p : Pres) (m : Nat) : List Rln := (List.range m).flatMap (powR p)
def cnjI (p : Pres) (i m : Nat) : List Rln := (List.range m).flatMap fun d => cnjQ p i (i + 1 + d)
def cnjsR (p : Pres) (m : Nat) : List Rln := (List.range m).flatMap fun i => cnjI p i (p.n - (i + 1))
def rlns (p : Pres) : List Rln := powsR p p.n ++ cnjsR p p.n
def rlnT (p : Pres) : Rln → Txt
  | (j, none, v) => lt1 j ++ ([94] ++ (dg (p.r j) ++ ([61] ++ wtx v)))
  | (j, some i, v) => lt1 j ++ ([94] ++ (lt1 i ++ ([61] ++ wtx v)))
theorem powsT_eq (p : Pres) (m : Nat) : powsT p m = (powsR p m).map (rlnT p) := by
  unfold powsT powsR
  rw [List.map_flatMap]
  congr 1
  funext i
  unfold pow1 powR
  split <;> rfl
theorem cnjsT_eq (p : Pres) (m : Nat) : cnjsT p m = (cnjsR p m).map (rlnT p) := by
  unfold cnjsT cnjsR
  rw [List.map_flatMap]
  congr 1
  funext i
  unfold cnjR cnjI
  rw [List.map_flatMap]
  congr 1
  funext d
  unfold cnj1 cnjQ
  split <;> rfl
theorem ptx_rlns (p : Pres) : ptx p = ordT p ++ Lib.joinTail [59, 32] ((rlns p).map (rlnT p)) := by
  rw [ptx_eq, powsT_eq, cnjsT_eq, ← joinTail_app, ← List.map_append]; rfl
/-- a relation that a valid presentation can hold -/
def GoodR (p : Pres) : Rln → Prop
  | (j, none, v) => j < p.n ∧ v.length = p.n ∧ SmE v
  | (j, some i, v) => i < j ∧ j < p.n ∧ v.length = p.n ∧ SmE v
--== setting a relation
def setR (p : Pres) : Rln → Pres
  | (j, none, v) => ⟨p.orders, p.powers.set j v, p.conj⟩
  | (j, some i, v) => ⟨p.orders, p.powers, p.conj.set i ((p.conj.getD i []).set (j - i - 1) v)⟩
def setA (p : Pres) (rs : List Rln) : Pres := rs.foldl setR p
theorem setA_app (p : Pres) (a b : List Rln) : setA p (a ++ b) = setA (setA p a) b := List.foldl_append
theorem setA_snoc (p : Pres) (a : List Rln) (r : Rln) : setA p (a ++ [r]) = setR (setA p a) r := by rw [setA_app]; rfl
theorem set_range {α : Type} (f g : Nat → α) (n m : Nat) (x : α) (hx : x = g m) (h : ∀ i, i ≠ m → f i = g i) : ((List.range n).map f).set m x = (List.range n).map g := by
  apply List.ext_getElem
  · simp
  · intro i h1 h2
    rw [List.getElem_set]
    by_cases e : m = i
    · subst e; rw [if_pos rfl, hx]; simp
    · rw [if_neg e]; simp; exact h i (fun e' => e e'.symm)
def pwAt (p : Pres) (m : Nat) : List (List Int) := (List.range p.n).map fun i => if i < m then p.P i else zrow p.n
def cjAt (p : Pres) (m c : Nat) : List (List (List Int)) := (List.range p.n).map fun i => (List.range (p.n - (i + 1))).map fun d => if i < m ∨ (i = m ∧ d < c) then p.C i (i + 1 + d) else unitL p.n (i + 1 + d)
theorem setA_pows {p : Pres} (hV : ValidP p) (c : List (List (List Int))) (m : Nat) : setA ⟨p.orders, pwAt p 0, c⟩ (powsR p m) = ⟨p.orders, pwAt p m, c⟩ := by
  induction m with
  | zero => rfl
  | succ m ih =>
    rw [show powsR p (m + 1) = powsR p m ++ powR p m by simp [powsR, List.range_succ], setA_app, ih]
    unfold powR
    by_cases hz : zeroB (p.P m) = true
    · rw [if_pos hz]
      show (⟨_, _, _⟩ : Pres) = _
      congr 1
      apply List.map_congr_left
      intro i hi
      have hi := List.mem_range.1 hi
      by_cases h : i < m
      · rw [if_pos h, if_pos (by omega)]
      · rw [if_neg h]
        by_cases h2 : i = m
        · subst h2
          rw [if_pos (by omega)]
          have hl := (hV.valid.pow i hi).len
          apply List.ext_getElem
          · simp [zrow, hl]
          · intro k h1 h3
            have := zeroB_true.1 hz k h3
            rw [List.getD_eq_getElem?_getD, List.getElem?_eq_getElem h3] at this
            simp only [Option.getD_some] at this
            rw [this]; simp [zrow]
        · rw [if_neg (by omega)]
    · rw [if_neg hz]
      show (⟨_, _, _⟩ : Pres) = _
      congr 1
      exact set_range _ _ _ _ _ (by rw [if_pos (by omega)]) fun i hi => by
        by_cases h : i < m
        · rw [if_pos h, if_pos (by omega)]
        · rw [if_neg h, if_neg (by omega)]
theorem cjAt_row (p : Pres) (m c i : Nat) (hi : i < p.n) : (cjAt p m c).getD i [] = (List.range (p.n - (i + 1))).map fun d => if i < m ∨ (i = m ∧ d < c) then p.C i (i + 1 + d) else unitL p.n (i + 1 + d) := by
  unfold cjAt
  rw [List.getD_eq_getElem?_getD, List.getElem?_map, List.getElem?_range hi]; rfl
theorem setA_cnjI (p : Pres) (pw : List (List Int)) (m : Nat) (hm : m < p.n) (c : Nat) (hc : c ≤ p.n - (m + 1)) : setA ⟨p.orders, pw, cjAt p m 0⟩ (cnjI p m c) = ⟨p.orders, pw, cjAt p m c⟩ := by
  induction c with
  | zero => rfl
  | succ c ih =>
    rw [show cnjI p m (c + 1) = cnjI p m c ++ cnjQ p m (m + 1 + c) by simp [cnjI, List.range_succ], setA_app, ih (by omega)]
    unfold cnjQ
    by_cases hz : p.C m (m + 1 + c) = unitL p.n (m + 1 + c)
    · rw [if_pos hz]
      show (⟨_, _, _⟩ : Pres) = _
      congr 1
      apply List.map_congr_left
      intro i hi
      apply List.map_congr_left
      intro d hd
      by_cases h : i < m ∨ (i = m ∧ d < c)
      · rw [if_pos h, if_pos (by omega)]
      · rw [if_neg h]
        by_cases h2 : i = m ∧ d = c
        · obtain ⟨rfl, rfl⟩ := h2
          rw [if_pos (by omega), hz]
        · rw [if_neg (by omega)]
    · rw [if_neg hz]
      show (⟨_, _, _⟩ : Pres) = _
      congr 1
      rw [cjAt_row p m c m hm, show m + 1 + c - m - 1 = c by omega]
      refine set_range _ _ _ _ _ ?_ fun i hi => ?_
      · exact set_range _ _ _ _ _ (by rw [if_pos (by omega)]) fun d hd => by
          by_cases h : m < m ∨ (m = m ∧ d < c)
          · rw [if_pos h, if_pos (by omega)]
          · rw [if_neg h, if_neg (by omega)]
      · apply List.map_congr_left
        intro d hd
        by_cases h : i < m ∨ (i = m ∧ d < c)
        · rw [if_pos h, if_pos (by omega)]
        · rw [if_neg h, if_neg (by omega)]
theorem cjAt_next (p : Pres) (m : Nat) : cjAt p m (p.n - (m + 1)) = cjAt p (m + 1) 0 := by
  unfold cjAt
  apply List.map_congr_left
  intro i hi
  apply List.map_congr_left
  intro d hd
  have hd := List.mem_range.1 hd
  by_cases h : i < m ∨ (i = m ∧ d < p.n - (m + 1))
  · rw [if_pos h, if_pos (by omega)]
  · rw [if_neg h, if_neg (by rcases Nat.lt_trichotomy i m with h1 | h1 | h1 <;> (try subst h1) <;> omega)]
theorem setA_cnjs (p : Pres) (pw : List (List Int)) (m : Nat) (hm : m ≤ p.n) : setA ⟨p.orders, pw, cjAt p 0 0⟩ (cnjsR p m) = ⟨p.orders, pw, cjAt p m 0⟩ := by
  induction m with
  | zero => rfl
  | succ m ih =>
    rw [show cnjsR p (m + 1) = cnjsR p m ++ cnjI p m (p.n - (m + 1)) by simp [cnjsR, List.range_succ], setA_app, ih (by omega), setA_cnjI p pw m (by omega) _ (Nat.le_refl _), cjAt_next]
theorem triv_at (p : Pres) : triv p.orders = ⟨p.orders, pwAt p 0, cjAt p 0 0⟩ := by
  unfold triv trivP
  congr 1
  · unfold trivPow pwAt
    apply List.ext_getElem
    · simp [Pres.n]
    · intro i h1 h2; simp [Pres.n]
  · unfold trivConj cjAt trivRow
    apply List.map_congr_left
    intro i hi
    rw [show p.orders.length - 1 - i = p.n - (i + 1) by unfold Pres.n; omega]
    apply List.map_congr_left
    intro d hd
    rw [if_neg (by omega)]; rfl
/-- all relations set: the presentation itself -/
theorem setA_all {p : Pres} (hV : ValidP p) : setA (triv p.orders) (rlns p) = p := by
  rw [triv_at, rlns, setA_app, setA_pows hV, setA_cnjs p _ _ (Nat.le_refl _)]
  have h1 : pwAt p p.n = p.powers := by
    apply List.ext_getElem
    · simp [pwAt, hV.pl]
    · intro i h1 h2
      have hi : i < p.n := by rw [← hV.pl]; exact h2
      simp [pwAt, hi, Pres.P, h2]
  have h2 : cjAt p p.n 0 = p.conj := by
    apply List.ext_getElem
    · simp [cjAt, hV.cl]
    · intro i h1 h2
      have hi : i < p.n := by rw [← hV.cl]; exact h2
      have hrow := hV.row i hi
      unfold rowB at hrow
      simp only [Bool.and_eq_true, decide_eq_true_eq] at hrow
      have hlen := hrow.2.1
      have he : p.conj.getD i [] = p.conj[i] := by rw [List.getD_eq_getElem?_getD, List.getElem?_eq_getElem h2]; rfl
      rw [he] at hlen
      simp only [cjAt, List.getElem_map, List.getElem_range]
      apply List.ext_getElem
      · simp; omega
      · intro d h3 h4
        have hd : d < p.n - (i + 1) := by simpa using h3
        simp only [List.getElem_map, List.getElem_range]
        rw [if_pos (Or.inl hi)]
        unfold Pres.C
        rw [he, show i + 1 + d - i - 1 = d by omega, List.getD_eq_getElem?_getD, List.getElem?_eq_getElem h4]; rfl
  rw [h1, h2]
--== end
end Go.Proofs.Ytiikoappknejgaa
namespace Go.Proofs.Ytiikoappknejgaa
set_option linter.unusedVariables false
set_option linter.unusedSimpArgs false
set_option maxRecDepth 100000
open Go.RowKit Go.PlainAid

/-- '[]byte(s)': the cells read as the bytes. -/
def RdS (w : World) (v : Value) (s : ByteArray) : Prop :=
  ∃ g cap, v = .slice (some ⟨g, 0, none⟩) s.size cap ∧ s.size ≤ cap ∧ cap ≤ 9223372036854775807 ∧ ∀ j, j < s.size → w.cell? ⟨g, j, none⟩ = some (.int .u8 (bt s j))
theorem RdS.below {w w' : World} {v : Value} {s : ByteArray} (h : RdS w v s) (hb : Below w.heap.size w w') : RdS w' v s := by
  obtain ⟨g, cap, h1, h2, h3, h4⟩ := h
  exact ⟨g, cap, h1, h2, h3, fun j hj => (hb.cell (World.block_lt_of_cell? w _ (h4 j hj))).trans (h4 j hj)⟩

theorem wp_s2b {P : Program} (w : World) {ops : Array Oper} {rest : List Oper} {o : Oper} {a : Act} {Q : Exit → Act → World → Prop} (hgd : o.guard = none) (x : Operand) (ho : o.op = Op.convert 9 22 x)
    (hs : P.underlying 9 = some .string) (hd : P.underlying 22 = some (.slice 5)) (he : P.underlying 5 = some (.int .u8))
    (s : ByteArray) (hx : a.eval x = .string s) (hl : s.size ≤ 9223372036854775807) (h : ∀ w' v, RdS w' v s → Below w.heap.size w w' → wpList P ops Q rest (a.put o.dst v) w') : wpList P ops Q (o :: rest) a w := by
  refine wpList_plain hgd fun K hK' => ?_
  have hr := run_bytes_of_string (P := P) w 9 22 5 s hs hd he
  have hge := grownCap_ge w s.size 0 5
  have hcm : grownCap w s.size 0 5 ≤ maxLen := grownCap_le_maxLen w s.size 0 5 (by unfold maxLen; omega)
  unfold Oper.wp execOp
  simp only [ho, hx, Sem.run_bind, Sem.run_pure, Result.andThen_ok, hr]
  refine hK' _ _ (h _ _ ⟨w.heap.size, _, rfl, hge, by unfold maxLen at hcm; omega, fun j hj => ?_⟩ ?_)
  · have hg : (w.drew.alloc (.cells (bytesRow s (grownCap w s.size 0 5)) 5 ((bytesRow s (grownCap w s.size 0 5)).size, (bytesRow s (grownCap w s.size 0 5)).size + 1))).heap[w.heap.size]? = some (.cells (bytesRow s (grownCap w s.size 0 5)) 5 ((bytesRow s (grownCap w s.size 0 5)).size, (bytesRow s (grownCap w s.size 0 5)).size + 1)) := heap_alloc_new w.drew _
    rw [cell_of_row _ _ j _ _ _ hg]
    unfold bytesRow
    rw [Array.getElem?_append_left (by simpa using hj)]
    rw [← get_bt s j hj]
    simp [hj]
    rfl
  · exact ⟨rfl, rfl, rfl, by simp, fun k hk => Below.heap_alloc w.drew _ k hk⟩

/-! ### what a text reads as -/
def ltrI (b : Int) : Int := if 97 ≤ b then b - 96 else 64 - b
def ltrB (k b : Int) : Bool := (decide (97 ≤ b) && decide (b ≤ 96 + k)) || (decide (65 ≤ b) && decide (b ≤ 64 + k))
def letsL (s : ByteArray) (j : Nat) : List Int := (List.range j).map fun t => ltrI (bt s t)
theorem letsL_succ (s : ByteArray) (j : Nat) : letsL s (j + 1) = letsL s j ++ [ltrI (bt s j)] := by simp [letsL, List.range_succ]
theorem letsL_length (s : ByteArray) (j : Nat) : (letsL s j).length = j := by simp [letsL]
def allVB (k : Int) (s : ByteArray) : Bool := (List.range s.size).all fun t => ltrB k (bt s t)
def is1 (s : ByteArray) : Bool := s.toList == [49]
/-- the letters of a text, and whether it has the form of a word -/
def rdL (k : Int) (s : ByteArray) : List Int := if is1 s then [] else if allVB k s then letsL s s.size else []
def rdOk (k : Int) (s : ByteArray) : Bool := is1 s || (allVB k s && !s.toList.isEmpty)
theorem allVB_false {k : Int} {s : ByteArray} {j : Nat} (hj : j < s.size) (h : ltrB k (bt s j) = false) : allVB k s = false := by
  unfold allVB; rw [List.all_eq_false]; exact ⟨j, List.mem_range.2 hj, by rw [h]; simp⟩
theorem allVB_true {k : Int} {s : ByteArray} (h : ∀ j, j < s.size → ltrB k (bt s j) = true) : allVB k s = true := List.all_eq_true.2 fun j hj => h j (List.mem_range.1 hj)
theorem rd_one {k : Int} {s : ByteArray} (h : is1 s = true) : rdL k s = [] ∧ rdOk k s = true := by simp [rdL, rdOk, h]
theorem rd_bad {k : Int} {s : ByteArray} (h : is1 s = false) (h2 : allVB k s = false) : rdL k s = [] ∧ rdOk k s = false := by simp [rdL, rdOk, h, h2]
theorem rd_good {k : Int} {s : ByteArray} (h : is1 s = false) (h2 : allVB k s = true) : rdL k s = letsL s s.size ∧ rdOk k s = !s.toList.isEmpty := by simp [rdL, rdOk, h, h2]
theorem toList_size (s : ByteArray) : s.toList.length = s.size := by rw [ByteArray.toList_eq]; rfl
theorem isEmpty_size (s : ByteArray) : s.toList.isEmpty = decide (s.size = 0) := by
  rw [Bool.eq_iff_iff, List.isEmpty_iff_length_eq_zero, toList_size]; simp
theorem ret_tb {v : Value} {a b : Bool} (h : a = b) : Ending.returned (.tuple #[v, .bool a]) = .returned (.tuple #[v, .bool b]) := by rw [h]
theorem valid_imp {k b : Int} (hk0 : 0 ≤ k) (hk : k ≤ 6) : (ltrB k b = true ↔ (97 ≤ b ∧ b ≤ 96 + k) ∨ (65 ≤ b ∧ b ≤ 64 + k)) := by simp [ltrB]

/-- a slice of integers and a bool -/
def RetIntsB (w : World) (xs : List Int) (c : Bool) (e : Ending) (w' : World) : Prop := ∃ v, e = .returned (.tuple #[v, .bool c]) ∧ Ints w' w.heap.size v xs ∧ Below w.heap.size w w'

--== spec.l06Parse
set_option maxHeartbeats 4000000 in
theorem s_l06Parse (k : Int) (s : ByteArray) (w : World) (hk0 : 0 ≤ k) (hk : k ≤ 6) (hs : s.size ≤ 100000000) :
    Calls Try.prog 90 #[.int .i64 k, .string s] w (RetIntsB w (rdL k s) (rdOk k s)) := by
  obtain ⟨i0, hi, hz0, hz1, hz2⟩ := info_parts Try.info2
  by_cases h1 : is1 s = true
  · have HR := Lib.hid (@rd_one k s h1)
    have h1' : (s.toList == [49]) = true := h1
    clear h1
    go_enter Try.func90, Try.ntmps90
    go_wp2
    go_ret2
    exact ⟨_, ret_tb HR.out.2.symm, by rw [HR.out.1]; exact Ints.empty w, below_alloc _ _⟩
  · have h1n : is1 s = false := by simpa using h1
    have h1' : (s.toList == [49]) = false := h1n
    have HB := Lib.hid (fun h2 => @rd_bad k s h1n h2)
    have HGd := Lib.hid (fun h2 => @rd_good k s h1n h2)
    have HEs := Lib.hid (isEmpty_size s)
    have hbt := get_bt s
    clear h1 h1n
    go_enter Try.func90, Try.ntmps90
    go_wp2_with fail
    go_loopw [6, 7, 8, 9] (fun u i _ _ wr => ∃ j : Nat, j ≤ s.size ∧ i = .int .i64 j ∧ Ints wr w.heap.size u (letsL s j) ∧ Below w.heap.size w wr ∧ ∀ t, t < j → ltrB k (bt s t) = true) (fun _ i _ _ _ => s.size - (intOf i).toNat)
    case atStart => exact ⟨0, Nat.zero_le _, rfl, Ints.empty w, below_alloc _ _, fun t h => by omega⟩
    case round =>
      obtain ⟨j, hj, rfl, hI, hB1, hall⟩ := hrel
      have hS := hB1.size
      have HA := Lib.hid hall
      clear hall
      by_cases hlt : j < s.size
      · have hb0 := bt_nonneg s j
        have hb1 := bt_le s j
        have hvi := valid_imp (b := bt s j) hk0 hk
        have HL := Lib.hid (letsL_succ s j)
        have hw0 : IntKind.i64.wrap (bt s j) = bt s j := IntWalk.i64_in _ (by omega)
        have hw1 : IntKind.i64.wrap (bt s j - 97) = bt s j - 97 := IntWalk.i64_in _ (by omega)
        have hw2 : IntKind.i64.wrap (bt s j - 97 + 1) = bt s j - 97 + 1 := IntWalk.i64_in _ (by omega)
        have hw3 : IntKind.i64.wrap (bt s j - 65) = bt s j - 65 := IntWalk.i64_in _ (by omega)
        have hw4 : IntKind.i64.wrap (bt s j - 65 + 1) = bt s j - 65 + 1 := IntWalk.i64_in _ (by omega)
        go_wp2_with fail
        go_quiet (fail)
        clear hw0 hw1 hw2 hw3 hw4 hbt
        have hQ := below_drewN (Below.refl w.heap.size wr) nq
        by_cases hv : ltrB k (bt s j) = true
        · have HX : Hid (∀ t, t < j + 1 → ltrB k (bt s t) = true) := fun t ht => by
            by_cases h : t < j
            · exact HA.out t h
            · obtain rfl : t = j := by omega
              exact hv
          have hv' := hvi.1 hv
          clear hvi hv HA
          generalize bt s j = b at *
          by_cases h97 : 97 ≤ b
          · have hin1 : inB (b - 97 + 1) 1 k = true := inB_true.2 (by omega)
            have HE : Hid (ltrI b = b - 97 + 1) := by show _ = _; unfold ltrI; rw [if_pos h97]; omega
            go_wp2_with (first | (go_at_call 31; refine (s_l01In _ _ _ _).mono ?_; rintro e w' ⟨rfl, rfl⟩) | (at_builtin; refine wp_app1 _ rfl _ _ rfl w.heap.size i0 Try.underlying24 hi hz0 hz1 hz2 _ _ rfl (hI.below (below_drewN (Below.refl _ _) nq)) (b - 97 + 1) rfl (by rw [letsL_length]; omega) (by show _ ≤ wr.heap.size; omega) ?_))
            intro v' w2 hI1 hG hB2
            go_wp2
            go_roundw
            case rel => exact ⟨j + 1, by omega, by go_num, by rw [HL.out, HE.out]; exact hI1, hB1.trans (hQ.trans hB2), HX.out⟩
            case measure => simp [intOf]; omega
          · have hin1 : inB (b - 97 + 1) 1 k = false := inB_false.2 (by omega)
            have hin2 : inB (b - 65 + 1) 1 k = true := inB_true.2 (by omega)
            have HE : Hid (ltrI b = -(b - 65 + 1)) := by show _ = _; unfold ltrI; rw [if_neg h97]; omega
            go_wp2_with (first | (go_at_call 31; refine (s_l01In _ _ _ _).mono ?_; rintro e w' ⟨rfl, rfl⟩) | (at_builtin; refine wp_app1 _ rfl _ _ rfl w.heap.size i0 Try.underlying24 hi hz0 hz1 hz2 _ _ rfl (hI.below (below_drewN (Below.refl _ _) nq)) (-(b - 65 + 1)) rfl (by rw [letsL_length]; omega) (by show _ ≤ wr.heap.size; omega) ?_))
            intro v' w2 hI1 hG hB2
            go_wp2
            go_roundw
            case rel => exact ⟨j + 1, by omega, by go_num, by rw [HL.out, HE.out]; exact hI1, hB1.trans (hQ.trans hB2), HX.out⟩
            case measure => simp [intOf]; omega
        · have hv0 : ltrB k (bt s j) = false := by simpa using hv
          have HN := Lib.hid (HB.out (allVB_false hlt hv0))
          have hv' : ¬ ((97 ≤ bt s j ∧ bt s j ≤ 96 + k) ∨ (65 ≤ bt s j ∧ bt s j ≤ 64 + k)) := fun h => hv (hvi.2 h)
          clear hvi hv hv0 HA hI
          generalize bt s j = b at *
          have hin1 : inB (b - 97 + 1) 1 k = false := inB_false.2 (by omega)
          have hin2 : inB (b - 65 + 1) 1 k = false := inB_false.2 (by omega)
          clear hv'
          go_wp2_with (first | (go_at_call 31; refine (s_l01In _ _ _ _).mono ?_; rintro e w' ⟨rfl, rfl⟩))
          go_ret2
          exact ⟨_, ret_tb HN.out.2.symm, by rw [HN.out.1]; exact Ints.nil _ _, hB1.trans hQ⟩
      · obtain rfl : j = s.size := by omega
        have HN := Lib.hid (HGd.out (allVB_true HA.out))
        obtain ⟨ao', cap', rfl, _, _⟩ := hI.form
        have hz : ((letsL s s.size).length : Int) = (s.size : Int) := by rw [letsL_length]
        clear HA hbt
        by_cases h0 : s.size = 0
        · have HF : Hid (rdOk k s = false) := by show _ = _; rw [HN.out.2, HEs.out, decide_eq_true h0]; rfl
          have hl0 : (letsL s s.size).length ≤ 0 := by rw [letsL_length]; omega
          go_wp2_with fail
          go_ret2
          refine ⟨_, ret_tb ?_, by rw [HN.out.1]; exact hI, hB1⟩
          rw [HF.out]
          exact decide_eq_false (by simp only [letsL_length]; omega)
        · have HF : Hid (rdOk k s = true) := by show _ = _; rw [HN.out.2, HEs.out, decide_eq_false h0]; rfl
          have hl0 : 0 < (letsL s s.size).length := by rw [letsL_length]; omega
          go_wp2_with fail
          go_ret2
          refine ⟨_, ret_tb ?_, by rw [HN.out.1]; exact hI, hB1⟩
          rw [HF.out]
          exact decide_eq_true (by omega)
--== ParseWord
def prsC (k : Int) (s : ByteArray) : Int := if inB k 0 6 then (if rdOk k s then codeS (rdL k s) else 6) else 2
def prsL (k : Int) (s : ByteArray) : List Int := if inB k 0 6 then (if rdOk k s then shortW (rdL k s) else []) else []
theorem prs_out {k : Int} {s : ByteArray} (h : inB k 0 6 = false) : prsC k s = 2 ∧ prsL k s = [] := by simp [prsC, prsL, h]
theorem prs_bad {k : Int} {s : ByteArray} (h : inB k 0 6 = true) (h2 : rdOk k s = false) : prsC k s = 6 ∧ prsL k s = [] := by simp [prsC, prsL, h, h2]
theorem prs_good {k : Int} {s : ByteArray} (h : inB k 0 6 = true) (h2 : rdOk k s = true) : prsC k s = codeS (rdL k s) ∧ prsL k s = shortW (rdL k s) := by simp [prsC, prsL, h, h2]
theorem len_ParseWord (k : Int) (s : ByteArray) : (prsL k s).length ≤ 1000000000 := by
  unfold prsL
  split
  · split
    · by_cases h : (rdL k s).length ≤ 64
      · rw [(codeS_in h).2]; omega
      · rw [(codeS_out h).2]; simp
    · simp
  · simp
end Go.Proofs.Ytiikoappknejgaa
namespace Go.Proofs.Ytiikoappknejgaa
set_option linter.unusedVariables false
set_option linter.unusedSimpArgs false
set_option maxRecDepth 100000
open Go.RowKit Go.PlainAid

theorem bt_str {ys : List Int} {j : Nat} (hj : j < ys.length) (h : ∀ y ∈ ys, 0 ≤ y ∧ y ≤ 255) : bt (strOfNums ys) j = ys.getD j 0 := by
  have hs : j < (strOfNums ys).size := by rw [strOfNums_size]; exact hj
  have hb := h _ (getD_mem hj)
  rw [← get_bt _ j hs]
  have e : (strOfNums ys)[j]'hs = UInt8.ofNat (ys.getD j 0).toNat := by
    have : (strOfNums ys).data.toList[j]? = some (UInt8.ofNat (ys.getD j 0).toNat) := by
      rw [strOfNums_data, List.getElem?_map, List.getElem?_eq_getElem hj]
      simp [List.getD, hj]
    have h2 : (strOfNums ys).data.toList[j]? = some ((strOfNums ys)[j]'hs) := by
      rw [List.getElem?_eq_getElem (by rw [Array.length_toList]; exact hs)]
      rfl
    rw [h2] at this
    exact Option.some.inj this
  rw [e, UInt8.toNat_ofNat']
  omega
theorem ch_bd {k x : Int} (hk : k ≤ 6) (h : letB k x = true) : 65 ≤ chI x ∧ chI x ≤ 102 ∧ ltrI (chI x) = x ∧ ((97 ≤ chI x ∧ chI x ≤ 96 + k) ∨ (65 ≤ chI x ∧ chI x ≤ 64 + k)) := by
  unfold letB at h
  simp only [Bool.and_eq_true, inB_true, bne_iff_ne, ne_eq] at h
  unfold chI ltrI
  by_cases hp : 0 < x
  · rw [if_pos hp, if_pos (by omega)]; omega
  · rw [if_neg hp, if_neg (by omega)]; omega
theorem txt_at {xs : List Int} {j : Nat} (hj : j < xs.length) : (txtL xs).getD j 0 = chI (xs.getD j 0) := by simp [txtL, List.getD, hj]
theorem prs_txt {k : Int} {xs : List Int} (hk : inB k 0 6 = true) (hw : wordB k xs = true) : prsC k (txtW xs) = 0 ∧ prsL k (txtW xs) = xs := by
  obtain ⟨hk0, hk6⟩ := inB_true.1 hk
  have hw2 : xs.all (letB k) = true ∧ xs.length ≤ 64 := by simpa [wordB] using hw
  have hl := List.all_eq_true.1 hw2.1
  by_cases h0 : xs.length = 0
  · have hx : xs = [] := List.eq_nil_of_length_eq_zero h0
    have h1 : is1 (txtW xs) = true := by rw [txtW_empty h0]; unfold is1; rw [ByteArray.toList_eq]; rfl
    obtain ⟨e1, e2⟩ := rd_one (k := k) h1
    obtain ⟨e3, e4⟩ := prs_good hk e2
    rw [e3, e4, e1, hx]
    exact ⟨rfl, rfl⟩
  · have hb : ∀ y ∈ txtL xs, 0 ≤ y ∧ y ≤ 255 := by
      intro y hy
      unfold txtL at hy
      obtain ⟨x, hx, rfl⟩ := List.mem_map.1 hy
      have := ch_bd hk6 (hl x hx)
      omega
    have hsz : (txtW xs).size = xs.length := by rw [txtW_ne h0, strOfNums_size, txtL_length]
    have hbt : ∀ j, j < xs.length → bt (txtW xs) j = chI (xs.getD j 0) := fun j hj => by
      rw [txtW_ne h0, bt_str (by rw [txtL_length]; exact hj) hb, txt_at hj]
    have h1 : is1 (txtW xs) = false := by
      cases h : is1 (txtW xs) with
      | false => rfl
      | true =>
        unfold is1 at h
        rw [beq_iff_eq] at h
        have hlen := toList_size (txtW xs)
        rw [h, hsz] at hlen
        have hlen' : xs.length = 1 := by simpa using hlen.symm
        have hb0 := hbt 0 (by omega)
        have := ch_bd hk6 (hl _ (getD_mem (xs := xs) (k := 0) (by omega)))
        have e0 : bt (txtW xs) 0 = 49 := by
          rw [← get_bt _ 0 (by rw [hsz]; omega)]
          have h2 : (txtW xs).data.toList[0]? = some ((txtW xs)[0]'(by rw [hsz]; omega)) := by
            rw [List.getElem?_eq_getElem (by have := hsz; simp only [ByteArray.size] at this; simp; omega)]
            rfl
          rw [ByteArray.toList_eq] at h
          rw [h] at h2
          have := Option.some.inj h2
          rw [← this]; rfl
        omega
    have h2 : allVB k (txtW xs) = true := allVB_true fun j hj => by
      rw [hsz] at hj
      rw [hbt j hj]
      exact (valid_imp hk0 hk6).2 (ch_bd hk6 (hl _ (getD_mem hj))).2.2.2
    obtain ⟨e1, e2⟩ := rd_good h1 h2
    have hne : (txtW xs).toList.isEmpty = false := by rw [isEmpty_size, hsz]; simpa using h0
    rw [hne] at e2
    have hlet : letsL (txtW xs) (txtW xs).size = xs := by
      rw [hsz]
      refine all_eq (letsL_length _ _) fun j hj => ?_
      rw [letsL_length] at hj
      have e : (letsL (txtW xs) xs.length).getD j 0 = ltrI (bt (txtW xs) j) := by simp [letsL, List.getD, hj]
      rw [e, hbt j hj]
      exact (ch_bd hk6 (hl _ (getD_mem hj))).2.2.1
    obtain ⟨e3, e4⟩ := prs_good hk (show rdOk k (txtW xs) = true from e2)
    have e5 := codeS_in (xs := xs) hw2.2
    rw [e3, e4, e1, hlet]
    exact e5
end Go.Proofs.Ytiikoappknejgaa
