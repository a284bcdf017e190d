/-
  Reading words.
-/
import Derived.Test.YthnpndheaailjaaText
namespace Go.Proofs.Ythnpndheaailjaa
set_option linter.unusedVariables false
set_option linter.unusedSimpArgs false
set_option maxRecDepth 100000
open Go.RowKit Go.PlainAid

/-- '[]byte(s)': the cells read as the bytes. -/
def RdS (w : World) (v : Value) (s : ByteArray) : Prop :=
  ∃ g cap, v = .slice (some ⟨g, 0, none⟩) s.size cap ∧ s.size ≤ cap ∧ cap ≤ 9223372036854775807 ∧ ∀ j, j < s.size → w.cell? ⟨g, j, none⟩ = some (.int .u8 (bt s j))
theorem RdS.below {w w' : World} {v : Value} {s : ByteArray} (h : RdS w v s) (hb : Below w.heap.size w w') : RdS w' v s := by
  obtain ⟨g, cap, h1, h2, h3, h4⟩ := h
  exact ⟨g, cap, h1, h2, h3, fun j hj => (hb.cell (World.block_lt_of_cell? w _ (h4 j hj))).trans (h4 j hj)⟩

theorem wp_s2b {P : Program} (w : World) {ops : Array Oper} {rest : List Oper} {o : Oper} {a : Act} {Q : Exit → Act → World → Prop} (hgd : o.guard = none) (x : Operand) (ho : o.op = Op.convert 9 61 x)
    (hs : P.underlying 9 = some .string) (hd : P.underlying 61 = some (.slice 5)) (he : P.underlying 5 = some (.int .u8))
    (s : ByteArray) (hx : a.eval x = .string s) (hl : s.size ≤ 9223372036854775807) (h : ∀ w' v, RdS w' v s → Below w.heap.size w w' → wpList P ops Q rest (a.put o.dst v) w') : wpList P ops Q (o :: rest) a w := by
  refine wpList_plain hgd fun K hK' => ?_
  have hr := run_bytes_of_string (P := P) w 9 61 5 s hs hd he
  have hge := grownCap_ge w s.size 0 5
  have hcm : grownCap w s.size 0 5 ≤ maxLen := grownCap_le_maxLen w s.size 0 5 (by unfold maxLen; omega)
  unfold Oper.wp execOp
  simp only [ho, hx, Sem.run_bind, Sem.run_pure, Result.andThen_ok, hr]
  refine hK' _ _ (h _ _ ⟨w.heap.size, _, rfl, hge, by unfold maxLen at hcm; omega, fun j hj => ?_⟩ ?_)
  · have hg : (w.drew.alloc (.cells (bytesRow s (grownCap w s.size 0 5)) 5 ((bytesRow s (grownCap w s.size 0 5)).size, (bytesRow s (grownCap w s.size 0 5)).size + 1))).heap[w.heap.size]? = some (.cells (bytesRow s (grownCap w s.size 0 5)) 5 ((bytesRow s (grownCap w s.size 0 5)).size, (bytesRow s (grownCap w s.size 0 5)).size + 1)) := heap_alloc_new w.drew _
    rw [cell_of_row _ _ j _ _ _ hg]
    unfold bytesRow
    rw [Array.getElem?_append_left (by simpa using hj)]
    rw [← get_bt s j hj]
    simp [hj]
    rfl
  · exact ⟨rfl, rfl, rfl, by simp, fun k hk => Below.heap_alloc w.drew _ k hk⟩

/-! ### what a text reads as -/
def ltrI (b : Int) : Int := if 97 ≤ b then b - 96 else 64 - b
def ltrB (k b : Int) : Bool := (decide (97 ≤ b) && decide (b ≤ 96 + k)) || (decide (65 ≤ b) && decide (b ≤ 64 + k))
def letsL (s : ByteArray) (j : Nat) : List Int := (List.range j).map fun t => ltrI (bt s t)
theorem letsL_succ (s : ByteArray) (j : Nat) : letsL s (j + 1) = letsL s j ++ [ltrI (bt s j)] := by simp [letsL, List.range_succ]
theorem letsL_length (s : ByteArray) (j : Nat) : (letsL s j).length = j := by simp [letsL]
def allVB (k : Int) (s : ByteArray) : Bool := (List.range s.size).all fun t => ltrB k (bt s t)
def is1 (s : ByteArray) : Bool := s.toList == [49]
/-- the letters of a text, and whether it has the form of a word -/
def rdL (k : Int) (s : ByteArray) : List Int := if is1 s then [] else if allVB k s then letsL s s.size else []
def rdOk (k : Int) (s : ByteArray) : Bool := is1 s || (allVB k s && !s.toList.isEmpty)
theorem allVB_false {k : Int} {s : ByteArray} {j : Nat} (hj : j < s.size) (h : ltrB k (bt s j) = false) : allVB k s = false := by
  unfold allVB; rw [List.all_eq_false]; exact ⟨j, List.mem_range.2 hj, by rw [h]; simp⟩
theorem allVB_true {k : Int} {s : ByteArray} (h : ∀ j, j < s.size → ltrB k (bt s j) = true) : allVB k s = true := List.all_eq_true.2 fun j hj => h j (List.mem_range.1 hj)
theorem rd_one {k : Int} {s : ByteArray} (h : is1 s = true) : rdL k s = [] ∧ rdOk k s = true := by simp [rdL, rdOk, h]
theorem rd_bad {k : Int} {s : ByteArray} (h : is1 s = false) (h2 : allVB k s = false) : rdL k s = [] ∧ rdOk k s = false := by simp [rdL, rdOk, h, h2]
theorem rd_good {k : Int} {s : ByteArray} (h : is1 s = false) (h2 : allVB k s = true) : rdL k s = letsL s s.size ∧ rdOk k s = !s.toList.isEmpty := by simp [rdL, rdOk, h, h2]
theorem toList_size (s : ByteArray) : s.toList.length = s.size := by rw [ByteArray.toList_eq]; rfl
theorem isEmpty_size (s : ByteArray) : s.toList.isEmpty = decide (s.size = 0) := by
  rw [Bool.eq_iff_iff, List.isEmpty_iff_length_eq_zero, toList_size]; simp
theorem ret_tb {v : Value} {a b : Bool} (h : a = b) : Ending.returned (.tuple #[v, .bool a]) = .returned (.tuple #[v, .bool b]) := by rw [h]
theorem valid_imp {k b : Int} (hk0 : 0 ≤ k) (hk : k ≤ 6) : (ltrB k b = true ↔ (97 ≤ b ∧ b ≤ 96 + k) ∨ (65 ≤ b ∧ b ≤ 64 + k)) := by simp [ltrB]

/-- a slice of integers and a bool -/
def RetIntsB (w : World) (xs : List Int) (c : Bool) (e : Ending) (w' : World) : Prop := ∃ v, e = .returned (.tuple #[v, .bool c]) ∧ Ints w' w.heap.size v xs ∧ Below w.heap.size w w'

--== impl.readWord
set_option maxHeartbeats 4000000 in
theorem i_readWord (k : Int) (s : ByteArray) (w : World) (hk0 : 0 ≤ k) (hk : k ≤ 6) (hs : s.size ≤ 100000000) :
    Calls Try.prog 113 #[.int .i64 k, .string s] w (RetIntsB w (rdL k s) (rdOk k s)) := by
  obtain ⟨i0, hi, hz0, hz1, hz2⟩ := info_parts Try.info2
  by_cases h1 : is1 s = true
  · have HR := Lib.hid (@rd_one k s h1)
    have h1' : (s.toList == [49]) = true := h1
    clear h1
    go_enter Try.func113, Try.ntmps113
    go_wp2
    go_ret2
    exact ⟨_, ret_tb HR.out.2.symm, by rw [HR.out.1]; exact Ints.nil _ _, Below.refl _ _⟩
  · have h1n : is1 s = false := by simpa using h1
    have h1' : (s.toList == [49]) = false := h1n
    have HB := Lib.hid (fun h2 => @rd_bad k s h1n h2)
    have HGd := Lib.hid (fun h2 => @rd_good k s h1n h2)
    have HEs := Lib.hid (isEmpty_size s)
    clear h1 h1n
    go_enter Try.func113, Try.ntmps113
    go_wp2_with (with_reducible refine wp_s2b _ rfl _ rfl Try.underlying9 Try.underlying61 Try.underlying5 s rfl (by omega) ?_)
    intro w1 v1 hr hB0
    obtain ⟨g, cap, rfl, _, _, hA⟩ := hr
    go_wp2_with fail
    go_loopw [6, 8, 9, 15] (fun u _ _ i wr => ∃ j : Nat, j ≤ s.size ∧ i = .int .i64 j ∧ Ints wr w1.heap.size u (letsL s j) ∧ Below w1.heap.size w1 wr ∧ ∀ t, t < j → ltrB k (bt s t) = true) (fun _ _ _ i _ => s.size - (intOf i).toNat)
    case atStart => exact ⟨0, Nat.zero_le _, rfl, Ints.nil _ _, Below.refl _ _, fun t h => by omega⟩
    case round =>
      obtain ⟨j, hj, rfl, hI, hB1, hall⟩ := hrel
      have hS := hB1.size
      have HA := Lib.hid hall
      clear hall
      by_cases hlt : j < s.size
      · have hc := hA j hlt
        have hcell : wr.cell? ⟨g, j, none⟩ = some (.int .u8 (bt s j)) := (hB1.cell (World.block_lt_of_cell? w1 _ hc)).trans hc
        have hb0 := bt_nonneg s j
        have hb1 := bt_le s j
        have hvi := valid_imp (b := bt s j) hk0 hk
        have HL := Lib.hid (letsL_succ s j)
        by_cases hv : ltrB k (bt s j) = true
        · have HX : Hid (∀ t, t < j + 1 → ltrB k (bt s t) = true) := fun t ht => by
            by_cases h : t < j
            · exact HA.out t h
            · obtain rfl : t = j := by omega
              exact hv
          have hv' := hvi.1 hv
          clear hA hc hvi hv HA
          generalize bt s j = b at *
          by_cases h97 : 97 ≤ b
          · have hlt97 : ¬ b < 97 := by omega
            have hb65 : ¬ b < 65 := by omega
            have hin : inB (b - 97 + 1) (-k) k = true := inB_true.2 (by omega)
            have HE : Hid (ltrI b = b - 97 + 1) := by show _ = _; unfold ltrI; split <;> omega
            go_wp2_with (first | (go_at_call 73; refine (i_inside _ _ _ _).mono ?_; rintro e w' ⟨rfl, rfl⟩; rw [hin]) | (at_builtin; refine wp_app1 _ rfl _ _ rfl w1.heap.size i0 Try.underlying22 hi hz0 hz1 hz2 _ _ rfl hI (b - 97 + 1) rfl (by rw [letsL_length]; omega) (by omega) ?_))
            intro v' w2 hI1 hG hB2
            go_wp2
            go_roundw
            case rel => exact ⟨j + 1, by omega, by go_num, by rw [HL.out, HE.out]; exact hI1, hB1.trans hB2, HX.out⟩
            case measure => simp [intOf]; omega
          · have hlt97 : b < 97 := by omega
            have hb65 : ¬ b < 65 := by omega
            have hin : inB (65 - b - 1) (-k) k = true := inB_true.2 (by omega)
            have HE : Hid (ltrI b = 65 - b - 1) := by show _ = _; unfold ltrI; split <;> omega
            go_wp2_with (first | (go_at_call 73; refine (i_inside _ _ _ _).mono ?_; rintro e w' ⟨rfl, rfl⟩; rw [hin]) | (at_builtin; refine wp_app1 _ rfl _ _ rfl w1.heap.size i0 Try.underlying22 hi hz0 hz1 hz2 _ _ rfl hI (65 - b - 1) rfl (by rw [letsL_length]; omega) (by omega) ?_))
            intro v' w2 hI1 hG hB2
            go_wp2
            go_roundw
            case rel => exact ⟨j + 1, by omega, by go_num, by rw [HL.out, HE.out]; exact hI1, hB1.trans hB2, HX.out⟩
            case measure => simp [intOf]; omega
        · have hv0 : ltrB k (bt s j) = false := by simpa using hv
          have HN := Lib.hid (HB.out (allVB_false hlt hv0))
          have hv' : ¬ ((97 ≤ bt s j ∧ bt s j ≤ 96 + k) ∨ (65 ≤ bt s j ∧ bt s j ≤ 64 + k)) := fun h => hv (hvi.2 h)
          clear hA hc hvi hv hv0 HA hI
          generalize bt s j = b at *
          by_cases h97 : 97 ≤ b
          · have hlt97 : ¬ b < 97 := by omega
            have hb65 : ¬ b < 65 := by omega
            have hgt : 96 + k < b := by omega
            clear hv'
            have hin : inB (b - 97 + 1) (-k) k = false := inB_false.2 (by omega)
            go_wp2_with (first | (go_at_call 73; refine (i_inside _ _ _ _).mono ?_; rintro e w' ⟨rfl, rfl⟩; rw [hin]))
            go_ret2
            exact ⟨_, ret_tb HN.out.2.symm, by rw [HN.out.1]; exact Ints.nil _ _, below_size hB0 hB1⟩
          · have hlt97 : b < 97 := by omega
            by_cases h65 : b < 65
            · go_wp2_with fail
              go_ret2
              exact ⟨_, ret_tb HN.out.2.symm, by rw [HN.out.1]; exact Ints.nil _ _, below_size hB0 hB1⟩
            · have hgt : 64 + k < b := by omega
              clear hv'
              have hin : inB (65 - b - 1) (-k) k = false := inB_false.2 (by omega)
              go_wp2_with (first | (go_at_call 73; refine (i_inside _ _ _ _).mono ?_; rintro e w' ⟨rfl, rfl⟩; rw [hin]))
              go_ret2
              exact ⟨_, ret_tb HN.out.2.symm, by rw [HN.out.1]; exact Ints.nil _ _, below_size hB0 hB1⟩
      · obtain rfl : j = s.size := by omega
        have HN := Lib.hid (HGd.out (allVB_true HA.out))
        clear HA
        go_wp2_with fail
        go_ret2
        exact ⟨_, ret_tb (by rw [HN.out.2]), by rw [HN.out.1]; exact hI.mono hB0.size, below_size hB0 hB1⟩
--== ParseWord
def prsC (k : Int) (s : ByteArray) : Int := if inB k 0 6 then (if rdOk k s then codeS (rdL k s) else 6) else 2
def prsL (k : Int) (s : ByteArray) : List Int := if inB k 0 6 then (if rdOk k s then shortW (rdL k s) else []) else []
theorem prs_out {k : Int} {s : ByteArray} (h : inB k 0 6 = false) : prsC k s = 2 ∧ prsL k s = [] := by simp [prsC, prsL, h]
theorem prs_bad {k : Int} {s : ByteArray} (h : inB k 0 6 = true) (h2 : rdOk k s = false) : prsC k s = 6 ∧ prsL k s = [] := by simp [prsC, prsL, h, h2]
theorem prs_good {k : Int} {s : ByteArray} (h : inB k 0 6 = true) (h2 : rdOk k s = true) : prsC k s = codeS (rdL k s) ∧ prsL k s = shortW (rdL k s) := by simp [prsC, prsL, h, h2]
theorem len_ParseWord (k : Int) (s : ByteArray) : (prsL k s).length ≤ 1000000000 := by
  unfold prsL
  split
  · split
    · by_cases h : (rdL k s).length ≤ 64
      · rw [(codeS_in h).2]; omega
      · rw [(codeS_out h).2]; simp
    · simp
  · simp
--== impl.ParseWord
set_option maxHeartbeats 1000000 in
theorem i_ParseWord (k : Int) (s : ByteArray) (w : World) (hs : s.size ≤ 100000000) :
    Calls Try.prog 48 #[.int .i64 k, .string s] w (RetInts2 w (prsL k s) (prsC k s)) := by
  by_cases hk : inB k 0 6 = true
  · obtain ⟨h0, h6⟩ := inB_true.1 hk
    by_cases ho : rdOk k s = true
    · have HP := Lib.hid (prs_good hk ho)
      go_enter Try.func48, Try.ntmps48
      go_wp2_with (go_at_call 111; refine (i_gensFit _ _).mono ?_; rintro e w' ⟨rfl, rfl⟩)
      refine (i_readWord k s _ h0 h6 hs).mono ?_
      rintro e w1 ⟨v1, rfl, hI, hB⟩
      go_wp2_with fail
      refine (i_shortWord _ _ _ _ hI).mono ?_
      rintro e w' ⟨⟨v', rfl, hI'⟩, rfl⟩
      go_wp2_with fail
      go_ret2
      exact ⟨_, ret_tup HP.out.1.symm, by rw [HP.out.2]; exact hI', hB⟩
    · have ho' : rdOk k s = false := by simpa using ho
      have HP := Lib.hid (prs_bad hk ho')
      clear ho
      go_enter Try.func48, Try.ntmps48
      go_wp2_with (go_at_call 111; refine (i_gensFit _ _).mono ?_; rintro e w' ⟨rfl, rfl⟩)
      refine (i_readWord k s _ h0 h6 hs).mono ?_
      rintro e w1 ⟨v1, rfl, hI, hB⟩
      go_wp2_with fail
      go_ret2
      exact ⟨_, ret_tup HP.out.1.symm, by rw [HP.out.2]; exact Ints.nil _ _, hB⟩
  · have hk' : inB k 0 6 = false := by simpa using hk
    have HP := Lib.hid (@prs_out k s hk')
    clear hk
    go_enter Try.func48, Try.ntmps48
    go_wp2_with (go_at_call 111; refine (i_gensFit _ _).mono ?_; rintro e w' ⟨rfl, rfl⟩)
    go_ret2
    exact ⟨_, ret_tup HP.out.1.symm, by rw [HP.out.2]; exact Ints.nil _ _, Below.refl _ _⟩
