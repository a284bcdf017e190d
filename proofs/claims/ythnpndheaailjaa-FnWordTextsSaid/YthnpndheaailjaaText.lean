/-
  Texts of words.
-/
import Derived.Test.YthnpndheaailjaaWordsD
import Derived.PlainAid
import Derived.Laws.BytesArg
import Derived.Laws.IdiomStrings
namespace Go.Proofs.Ythnpndheaailjaa
set_option linter.unusedVariables false
set_option linter.unusedSimpArgs false
set_option maxRecDepth 100000
open Go.RowKit Go.PlainAid

/-- an owned row of bytes, as numbers -/
def U8s (w : World) (B : Nat) (v : Value) (ys : List Int) : Prop := w.ownsRow B 5 1 v ys.length (ys.map (Value.int .u8))
theorem U8s.nil (w : World) (B : Nat) : U8s w B (.slice none 0 0) [] := World.ownsRow_nil _ _ _ _
theorem U8s.empty (w : World) : U8s (w.alloc (.cells #[] 5)) w.heap.size (.slice (some ⟨w.heap.size, 0, none⟩) 0 0) [] :=
  ⟨rfl, .inr ⟨w.heap.size, 0, #[], rfl, Nat.le_refl _, heap_alloc_new w _, Nat.le_refl _, by simp [maxLen], rfl, rfl⟩⟩

/-- 'append(out, b)': one byte. -/
theorem wp_app1U {P : Program} (w : World) {ops : Array Oper} {rest : List Oper} {o : Oper} {a : Act} {Q : Exit → Act → World → Prop} (hgd : o.guard = none) (s x : Operand)
    (ho : o.op = .call { callee := .builtin .append, args := #[s, x], argTypes := #[61, 61] })
    (B : Nat) (i : TypeInfo) (ht : P.underlying 61 = some (.slice 5)) (hi : P.info? 5 = some i) (hz : i.zero = some (.int .u8 0)) (hsize : i.size = 1) (hby : i.bytes = 1)
    (v : Value) (xs : List Int) (hs : a.eval s = v) (hown : U8s w B v xs) (y : Int) (hx : a.eval x = .slice (some ⟨w.heap.size, 0, none⟩) 1 1) (hn : xs.length ≤ 1000000000) (hB : B ≤ w.heap.size)
    (h : ∀ v' w', U8s w' B v' (xs ++ [y]) → Grew w w' v v' → Below B w w' → wpList P ops Q rest (a.put o.dst v') w') : wpList P ops Q (o :: rest) a (w.alloc (.cells #[.int .u8 y] 5)) := by
  refine wp_app _ hgd s x 61 ho B 5 i (.int .u8 0) 1 ht hi hz hsize hby rfl v xs.length (xs.map (Value.int .u8)) hs (World.ownsRow.alloc hown _) _ [.int .u8 y] hx ?_ ?_ ?_ ?_ ?_ ?_
  · refine ⟨_, 1, rfl, by simp, by simp, fun h => by (cases h), .inr ⟨w.heap.size, 0, rfl, fun j hj => ?_⟩⟩
    obtain rfl : j = 0 := by simpa using hj
    simp
  · intro u hu; simp at hu; subst hu; rfl
  · simp [maxLen]; omega
  · simp; omega
  · simp; omega
  · intro v' w' h1 h2 h3
    have hg : Grew w w' v v' := ⟨⟨h2.os, h2.tape, h2.output, by have := h2.size; simp at this; omega, fun k hk hne => (h2.block k (by simp; omega) hne).trans (Below.heap_alloc w _ k hk)⟩, fun g hg => (h3 g hg).imp id fun h => by simp at h; omega⟩
    refine h v' w' ?_ hg (hg.below hB fun g hg => (World.ownsRow.lt hown g hg).1)
    unfold U8s
    rw [List.length_append, List.map_append]
    exact h1

/-- 'string(b)' of an owned row -/
theorem wp_b2s {P : Program} (w : World) {ops : Array Oper} {rest : List Oper} {o : Oper} {a : Act} {Q : Exit → Act → World → Prop} (hgd : o.guard = none) (x : Operand) (ho : o.op = Op.convert 61 9 x)
    (hs : P.underlying 61 = some (.slice 5)) (he : P.underlying 5 = some (.int .u8)) (hd : P.underlying 9 = some .string)
    (B : Nat) (v : Value) (ys : List Int) (hx : a.eval x = v) (hown : U8s w B v ys) (h : wpList P ops Q rest (a.put o.dst (.string (strOfNums ys))) w) : wpList P ops Q (o :: rest) a w := by
  refine wpList_plain hgd fun K hK' => ?_
  have hr : (convert 61 9 v).run P w = .ok (.string (strOfNums ys)) w := by
    have hl : (ys.map (Value.int .u8)).length = ys.length := by simp
    rcases hown.2 with ⟨rfl, h0⟩ | ⟨g, cap, cur, rfl, hb, hg, hnc, hcm, hcs, htake⟩
    · have : ys = [] := List.eq_nil_of_length_eq_zero h0
      subst this
      exact run_convert_bytes_nil w _ _ hs he 0 0 _ hd
    · have h1 : w.ownsRow B 5 1 (.slice (some ⟨g, 0, none⟩) ys.length cap) ys.length (ys.map (Value.int .u8)) := hown
      refine run_convert_bytes_arg w _ _ hs he g 0 ys.length cap ys rfl (fun i hi => ?_) _ hd
      rw [Nat.zero_add, h1.cellAt i (by omega)]
      simp [List.getD, hi]
  unfold Oper.wp execOp
  simp only [ho, hx, Sem.run_bind, Sem.run_pure, Result.andThen_ok, hr]
  exact hK' _ _ h

/-! ### the text of a word -/
def chI (x : Int) : Int := if 0 < x then 96 + x else 64 - x
def txtL (xs : List Int) : List Int := xs.map chI
theorem txtL_succ (xs : List Int) (k : Nat) (h : k < xs.length) : txtL (xs.take (k + 1)) = txtL (xs.take k) ++ [chI (xs.getD k 0)] := by
  rw [take_snoc xs k 0 h]; simp [txtL]
theorem txtL_length (xs : List Int) : (txtL xs).length = xs.length := by simp [txtL]
def txtW (xs : List Int) : ByteArray := if xs.length = 0 then ⟨#[49]⟩ else strOfNums (txtL xs)
theorem txtW_empty {xs : List Int} (h : xs.length = 0) : txtW xs = ⟨#[49]⟩ := if_pos h
theorem txtW_ne {xs : List Int} (h : ¬ xs.length = 0) : txtW xs = strOfNums (txtL xs) := if_neg h
theorem ret_str {a b : ByteArray} (h : a = b) : Ending.returned (.string a) = .returned (.string b) := by rw [h]
def Let26 (xs : List Int) : Prop := ∀ x ∈ xs, -20 ≤ x ∧ x ≤ 20
theorem wordB_26 {k : Int} {xs : List Int} (hk : k ≤ 6) (h : wordB k xs = true) : Let26 xs := by
  simp only [wordB, Bool.and_eq_true, List.all_eq_true] at h
  intro x hx
  have := h.1 x hx
  simp only [letB, Bool.and_eq_true] at this
  have := inB_true.1 this.2
  omega

--== impl.wordText
set_option maxHeartbeats 2000000 in
theorem i_wordText (v : Value) (xs : List Int) (w : World) (hv : Rd w v xs) (hs : xs.length ≤ 100000000) (hx : Let26 xs) :
    Calls Try.prog 109 #[v] w (RetV w (.string (txtW xs))) := by
  obtain ⟨i0, hi, hz0, hz1, hz2⟩ := info_parts Try.infoByte
  obtain ⟨ao, cap, rfl, _, _, _, hA⟩ := hv
  by_cases h0 : xs.length = 0
  · have HT := Lib.hid (txtW_empty h0)
    have h0' : xs.length ≤ 0 := by omega
    have h0b : ((xs.length : Int) == 0) = true := by simp [h0]
    clear h0
    go_enter Try.func109, Try.ntmps109
    go_wp2
    go_ret
    exact ⟨ret_str HT.out.symm, Below.refl _ _⟩
  · have HT := Lib.hid (txtW_ne h0)
    have h0' : 0 < xs.length := by omega
    have h0b : ((xs.length : Int) == 0) = false := by simp; intro h; exact h0 (by simp [h])
    clear h0
    go_enter Try.func109, Try.ntmps109
    go_wp2
    go_loopw [3, 5, 11] (fun u _ i wr => ∃ j : Nat, j ≤ xs.length ∧ i = .int .i64 j ∧ U8s wr w.heap.size u (txtL (xs.take j)) ∧ Below w.heap.size w wr) (fun _ _ i _ => xs.length - (intOf i).toNat)
    case atStart => exact ⟨0, Nat.zero_le _, rfl, U8s.nil _ _, Below.refl _ _⟩
    case round =>
      obtain ⟨j, hj, rfl, hI, hB⟩ := hrel
      have hS := hB.size
      by_cases hlt : j < xs.length
      · rcases hA with hA | ⟨b, off, rfl, hA⟩
        · omega
        have hc := hA j hlt
        have hcell : wr.cell? ⟨b, off + j, none⟩ = some (.int .i64 (xs.getD j 0)) := (hB.cell (World.block_lt_of_cell? w _ hc)).trans hc
        obtain ⟨hx1, hx2⟩ := hx _ (getD_mem hlt)
        have HS := Lib.hid (txtL_succ xs j hlt)
        have hll : (txtL (xs.take j)).length ≤ 1000000000 := by rw [txtL_length]; simp; omega
        clear hA hc
        generalize xs.getD j 0 = x at *
        generalize txtL (xs.take j) = R at *
        by_cases hp : 0 < x
        · have HE : Hid (chI x = 97 + x - 1) := by show _ = _; unfold chI; rw [if_pos hp]; omega
          go_wp2_with (at_builtin; refine wp_app1U _ rfl _ _ rfl w.heap.size i0 Try.underlying61 hi hz0 hz1 hz2 _ _ rfl hI (97 + x - 1) rfl hll (by omega) ?_)
          intro v' w1 hI1 hG hB1
          go_wp2
          go_roundw
          case rel => exact ⟨j + 1, by omega, by go_num, by rw [HS.out, HE.out]; exact hI1, hB.trans hB1⟩
          case measure => simp [intOf]; omega
        · have HE : Hid (chI x = 65 - x - 1) := by show _ = _; unfold chI; rw [if_neg hp]; omega
          go_wp2_with (at_builtin; refine wp_app1U _ rfl _ _ rfl w.heap.size i0 Try.underlying61 hi hz0 hz1 hz2 _ _ rfl hI (65 - x - 1) rfl hll (by omega) ?_)
          intro v' w1 hI1 hG hB1
          go_wp2
          go_roundw
          case rel => exact ⟨j + 1, by omega, by go_num, by rw [HS.out, HE.out]; exact hI1, hB.trans hB1⟩
          case measure => simp [intOf]; omega
      · obtain rfl : j = xs.length := by omega
        rw [List.take_length] at hI
        go_wp2_with (with_reducible refine wp_b2s _ rfl _ rfl Try.underlying61 Try.underlying5 Try.underlying9 _ _ _ rfl hI ?_)
        go_ret
        exact ⟨ret_str HT.out.symm, hB⟩
--== spec.l06Text
set_option maxHeartbeats 2000000 in
theorem s_l06Text (v : Value) (xs : List Int) (w : World) (hv : Rd w v xs) (hs : xs.length ≤ 100000000) (hx : Let26 xs) :
    Calls Try.prog 110 #[v] w (RetV w (.string (txtW xs))) := by
  obtain ⟨i0, hi, hz0, hz1, hz2⟩ := info_parts Try.infoByte
  obtain ⟨ao, cap, rfl, _, _, _, hA⟩ := hv
  by_cases h0 : xs.length = 0
  · have HT := Lib.hid (txtW_empty h0)
    have h0' : xs.length ≤ 0 := by omega
    have h0b : ((xs.length : Int) == 0) = true := by simp [h0]
    clear h0
    go_enter Try.func110, Try.ntmps110
    go_wp2
    go_ret
    exact ⟨ret_str HT.out.symm, Below.refl _ _⟩
  · have HT := Lib.hid (txtW_ne h0)
    have h0' : 0 < xs.length := by omega
    have h0b : ((xs.length : Int) == 0) = false := by simp; intro h; exact h0 (by simp [h])
    clear h0
    go_enter Try.func110, Try.ntmps110
    go_wp2
    go_loopw [3, 4] (fun u i wr => ∃ j : Nat, j ≤ xs.length ∧ i = .int .i64 j ∧ U8s wr w.heap.size u (txtL (xs.take j)) ∧ Below w.heap.size w wr) (fun _ i _ => xs.length - (intOf i).toNat)
    case atStart => exact ⟨0, Nat.zero_le _, rfl, U8s.empty w, below_alloc _ _⟩
    case round =>
      obtain ⟨j, hj, rfl, hI, hB⟩ := hrel
      have hS := hB.size
      by_cases hlt : j < xs.length
      · rcases hA with hA | ⟨b, off, rfl, hA⟩
        · omega
        have hc := hA j hlt
        have hcell : wr.cell? ⟨b, off + j, none⟩ = some (.int .i64 (xs.getD j 0)) := (hB.cell (World.block_lt_of_cell? w _ hc)).trans hc
        obtain ⟨hx1, hx2⟩ := hx _ (getD_mem hlt)
        have HS := Lib.hid (txtL_succ xs j hlt)
        have hll : (txtL (xs.take j)).length ≤ 1000000000 := by rw [txtL_length]; simp; omega
        clear hA hc
        generalize xs.getD j 0 = x at *
        generalize txtL (xs.take j) = R at *
        by_cases hp : 0 < x
        · have HE : Hid (chI x = 97 + x - 1) := by show _ = _; unfold chI; rw [if_pos hp]; omega
          go_wp2_with (at_builtin; refine wp_app1U _ rfl _ _ rfl w.heap.size i0 Try.underlying61 hi hz0 hz1 hz2 _ _ rfl hI (97 + x - 1) rfl hll (by omega) ?_)
          intro v' w1 hI1 hG hB1
          go_wp2
          go_roundw
          case rel => exact ⟨j + 1, by omega, by go_num, by rw [HS.out, HE.out]; exact hI1, hB.trans hB1⟩
          case measure => simp [intOf]; omega
        · have HE : Hid (chI x = 65 - x - 1) := by show _ = _; unfold chI; rw [if_neg hp]; omega
          go_wp2_with (at_builtin; refine wp_app1U _ rfl _ _ rfl w.heap.size i0 Try.underlying61 hi hz0 hz1 hz2 _ _ rfl hI (65 - x - 1) rfl hll (by omega) ?_)
          intro v' w1 hI1 hG hB1
          go_wp2
          go_roundw
          case rel => exact ⟨j + 1, by omega, by go_num, by rw [HS.out, HE.out]; exact hI1, hB.trans hB1⟩
          case measure => simp [intOf]; omega
      · obtain rfl : j = xs.length := by omega
        rw [List.take_length] at hI
        go_wp2_with (with_reducible refine wp_b2s _ rfl _ rfl Try.underlying61 Try.underlying5 Try.underlying9 _ _ _ rfl hI ?_)
        go_ret
        exact ⟨ret_str HT.out.symm, hB⟩
--== okS
def okS (c : Int) (s : ByteArray) : ByteArray := if c = 0 then s else ⟨#[]⟩
theorem okS_zero {c : Int} {s : ByteArray} (h : c = 0) : okS c s = s := if_pos h
theorem okS_ne {c : Int} {s : ByteArray} (h : ¬ c = 0) : okS c s = ⟨#[]⟩ := if_neg h
theorem ret_st {a b : ByteArray} {x y : Int} (h : a = b) (h' : x = y) : Ending.returned (.tuple #[.string a, .int .i64 x]) = .returned (.tuple #[.string b, .int .i64 y]) := by rw [h, h']
--== impl.WordText
set_option maxHeartbeats 1000000 in
theorem i_WordText (k : Int) (v : Value) (xs : List Int) (w : World) (hv : Rd w v xs) :
    Calls Try.prog 45 #[.int .i64 k, v] w (RetV w (.tuple #[.string (okS (codeOf k [xs]) (txtW xs)), .int .i64 (codeOf k [xs])])) := by
  obtain ⟨ao, cap, rfl, _, _⟩ := hv.form
  have hl := Rd2.lit1 22 _ xs hv
  by_cases hc : codeOf k [xs] = 0
  · obtain ⟨⟨h0, h6⟩, hw⟩ := codeOf_zero hc
    have hwx := hw xs (by simp)
    obtain ⟨hsm, h64⟩ := wordB_small h6 hwx
    have h26 := Lib.hid (wordB_26 h6 hwx)
    have HC := Lib.hid hc
    clear hc hw hwx
    go_enter Try.func45, Try.ntmps45
    go_wp2_with fail
    refine (i_wordCode _ _ _ _ hl).mono ?_
    rintro e w' ⟨rfl, rfl⟩
    rw [HC.out]
    go_wp2_with fail
    refine (i_wordText _ xs _ (hv.below (below_alloc _ _)) (wf_len h64) h26.out).mono ?_
    rintro e w2 ⟨rfl, hB⟩
    go_wp2_with fail
    go_ret2
    exact ⟨ret_st (okS_zero HC.out).symm HC.out.symm, below_allocd hB⟩
  · have hc1 : (codeOf k [xs] != 0) = true := by simpa using hc
    have HC := Lib.hid hc
    clear hc
    go_enter Try.func45, Try.ntmps45
    go_wp2_with fail
    refine (i_wordCode _ _ _ _ hl).mono ?_
    rintro e w' ⟨rfl, rfl⟩
    go_wp2_with fail
    go_ret2
    exact ⟨ret_st (okS_ne HC.out).symm rfl, below_alloc _ _⟩
--== spec.WordText
set_option maxHeartbeats 1000000 in
theorem s_WordText (k : Int) (v : Value) (xs : List Int) (w : World) (hv : Rd w v xs) :
    Calls Try.prog 46 #[.int .i64 k, v] w (RetV w (.tuple #[.string (okS (codeOf k [xs]) (txtW xs)), .int .i64 (codeOf k [xs])])) := by
  obtain ⟨ao, cap, rfl, _, _⟩ := hv.form
  have HN := Lib.hid (codeOf_nil k xs)
  by_cases hc : codeOf k [xs] = 0
  · obtain ⟨⟨h0, h6⟩, hw⟩ := codeOf_zero hc
    have hwx := hw xs (by simp)
    obtain ⟨hsm, h64⟩ := wordB_small h6 hwx
    have h26 := Lib.hid (wordB_26 h6 hwx)
    have HC := Lib.hid hc
    clear hc hw hwx
    go_enter Try.func46, Try.ntmps46
    go_wp2_with fail
    refine (s_l06Code _ _ _ xs [] _ hv (Rd.nil _)).mono ?_
    rintro e w' ⟨rfl, rfl⟩
    rw [HN.out, HC.out]
    go_wp2_with fail
    refine (s_l06Text _ xs _ hv (wf_len h64) h26.out).mono ?_
    rintro e w2 ⟨rfl, hB⟩
    go_wp2_with fail
    go_ret2
    exact ⟨ret_st (okS_zero HC.out).symm HC.out.symm, hB⟩
  · have hc1 : (codeOf k [xs] != 0) = true := by simpa using hc
    have HC := Lib.hid hc
    clear hc
    go_enter Try.func46, Try.ntmps46
    go_wp2_with fail
    refine (s_l06Code _ _ _ xs [] _ hv (Rd.nil _)).mono ?_
    rintro e w' ⟨rfl, rfl⟩
    rw [HN.out]
    go_wp2_with fail
    go_ret2
    exact ⟨ret_st (okS_ne HC.out).symm rfl, Below.refl _ _⟩
end Go.Proofs.Ythnpndheaailjaa
