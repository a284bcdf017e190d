/-
  CyclicPresentation.
-/
import Derived.Test.YthnpndheaailjaaFac
import Derived.Test.YthnpndheaailjaaRel
namespace Go.Proofs.Ythnpndheaailjaa
set_option linter.unusedVariables false
set_option linter.unusedSimpArgs false
set_option maxRecDepth 100000
open Go.RowKit

--== stores into a presentation
theorem op_setPow {w : World} {S T : Nat → Prop} {v1 v2 v3 : Value} {p : Pres} (h : OP w S v1 v2 v3 p) {j : Nat} (hj : j < p.powers.length) {y : Value} {d : List Int} (hy : O1 w T y d) (hd : ∀ k, T k → ¬ S k) :
    ∃ g cap, v2 = .slice (some ⟨g, 0, none⟩) p.powers.length cap ∧ (∃ r, w.cell? ⟨g, j, none⟩ = some r) ∧ w.frozen? ⟨g, j, none⟩ = false ∧ S g ∧ OP (w.setCell ⟨g, j, none⟩ y) (fun k => S k ∨ T k) v1 v2 v3 ⟨p.orders, p.powers.set j d, p.conj⟩ := by
  obtain ⟨A, B, C, h1, h2, h3, s1, s2, s3, d1, d2, d3⟩ := h
  obtain ⟨ao, cap, rfl, _, _, ho⟩ := ON.open h2
  rcases ho with h0 | ⟨g, rfl, hg, hlt, hc⟩
  · omega
  have hs := ON.set local_O1 rfl h2 hj hy (fun k hk hb => hd k hk (s2 k hb))
  have hC := ChgS.of_chg hs.2
  refine ⟨g, cap, rfl, (hc j hj).2, (hc j hj).1, s2 g hg, A, fun k => B k ∨ T k, C, local_O1.chg h1 hC (fun k hk e => d1 k hk (e ▸ hg)), hs.1, local_O3.chg h3 hC (fun k hk e => d3 g hg (e ▸ hk)), fun k hk => .inl (s1 k hk), fun k hk => hk.imp (s2 k) id, fun k hk => .inl (s3 k hk), ?_, d2, ?_⟩
  · rintro k hk (hb | hb)
    · exact d1 k hk hb
    · exact hd k hb (s1 k hk)
  · rintro k (hb | hb) hc
    · exact d3 k hb hc
    · exact hd k hb (s3 k hc)
theorem op_putPow {w : World} {S : Nat → Prop} {v1 v2 v3 : Value} {p : Pres} (h : OP w S v1 v2 v3 p) {i j : Nat} (hi : i < p.powers.length) (hj : j < (p.powers.getD i []).length) :
    ∃ g cap g2 cap2, v2 = .slice (some ⟨g, 0, none⟩) p.powers.length cap ∧ w.cell? ⟨g, i, none⟩ = some (.slice (some ⟨g2, 0, none⟩) (p.powers.getD i []).length cap2) ∧ (∃ r, w.cell? ⟨g2, j, none⟩ = some r) ∧ w.frozen? ⟨g2, j, none⟩ = false ∧ S g2 ∧
      ∀ y : Int, OP (w.setCell ⟨g2, j, none⟩ (.int .i64 y)) S v1 v2 v3 ⟨p.orders, p.powers.set i ((p.powers.getD i []).set j y), p.conj⟩ := by
  obtain ⟨A, B, C, h1, h2, h3, s1, s2, s3, d1, d2, d3⟩ := h
  obtain ⟨g, cap, r, T, rfl, hcell, ho, hT, hput⟩ := ON.focus local_O1 h2 i hi
  obtain ⟨g2, cap2, rfl, _, _, _, _, hc2, hf2⟩ := ho.1.open (by omega)
  have hTg : T g2 := ho.2 g2 rfl
  refine ⟨g, cap, g2, cap2, rfl, hcell, ⟨_, hc2 j hj⟩, hf2 j, s2 g2 (hT g2 hTg), fun y => ?_⟩
  obtain ⟨hs1, hs2⟩ := ho.1.set rfl j y
  have hC := ChgS.of_chg hs2
  exact ⟨A, B, C, local_O1.chg h1 hC (fun k hk e => d1 k hk (e ▸ hT g2 hTg)), hput _ _ (hC.sub fun k hk => hk ▸ hTg) ⟨hs1, ho.2⟩, local_O3.chg h3 hC (fun k hk e => d3 g2 (hT g2 hTg) (e ▸ hk)), s1, s2, s3, d1, d2, d3⟩
--== cyclic presentations
def cycRow (n j i : Nat) : List Int := if i < j then unitL n (i + 1) else zrow n
def cycPow (n j : Nat) : List (List Int) := (List.range n).map (cycRow n j)
def cycP (os : List Int) (j : Nat) : Pres := ⟨os, cycPow os.length j, trivConj os.length os.length⟩
theorem cycPow_len (n j : Nat) : (cycPow n j).length = n := by simp [cycPow]
theorem cycP_zero (os : List Int) : triv os = cycP os 0 := by
  unfold triv trivP cycP
  congr 1
  unfold trivPow cycPow
  apply List.ext_getElem
  · simp
  · intro i h1 h2; simp [cycRow]
theorem cycPow_at {n j i : Nat} (hi : i < n) : (cycPow n j).getD i [] = cycRow n j i := by simp [cycPow, List.getD, hi]
theorem cycPow_set {n j : Nat} (hj : j < n) : (cycPow n j).set j (unitL n (j + 1)) = cycPow n (j + 1) := by
  apply List.ext_getElem
  · simp [cycPow]
  · intro i h1 h2
    have hi : i < n := by simpa [cycPow] using h2
    rw [List.getElem_set]
    simp only [cycPow, List.getElem_map, List.getElem_range, cycRow]
    by_cases hij : j = i
    · subst hij; rw [if_pos rfl, if_pos (by omega)]
    · rw [if_neg hij]
      by_cases hl : i < j
      · rw [if_pos hl, if_pos (by omega)]
      · rw [if_neg hl, if_neg (by omega)]
theorem cycPow_row {n j : Nat} (hj : j < n) : (cycPow n j).getD j [] = zrow n := by rw [cycPow_at hj, cycRow, if_neg (by omega)]
theorem zrow_len (n : Nat) : (zrow n).length = n := by simp [zrow]
/-- the whole: the presentation of the cyclic group of order n -/
def cycOs (n : Int) : List Int := (facT n.toNat).2
def cycC (n : Int) : Int := if 1 ≤ n ∧ n ≤ 729 then (if primesB (facs n.toNat).1 = true then (if (cycOs n).length ≤ 6 then 0 else 3) else 2) else 2
def cycR (n : Int) : Pres := cycP (cycOs n) ((cycOs n).length - 1)
theorem cycC_out {n : Int} (h : ¬ (1 ≤ n ∧ n ≤ 729)) : cycC n = 2 := if_neg h
theorem cycC_np {n : Int} (h : primesB (facs n.toNat).1 = false) : cycC n = 2 := by unfold cycC; rw [h]; simp
theorem cycC_big {n : Int} (h : 1 ≤ n ∧ n ≤ 729) (h2 : primesB (facs n.toNat).1 = true) (h3 : ¬ (cycOs n).length ≤ 6) : cycC n = 3 := by unfold cycC; rw [if_pos h, if_pos h2, if_neg h3]
theorem cycC_ok {n : Int} (h : 1 ≤ n ∧ n ≤ 729) (h2 : primesB (facs n.toNat).1 = true) (h3 : (cycOs n).length ≤ 6) : cycC n = 0 := by unfold cycC; rw [if_pos h, if_pos h2, if_pos h3]
theorem facOK_at {k : Nat} (h1 : 1 ≤ k) (h2 : k ≤ 729) : (decide ((facT k).1 = 1) = primesB (facs k).1) ∧ (primesB (facs k).1 = true → flatTo (facs k).1 (facs k).2 (facs k).1.length = (facT k).2) ∧ (facs k).1.length = (facs k).2.length ∧ (facs k).1.length ≤ 10 ∧ (facT k).2.length ≤ 9 ∧ ∀ c ∈ (facs k).2, 0 ≤ c ∧ c ≤ 9 := by
  have h := facOK_all k (by omega) h1
  simp only [facOK, Bool.and_eq_true, Bool.or_eq_true, beq_iff_eq, decide_eq_true_eq, List.all_eq_true] at h
  refine ⟨h.1, fun hp => ?_, h.2.2.1, h.2.2.2.1, h.2.2.2.2.1, h.2.2.2.2.2⟩
  rcases h.2.1 with h3 | h3
  · rw [hp] at h3; exact absurd h3 (by simp)
  · exact h3
--== impl.CyclicPresentation
theorem getD_all {cs : List Int} (h : ∀ c ∈ cs, 0 ≤ c ∧ c ≤ 9) {j : Nat} (hj : j < cs.length) : ∃ c : Nat, cs.getD j 0 = (c : Int) ∧ c ≤ 9 := by
  have := h _ (getD_mem hj)
  exact ⟨(cs.getD j 0).toNat, by omega, by omega⟩
theorem flatTo_bd {ps cs : List Int} (h : ∀ c ∈ cs, 0 ≤ c ∧ c ≤ 9) (j : Nat) (hj : j ≤ cs.length) : (flatTo ps cs j).length ≤ 9 * j := by
  induction j with
  | zero => simp [flatTo]
  | succ j ih =>
    obtain ⟨c, hc, hc9⟩ := getD_all h (show j < cs.length by omega)
    have := ih (by omega)
    rw [flatTo_succ, List.length_append, rep_length, hc]; simp; omega
set_option maxHeartbeats 8000000 in
theorem i_CyclicPresentation (n : Int) (w : World) :
    Calls Try.prog 21 #[.int .i64 n] w (RetP2 w (okP (cycC n) (cycR n)) (cycC n)) := by
  obtain ⟨i0, hi, hz0, hz1, hz2⟩ := info_parts Try.info2
  have g0 := below_alloc w (Obj.cells #[Value.slice none 0 0, Value.slice none 0 0, Value.slice none 0 0] 32)
  have x0 := Bx.new w (Value.slice none 0 0) (Value.slice none 0 0) (Value.slice none 0 0)
  by_cases hn : 1 ≤ n ∧ n ≤ 729
  case neg =>
    have HC := Lib.hid (cycC_out hn)
    have hin : inB n 1 729 = false := inB_false.2 hn
    go_enter Try.func21, Try.ntmps21
    go_wp2_with (go_at_call 73; refine (i_inside _ _ _ _).mono ?_; rintro e w' ⟨rfl, rfl⟩; rw [hin])
    refine bodyPost_ret (v := .tuple #[.agg #[Value.slice none 0 0, Value.slice none 0 0, Value.slice none 0 0], .int .i64 2]) (by simp [results, Try.results21, go_sem]) rfl ?_
    rw [HC.out, okP_ne _ (by omega)]
    exact ⟨_, _, _, rfl, OP.none _ _, by simpa using g0⟩

  have hin : inB n 1 729 = true := inB_true.2 hn
  obtain ⟨k, rfl⟩ : ∃ k : Nat, n = (k : Int) := ⟨n.toNat, by omega⟩
  obtain ⟨fo1, fo2, fo3, fo4, fo5, fo6⟩ := facOK_at (k := k) (by omega) (by omega)
  have HP := Lib.hid fo2
  have HN : Hid (primesB (facs k).1 = false → cycC (k : Int) = 2) := fun h => cycC_np (by simpa using h)
  have HB : Hid (primesB (facs k).1 = true → ¬ (facT k).2.length ≤ 6 → cycC (k : Int) = 3) := fun h h' => cycC_big hn (by simpa using h) (by simpa [cycOs] using h')
  have HK : Hid (primesB (facs k).1 = true → (facT k).2.length ≤ 6 → cycC (k : Int) = 0) := fun h h' => cycC_ok hn (by simpa using h) (by simpa [cycOs] using h')
  have HR : Hid (cycR (k : Int) = cycP (facT k).2 ((facT k).2.length - 1)) := by show _ = _; simp [cycR, cycOs]
  have HF : Hid (∀ j, j ≤ (facs k).2.length → (flatTo (facs k).1 (facs k).2 j).length ≤ 9 * j) := fun j hj => flatTo_bd fo6 j hj
  have HS : Hid (∀ j, flatTo (facs k).1 (facs k).2 (j + 1) = flatTo (facs k).1 (facs k).2 j ++ rep [(facs k).1.getD j 0] ((facs k).2.getD j 0).toNat) := fun j => flatTo_succ _ _ j
  have H6 := Lib.hid fo6
  clear fo1 fo2 fo6
  go_enter Try.func21, Try.ntmps21
  go_wp2_with (go_at_call 73; refine (i_inside _ _ _ _).mono ?_; rintro e w' ⟨rfl, rfl⟩; rw [hin])
  refine (i_factors k _ (by omega) (by omega)).mono ?_
  rintro e w1 ⟨u1, u2, rfl, hI1, hI2, hB⟩
  generalize (facs k).1 = ps at *
  generalize (facs k).2 = cs at *
  generalize (facT k).2 = os at *
  have z1 : w.heap.size < w1.heap.size := by have := hB.size; simp at this; omega
  have g1 := below_size g0 hB
  have x1 := x0.below hB (by simp)
  have R1 := Lib.hid hI1.rd
  have R2 := Lib.hid hI2.rd
  obtain ⟨a1, q1, rfl, _, _⟩ := hI1.form
  obtain ⟨a2, q2, rfl, _, _⟩ := hI2.form
  clear hI1 hI2 hB x0 g0
  go_wp2_with fail
  go_loopw [6, 22] (fun u i wr => ∃ j : Nat, j ≤ ps.length ∧ i = .int .i64 j ∧ Ints wr w1.heap.size u (flatTo ps cs j) ∧ primesB (ps.take j) = true ∧ Below w1.heap.size w1 wr) (fun _ i _ => ps.length - (intOf i).toNat)
  case atStart => exact ⟨0, Nat.zero_le _, rfl, Ints.nil _ _, rfl, Below.refl _ _⟩
  case round =>
    obtain ⟨j, hj, rfl, hI, hpr, hB⟩ := hrel
    have PR := Lib.hid hpr
    have hlen := HF.out j (by omega)
    have sz := hB.size
    clear hpr
    by_cases hlt : j < ps.length
    · obtain ⟨b, off, rfl, hcell⟩ := (R1.out.below hB).at hlt
      obtain ⟨b2, off2, rfl, hcell2⟩ := (R2.out.below hB).at (show j < cs.length by omega)
      obtain ⟨c, hc, hc9⟩ := getD_all H6.out (show j < cs.length by omega)
      have HT : Hid (primesB (ps.take (j + 1)) = (primesB (ps.take j) && primeB (ps.getD j 0))) := by show _ = _; rw [take_snoc ps j 0 hlt, primesB_snoc]
      have HQ := Lib.hid (ordB_no1 hlt)
      have HG := Lib.hid (HS.out j)
      rw [hc] at hcell2 HG
      have lt2 := World.block_lt_of_cell? wr _ hcell2
      generalize ps.getD j 0 = o at *
      generalize flatTo ps cs j = R at *
      by_cases ho : primeB o = true
      · go_wp2_with (go_at_call 82; refine (i_IsGroupPrime _ _).mono ?_; rintro e w' ⟨rfl, rfl⟩; rw [ho])
        refine (f_Repeat _ [o] c _ (Rd.lit1 wr o) (by simp) (by omega)).mono ?_
        rintro e w2 ⟨v2, rfl, hI2', hB2⟩
        obtain ⟨a2', c2', rfl, _, _⟩ := hI2'.form
        have hK2 : Below wr.heap.size wr w2 := below_size (below_alloc wr _) hB2
        have hI' := hI.below hK2
        have s2 := hK2.size
        have hrl : (rep [o] c).length ≤ 9 := by rw [rep_length]; simp; omega
        go_wp2_with (at_builtin; refine wp_appN _ rfl _ _ rfl w1.heap.size i0 Try.underlying22 hi hz0 hz1 hz2 _ _ rfl hI' _ _ rfl hI2'.rd (by omega) (by omega) (by omega) ?_)
        intro v' w3 hI3 hG3 hB3
        go_wp2_with fail
        go_roundw
        case rel => exact ⟨j + 1, by omega, by go_num, by rw [HG.out]; simpa using hI3, by rw [HT.out, PR.out, ho]; rfl, (hB.trans (hK2.mono sz)).trans hB3⟩
        case measure => simp [intOf]; omega
      · have ho' : primeB o = false := by simpa using ho
        have HC := Lib.hid (HN.out (HQ.out ho'))
        have x2 := x1.below hB z1
        have p0 := x2.c0
        have p1 := x2.c1
        have p2 := x2.c2
        have f0 := x2.fr 0
        have f1 := x2.fr 1
        have f2 := x2.fr 2
        have gW : Below w.heap.size w wr := g1.trans (hB.mono (by omega))
        have gW' := ((gW.setCell (p := ⟨w.heap.size, 0, none⟩) (Nat.le_refl _) (Value.slice none 0 0)).setCell (p := ⟨w.heap.size, 1, none⟩) (Nat.le_refl _) (Value.slice none 0 0)).setCell (p := ⟨w.heap.size, 2, none⟩) (Nat.le_refl _) (Value.slice none 0 0)
        clear x2 x1 gW hB g1
        go_wp2_with (go_at_call 82; refine (i_IsGroupPrime _ _).mono ?_; rintro e w' ⟨rfl, rfl⟩; rw [ho'])
        go_wp2_with fail
        refine bodyPost_ret (v := .tuple #[.agg #[Value.slice none 0 0, Value.slice none 0 0, Value.slice none 0 0], .int .i64 2]) (by simp [results, Try.results21, go_sem, p0, p1, p2]) rfl ?_
        rw [HC.out, okP_ne _ (by omega)]
        exact ⟨_, _, _, rfl, OP.none _ _, gW'⟩
    · obtain rfl : j = ps.length := by omega
      have hpr : primesB ps = true := by have := PR.out; rwa [List.take_length] at this
      rw [HP.out hpr] at hI
      have hlen := HF.out ps.length (by omega)
      generalize hfl : flatTo ps cs ps.length = fl at *
      have hofl : os = fl := (HP.out hpr).symm
      subst hofl
      have gW : Below w.heap.size w wr := g1.trans (hB.mono (by omega))
      have xW := x1.below hB z1
      obtain ⟨a6, q6, rfl, _, _⟩ := hI.form
      have R6 := Lib.hid hI.rd
      by_cases h6 : os.length ≤ 6
      case neg =>
        have HC := Lib.hid (HB.out hpr h6)
        have p0 := xW.c0
        have p1 := xW.c1
        have p2 := xW.c2
        have f0 := xW.fr 0
        have f1 := xW.fr 1
        have f2 := xW.fr 2
        have gW' := ((gW.setCell (p := ⟨w.heap.size, 0, none⟩) (Nat.le_refl _) (Value.slice none 0 0)).setCell (p := ⟨w.heap.size, 1, none⟩) (Nat.le_refl _) (Value.slice none 0 0)).setCell (p := ⟨w.heap.size, 2, none⟩) (Nat.le_refl _) (Value.slice none 0 0)
        clear xW x1 gW hB g1 hI
        go_wp2_with fail
        refine bodyPost_ret (v := .tuple #[.agg #[Value.slice none 0 0, Value.slice none 0 0, Value.slice none 0 0], .int .i64 3]) (by simp [results, Try.results21, go_sem, p0, p1, p2]) rfl ?_
        rw [HC.out, okP_ne _ (by omega)]
        exact ⟨_, _, _, rfl, OP.none _ _, gW'⟩
      have HC := Lib.hid (HK.out hpr h6)
      clear hI hB x1 g1
      go_wp2_with fail
      refine (i_trivialRelations _ os _ R6.out (by omega)).mono ?_
      rintro e w4 ⟨v1, v2, v3, rfl, hP, hB4⟩
      rw [cycP_zero] at hP
      have z4 := hB4.size
      have g4 := below_size gW hB4
      have x4 := xW.below hB4 xW.lt
      have xl := xW.lt
      obtain ⟨⟨b1, c1, rfl⟩, ⟨b2, c2, rfl⟩, ⟨b3, c3, rfl⟩⟩ := hP.formsN (n1 := os.length) (n2 := os.length) (n3 := os.length) rfl (cycPow_len _ _) (trivConj_len _ _)
      have y0 := Bx.new w4 (Value.slice b1 os.length c1) (Value.slice b2 os.length c2) (Value.slice b3 os.length c3)
      have hP0 := OP.below hP (below_alloc w4 (Obj.cells #[Value.slice b1 os.length c1, Value.slice b2 os.length c2, Value.slice b3 os.length c3] 32))
      have g5 := g4.alloc (by omega : w.heap.size ≤ w4.heap.size) (Obj.cells #[Value.slice b1 os.length c1, Value.slice b2 os.length c2, Value.slice b3 os.length c3] 32)
      have x5 := x4.old (Obj.cells #[Value.slice b1 os.length c1, Value.slice b2 os.length c2, Value.slice b3 os.length c3] 32)
      clear hP hB4 x4 xW gW g4
      obtain ⟨W0, hW0⟩ : ∃ W0, W0 = wr.heap.size := ⟨_, rfl⟩
      rw [← hW0] at hP0
      have hW1 : w.heap.size < W0 := by omega
      go_wp2_with fail
      go_loopw [50] (fun i w5 => ∃ j : Nat, (j = 0 ∨ j + 1 ≤ os.length) ∧ i = .int .i64 j ∧ OP w5 (win W0 w4.heap.size) (Value.slice b1 os.length c1) (Value.slice b2 os.length c2) (Value.slice b3 os.length c3) (cycP os j) ∧ Bx w5 w4.heap.size (Value.slice b1 os.length c1) (Value.slice b2 os.length c2) (Value.slice b3 os.length c3) ∧ Bx w5 w.heap.size (Value.slice none 0 0) (Value.slice none 0 0) (Value.slice none 0 0) ∧ Below w.heap.size w w5) (fun i _ => os.length - (intOf i).toNat)
      case atStart => exact ⟨0, .inl rfl, rfl, hP0, y0, x5, g5⟩
      case round =>
        clear hP0 y0 x5 g5
        obtain ⟨j, hj, rfl, hP, hY, hX, hW⟩ := hrel
        by_cases hlt : j + 1 < os.length
        · obtain ⟨g, cap, g2, cap2, e2, hcell, ⟨r, hr⟩, hfz, hg2, hput⟩ := op_putPow hP (i := j) (j := j + 1) (by show j < (cycPow os.length j).length; rw [cycPow_len]; omega) (by show j + 1 < ((cycPow os.length j).getD j []).length; rw [cycPow_row (by omega), zrow_len]; omega)
          have e2' := e2
          simp only [Value.slice.injEq] at e2'
          obtain ⟨rfl, _, rfl⟩ := e2'
          have hrow : (cycP os j).powers.getD j [] = zrow os.length := cycPow_row (by omega)
          rw [hrow, zrow_len] at hcell
          have HPn := hput 1
          rw [hrow] at HPn
          have hset : (cycPow os.length j).set j ((zrow os.length).set (j + 1) 1) = cycPow os.length (j + 1) := cycPow_set (by omega)
          have HPn' := HPn
          rw [show (cycP os j).powers = cycPow os.length j from rfl, hset] at HPn'
          have hne1 : g2 ≠ w4.heap.size := by have := hg2.2; omega
          have hne2 : g2 ≠ w.heap.size := by have := hg2.1; omega
          have hY' := hY.other (c := g2) (by omega) (j + 1) (Value.int .i64 1)
          have hX' := hX.other (c := g2) (by omega) (j + 1) (Value.int .i64 1)
          have hW' := hW.setCell (p := ⟨g2, j + 1, none⟩) (by show w.heap.size ≤ g2; have := hg2.1; omega) (Value.int .i64 1)
          have m1 := hY.c1
          clear hput HPn hP hset hrow hX hW hY e2
          go_wp2_with fail
          go_roundw
          case rel => exact ⟨j + 1, .inr (by omega), by go_num, HPn', hY', hX', hW'⟩
          case measure => simp [intOf]; omega
        · have hj' : j = os.length - 1 := by omega
          subst hj'
          have p0 := hX.c0
          have p1 := hX.c1
          have p2 := hX.c2
          have f0 := hX.fr 0
          have f1 := hX.fr 1
          have f2 := hX.fr 2
          have m0 := hY.c0
          have m1 := hY.c1
          have m2 := hY.c2
          have nb : ¬ win W0 w4.heap.size w.heap.size := fun h => by have := h.1; omega
          have hP' := OP.sets (OP.sets (OP.sets hP nb 0 (Value.slice b1 os.length c1)) nb 1 (Value.slice b2 os.length c2)) nb 2 (Value.slice b3 os.length c3)
          have hW' := ((hW.setCell (p := ⟨w.heap.size, 0, none⟩) (Nat.le_refl _) (Value.slice b1 os.length c1)).setCell (p := ⟨w.heap.size, 1, none⟩) (Nat.le_refl _) (Value.slice b2 os.length c2)).setCell (p := ⟨w.heap.size, 2, none⟩) (Nat.le_refl _) (Value.slice b3 os.length c3)
          clear hP hX hY hW
          go_wp2_with fail
          refine bodyPost_ret (v := .tuple #[.agg #[Value.slice b1 os.length c1, Value.slice b2 os.length c2, Value.slice b3 os.length c3], .int .i64 0]) (by simp [results, Try.results21, go_sem, p0, p1, p2]) rfl ?_
          rw [HC.out, okP_zero, HR.out]
          exact ⟨_, _, _, rfl, OP.sub hP' (fun k hk h => ⟨by have := h.1; omega, hk⟩), hW'⟩
--== spec.CyclicPresentation
set_option maxHeartbeats 8000000 in
theorem s_CyclicPresentation (n : Int) (w : World) :
    Calls Try.prog 20 #[.int .i64 n] w (RetP2 w (okP (cycC n) (cycR n)) (cycC n)) := by
  obtain ⟨i0, hi, hz0, hz1, hz2⟩ := info_parts Try.info2
  have g0 := below_alloc w (Obj.cells #[Value.slice none 0 0, Value.slice none 0 0, Value.slice none 0 0] 32)
  have x0 := Bx.new w (Value.slice none 0 0) (Value.slice none 0 0) (Value.slice none 0 0)
  by_cases hn : 1 ≤ n ∧ n ≤ 729
  case neg =>
    have HC := Lib.hid (cycC_out hn)
    have hin : inB n 1 729 = false := inB_false.2 hn
    go_enter Try.func20, Try.ntmps20
    go_wp2_with (go_at_call 68; refine (s_l01In _ _ _ _).mono ?_; rintro e w' ⟨rfl, rfl⟩; rw [hin])
    refine bodyPost_ret (v := .tuple #[.agg #[Value.slice none 0 0, Value.slice none 0 0, Value.slice none 0 0], .int .i64 2]) (by simp [results, Try.results20, go_sem]) rfl ?_
    rw [HC.out, okP_ne _ (by omega)]
    exact ⟨_, _, _, rfl, OP.none _ _, by simpa using g0⟩

  have hin : inB n 1 729 = true := inB_true.2 hn
  obtain ⟨k, rfl⟩ : ∃ k : Nat, n = (k : Int) := ⟨n.toNat, by omega⟩
  obtain ⟨fo1, fo2, fo3, fo4, fo5, fo6⟩ := facOK_at (k := k) (by omega) (by omega)
  have HN : Hid (primesB (facs k).1 = false → cycC (k : Int) = 2) := fun h => cycC_np (by simpa using h)
  have HB : Hid (primesB (facs k).1 = true → ¬ (facT k).2.length ≤ 6 → cycC (k : Int) = 3) := fun h h' => cycC_big hn (by simpa using h) (by simpa [cycOs] using h')
  have HK : Hid (primesB (facs k).1 = true → (facT k).2.length ≤ 6 → cycC (k : Int) = 0) := fun h h' => cycC_ok hn (by simpa using h) (by simpa [cycOs] using h')
  have HR : Hid (cycR (k : Int) = cycP (facT k).2 ((facT k).2.length - 1)) := by show _ = _; simp [cycR, cycOs]
  clear fo2 fo3 fo4 fo6
  go_enter Try.func20, Try.ntmps20
  go_wp2_with (go_at_call 68; refine (s_l01In _ _ _ _).mono ?_; rintro e w' ⟨rfl, rfl⟩; rw [hin])
  refine (s_l07Factors k _ (by omega) (by omega)).mono ?_
  rintro e w1 ⟨u1, rfl, hI1, hB⟩
  rw [fo1]
  generalize primesB (facs k).1 = pb at *
  generalize (facT k).2 = os at *
  clear fo1
  have z1 : w.heap.size < w1.heap.size := by have := hB.size; simp at this; omega
  have g1 := below_size g0 hB
  have x1 := x0.below hB (by simp)
  have R1 := Lib.hid hI1.rd
  obtain ⟨a1, q1, rfl, _, _⟩ := hI1.form
  clear hI1 hB x0 g0
  cases pb with
  | false =>
    have HC := Lib.hid (HN.out rfl)
    have p0 := x1.c0
    have p1 := x1.c1
    have p2 := x1.c2
    have f0 := x1.fr 0
    have f1 := x1.fr 1
    have f2 := x1.fr 2
    have gW' := ((g1.setCell (p := ⟨w.heap.size, 0, none⟩) (Nat.le_refl _) (Value.slice none 0 0)).setCell (p := ⟨w.heap.size, 1, none⟩) (Nat.le_refl _) (Value.slice none 0 0)).setCell (p := ⟨w.heap.size, 2, none⟩) (Nat.le_refl _) (Value.slice none 0 0)
    clear x1 g1
    go_wp2_with fail
    refine bodyPost_ret (v := .tuple #[.agg #[Value.slice none 0 0, Value.slice none 0 0, Value.slice none 0 0], .int .i64 2]) (by simp [results, Try.results20, go_sem, p0, p1, p2]) rfl ?_
    rw [HC.out, okP_ne _ (by omega)]
    exact ⟨_, _, _, rfl, OP.none _ _, gW'⟩
  | true =>
    by_cases h6 : os.length ≤ 6
    case neg =>
      have HC := Lib.hid (HB.out rfl h6)
      have p0 := x1.c0
      have p1 := x1.c1
      have p2 := x1.c2
      have f0 := x1.fr 0
      have f1 := x1.fr 1
      have f2 := x1.fr 2
      have gW' := ((g1.setCell (p := ⟨w.heap.size, 0, none⟩) (Nat.le_refl _) (Value.slice none 0 0)).setCell (p := ⟨w.heap.size, 1, none⟩) (Nat.le_refl _) (Value.slice none 0 0)).setCell (p := ⟨w.heap.size, 2, none⟩) (Nat.le_refl _) (Value.slice none 0 0)
      clear x1 g1
      go_wp2_with fail
      refine bodyPost_ret (v := .tuple #[.agg #[Value.slice none 0 0, Value.slice none 0 0, Value.slice none 0 0], .int .i64 3]) (by simp [results, Try.results20, go_sem, p0, p1, p2]) rfl ?_
      rw [HC.out, okP_ne _ (by omega)]
      exact ⟨_, _, _, rfl, OP.none _ _, gW'⟩
    have HC := Lib.hid (HK.out rfl h6)
    go_wp2_with fail
    refine (s_l07Trivial _ os _ R1.out (by omega)).mono ?_
    rintro e w4 ⟨v1, v2, v3, rfl, hP, hB4⟩
    rw [cycP_zero] at hP
    have z4 := hB4.size
    have g4 := below_size g1 hB4
    have x4 := x1.below hB4 x1.lt
    obtain ⟨⟨b1, c1, rfl⟩, ⟨b2, c2, rfl⟩, ⟨b3, c3, rfl⟩⟩ := hP.formsN (n1 := os.length) (n2 := os.length) (n3 := os.length) rfl (cycPow_len _ _) (trivConj_len _ _)
    have y0 := Bx.new w4 (Value.slice b1 os.length c1) (Value.slice b2 os.length c2) (Value.slice b3 os.length c3)
    have hP0 : OP (w4.alloc (Obj.cells #[Value.slice b1 os.length c1, Value.slice b2 os.length c2, Value.slice b3 os.length c3] 32)) (fun k => w.heap.size < k ∧ k ≠ w4.heap.size) _ _ _ _ := OP.below (OP.sub hP (fun k hk h => ⟨by have := h.1; omega, by omega⟩)) (below_alloc w4 (Obj.cells #[Value.slice b1 os.length c1, Value.slice b2 os.length c2, Value.slice b3 os.length c3] 32))
    have g5 := g4.alloc (by omega : w.heap.size ≤ w4.heap.size) (Obj.cells #[Value.slice b1 os.length c1, Value.slice b2 os.length c2, Value.slice b3 os.length c3] 32)
    have x5 := x4.old (Obj.cells #[Value.slice b1 os.length c1, Value.slice b2 os.length c2, Value.slice b3 os.length c3] 32)
    clear hP hB4 x4 x1 g1 g4
    have hw4 : w.heap.size < w4.heap.size := by omega
    go_wp2_with fail
    go_loopw [7] (fun i w5 => ∃ j : Nat, (j = 0 ∨ j + 1 ≤ os.length) ∧ i = .int .i64 j ∧ OP w5 (fun k => w.heap.size < k ∧ k ≠ w4.heap.size) (Value.slice b1 os.length c1) (Value.slice b2 os.length c2) (Value.slice b3 os.length c3) (cycP os j) ∧ Bx w5 w4.heap.size (Value.slice b1 os.length c1) (Value.slice b2 os.length c2) (Value.slice b3 os.length c3) ∧ Bx w5 w.heap.size (Value.slice none 0 0) (Value.slice none 0 0) (Value.slice none 0 0) ∧ Below w.heap.size w w5) (fun i _ => os.length - (intOf i).toNat)
    case atStart => exact ⟨0, .inl rfl, rfl, hP0, y0, x5, g5⟩
    case round =>
      clear hP0 y0 x5 g5
      obtain ⟨j, hj, rfl, hP, hY, hX, hW⟩ := hrel
      have ly := hY.lt
      have lx := hX.lt
      by_cases hlt : j + 1 < os.length
      · have hPr : OP wr (fun k => (w.heap.size < k ∧ k ≠ w4.heap.size) ∧ k < wr.heap.size) _ _ _ _ := OP.sub hP (fun k hk h => ⟨h, hk⟩)
        obtain ⟨bg, cg, hbg, hrow0⟩ : ∃ g cap, b2 = some ⟨g, 0, none⟩ ∧ cap = c2 ∧ (∃ r, wr.cell? ⟨g, j, none⟩ = some r) ∧ wr.frozen? ⟨g, j, none⟩ = false ∧ g < wr.heap.size ∧ w.heap.size < g ∧ g ≠ w4.heap.size := by
          obtain ⟨A, B, C, h1, h2, h3, s1, s2, s3, d1, d2, d3⟩ := hPr
          obtain ⟨ao, cap, e, _, _, ho⟩ := ON.open h2
          rcases ho with h0 | ⟨g, rfl, hg, hgl, hc⟩
          · rw [show (cycP os j).powers.length = os.length from cycPow_len _ _] at h0; omega
          simp only [Value.slice.injEq] at e
          obtain ⟨rfl, _, rfl⟩ := e
          have hh := hc j (by rw [show (cycP os j).powers.length = os.length from cycPow_len _ _]; omega)
          exact ⟨g, _, rfl, rfl, hh.2, hh.1, hgl, (s2 g hg).1.1, (s2 g hg).1.2⟩
        subst hbg
        obtain ⟨rfl, ⟨r, hr⟩, hfz, hgl, hgw, hg4⟩ := hrow0
        have m1 := hY.c1
        have hj0 : (0 : Int) ≤ (j : Int) := by omega
        have hj1 : (j : Int) < (os.length : Int) := by omega
        have hj2 : j < os.length := by omega
        have W1 : IntKind.i64.wrap ((j : Int) + 1) = (j : Int) + 1 := IntWalk.i64_in _ (by omega)
        have HU : Hid (∀ wx, Calls Try.prog 80 #[.int .i64 os.length, .int .i64 ((j : Int) + 1)] wx (RetInts wx (unitL os.length (j + 1)))) := fun wx => by
          have := s_l07Unit os.length (j + 1) wx (by omega) (by omega)
          rwa [show (((j + 1 : Nat)) : Int) = (j : Int) + 1 by omega] at this
        have KB : Hid (∀ wx, Below wr.heap.size wr wx → wx.cell? ⟨w4.heap.size, 1, none⟩ = some (Value.slice (some ⟨bg, 0, none⟩) os.length cg) ∧ wx.cell? ⟨bg, j, none⟩ = some r ∧ wx.frozen? ⟨bg, j, none⟩ = false) :=
          fun wx hb => ⟨(hb.cell (p := ⟨w4.heap.size, 1, none⟩) ly).trans m1, (hb.cell (p := ⟨bg, j, none⟩) hgl).trans hr, ((bcell hb).2 bg j hgl).trans hfz⟩
        go_wp2_with fail
        go_region_held3 (fun wx => wx.cell? ⟨w4.heap.size, 1, none⟩ = some (Value.slice (some ⟨bg, 0, none⟩) os.length cg))
          (first
            | exact (KB.out _ (Below.refl _ _).drew).1
            | exact (KB.out _ hK2).1
            | exact hKS)
          (first
            | ((go_at_call 80); (refine (HU.out _).mono ?_); (rintro e w2 ⟨v2, rfl, hI2, hB2⟩); (have hK2 : Below wr.heap.size wr w2 := below_size (Below.refl _ _).drew hB2); (obtain ⟨a2, q2, e2, _, _⟩ := hI2.form); (rw [unitL_length] at e2); (subst e2); (have hr2 := (KB.out _ hK2).2.1); (have hf2 := (KB.out _ hK2).2.2); (have hKS : (w2.setCell ⟨bg, j, none⟩ (Value.slice a2 os.length q2)).cell? ⟨w4.heap.size, 1, none⟩ = some (Value.slice (some ⟨bg, 0, none⟩) os.length cg) := (((ChgS.setCell w2 bg j (Value.slice a2 os.length q2)).at (Nat.lt_of_lt_of_le ly hK2.size) (fun e => hg4 e.symm)).1 1).trans (KB.out _ hK2).1)))
        have s2 := hK2.size
        have hP2 := OP.below hPr hK2
        have hY2 := (hY.below hK2 ly).other (c := bg) (fun e => hg4 e.symm) j (Value.slice a2 os.length q2)
        have hX2 := (hX.below hK2 lx).other (c := bg) (by omega) j (Value.slice a2 os.length q2)
        have hW2 := (hW.trans (hK2.mono hW.size)).setCell (p := ⟨bg, j, none⟩) (by show w.heap.size ≤ bg; omega) (Value.slice a2 os.length q2)
        obtain ⟨g, cap, e3, _, _, _, hP3⟩ := op_setPow hP2 (j := j) (by show j < (cycPow os.length j).length; rw [cycPow_len]; omega) hI2.o1 (fun k hk h => by have h1 := hk.1; have h2 := h.2; simp at h1; omega)
        simp only [Value.slice.injEq, Option.some.injEq, Addr.mk.injEq] at e3
        obtain ⟨⟨rfl, hz8⟩, hz9, rfl⟩ := e3
        clear hz8 hz9
        have hset : (cycPow os.length j).set j (unitL os.length (j + 1)) = cycPow os.length (j + 1) := cycPow_set (by omega)
        rw [show (cycP os j).powers = cycPow os.length j from rfl, hset] at hP3
        have hP4 := OP.sub (S' := fun k => w.heap.size < k ∧ k ≠ w4.heap.size) hP3 (fun k hk h => by
          rcases h with ⟨h, _⟩ | h
          · exact h
          · have := h.1; simp at this; exact ⟨by omega, by omega⟩)
        clear hP hPr hP2 hP3 hY hX hW W1
        go_wp2_with fail
        go_roundw
        case rel => exact ⟨j + 1, .inr (by omega), by go_num, hP4, hY2, hX2, hW2⟩
        case measure => simp [intOf]; omega
      · have hj' : j = os.length - 1 := by omega
        subst hj'
        have p0 := hX.c0
        have p1 := hX.c1
        have p2 := hX.c2
        have f0 := hX.fr 0
        have f1 := hX.fr 1
        have f2 := hX.fr 2
        have m0 := hY.c0
        have m1 := hY.c1
        have m2 := hY.c2
        have nb : ¬ (w.heap.size < w.heap.size ∧ w.heap.size ≠ w4.heap.size) := fun h => by omega
        have hP' := OP.sets (OP.sets (OP.sets hP nb 0 (Value.slice b1 os.length c1)) nb 1 (Value.slice b2 os.length c2)) nb 2 (Value.slice b3 os.length c3)
        have hW' := ((hW.setCell (p := ⟨w.heap.size, 0, none⟩) (Nat.le_refl _) (Value.slice b1 os.length c1)).setCell (p := ⟨w.heap.size, 1, none⟩) (Nat.le_refl _) (Value.slice b2 os.length c2)).setCell (p := ⟨w.heap.size, 2, none⟩) (Nat.le_refl _) (Value.slice b3 os.length c3)
        clear hP hX hY hW
        go_wp2_with fail
        refine bodyPost_ret (v := .tuple #[.agg #[Value.slice b1 os.length c1, Value.slice b2 os.length c2, Value.slice b3 os.length c3], .int .i64 0]) (by simp [results, Try.results20, go_sem, p0, p1, p2]) rfl ?_
        rw [HC.out, okP_zero, HR.out]
        exact ⟨_, _, _, rfl, OP.sub hP' (fun k hk h => ⟨by have := h.1; omega, hk⟩), hW'⟩
theorem cat_len_all (n : Nat) : ∀ l : List (List Int), (∀ r ∈ l, r.length = n) → (cat l).length = n * l.length := by
  intro l
  induction l with
  | nil => intro _; simp [cat]
  | cons a l ih =>
    intro h
    have h1 := ih fun r hr => h r (by simp [hr])
    have h2 := h a (by simp)
    unfold cat at *
    simp only [List.flatten_cons, List.length_append, List.length_cons, h1, h2, Nat.mul_succ]
    omega
theorem cyc_size2 (n j : Nat) : size2 (cycPow n j) = size2 (trivPow n n) := by
  unfold size2
  rw [cycPow_len, trivPow_len, cat_len_all n (cycPow n j), cat_len_all n (trivPow n n), cycPow_len, trivPow_len]
  · intro r hr; simp only [trivPow, List.mem_replicate] at hr; rw [hr.2, zrow_len]
  · intro r hr
    simp only [cycPow, List.mem_map] at hr
    obtain ⟨i, _, rfl⟩ := hr
    unfold cycRow
    split
    · exact unitL_length _ _
    · exact zrow_len _
theorem len_CyclicPresentation (n : Int) : psize (okP (cycC n) (cycR n)) ≤ 1000000000 := by
  by_cases h : cycC n = 0
  · rw [h, okP_zero]
    have h6 : (cycOs n).length ≤ 6 := by
      unfold cycC at h
      split at h
      · split at h
        · split at h
          · assumption
          · omega
        · omega
      · omega
    have ht := triv_size (cycOs n) h6
    have e : psize (cycR n) = psize (triv (cycOs n)) := by
      unfold psize cycR cycP triv trivP
      simp only [cyc_size2]
    rw [e]; exact ht
  · rw [okP_ne _ h]; exact noP_size
end Go.Proofs.Ythnpndheaailjaa
