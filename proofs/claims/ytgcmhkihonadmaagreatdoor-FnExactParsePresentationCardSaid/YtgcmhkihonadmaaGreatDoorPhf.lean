/-
  The reference's deep copy of a presentation.
-/
import Derived.Test.YtgcmhkihonadmaaGreatDoorPpg
import Derived.Test.YtgcmhkihonadmaaGreatDoorDir
import Derived.Test.YtgcmhkihonadmaaGreatDoorOw2
namespace Go.Proofs.YtgcmhkihonadmaaGreatDoor
set_option linter.unusedVariables false
set_option linter.unusedSimpArgs false
set_option maxRecDepth 100000
open Go.RowKit Go.PlainAid
attribute [local go_sem ↓] Go.wp_at_zero Go.wp_at_succ

theorem op_two {w : World} {A B : Nat → Prop} {u1 u2 : Value} {os : List Int} {L : List (List Int)} (h1 : O1 w A u1 os) (h2 : O2 w B u2 L) (hd : ∀ k, A k → ¬ B k) : OP w (fun k => A k ∨ B k) u1 u2 (.slice none 0 0) ⟨os, L, []⟩ :=
  ⟨A, B, fun _ => False, h1, h2, local_O3.nil _ _, fun _ => .inl, fun _ => .inr, fun _ h => h.elim, hd, fun _ _ h => h, fun _ _ h => h⟩
/-- the first conjugates' rows alone -/
def cnjTo (p : Pres) (i : Nat) : Pres := ⟨p.orders, p.powers, p.conj.take i⟩
theorem cnjTo_zero (p : Pres) : cnjTo p 0 = ⟨p.orders, p.powers, []⟩ := rfl
theorem cnjTo_succ (p : Pres) {i : Nat} (h : i < p.conj.length) : cnjTo p (i + 1) = ⟨(cnjTo p i).orders, (cnjTo p i).powers, (cnjTo p i).conj ++ [p.conj.getD i []]⟩ := by
  unfold cnjTo
  congr 1
  show p.conj.take (i + 1) = p.conj.take i ++ [p.conj.getD i []]
  rw [List.take_succ_eq_append_getElem h, List.getD, List.getElem?_eq_getElem h]; rfl
theorem cnjTo_all (p : Pres) : cnjTo p p.conj.length = p := by
  unfold cnjTo
  rw [List.take_length]
--== spec.l07Own
set_option maxHeartbeats 8000000 in
theorem s_l07Own {n : Nat} {p : Pres} (hW : WS n p) (hn : n ≤ 6) (v1 v2 v3 : Value) (w : World) (hp : RdP w v1 v2 v3 p) :
    Calls Tryz.prog 32 #[.agg #[v1, v2, v3]] w (RetP w p) := by
  obtain ⟨R1, R2, R3⟩ := hp
  obtain ⟨ao1, aq1, rfl, _, _⟩ := R1.formN hW.on
  obtain ⟨ao2, aq2, rfl, _, _⟩ := R2.formN hW.pl
  obtain ⟨ao3, aq3, rfl, _, _⟩ := R3.formN hW.cl
  have g2 := below_alloc w (Obj.cells #[Value.slice ao1 n aq1, Value.slice ao2 n aq2, Value.slice ao3 n aq3] 26)
  have HXA := Bx.new w (Value.slice ao1 n aq1) (Value.slice ao2 n aq2) (Value.slice ao3 n aq3)
  have z2 : (w.alloc (Obj.cells #[Value.slice ao1 n aq1, Value.slice ao2 n aq2, Value.slice ao3 n aq3] 26)).heap.size = w.heap.size + 1 := by simp
  have HRA1 := Lib.hid (R1.below g2)
  have HRA2 := Lib.hid (R2.below g2)
  have HRA3 := Lib.hid (R3.below g2)
  have HWS := Lib.hid hW
  clear R1 R2 R3 hW
  have HG2 := Lib.hid g2
  clear g2
  go_enter Tryz.func32, Tryz.ntmps32
  go_wp2_with fail
  generalize w.alloc (Obj.cells #[Value.slice ao1 n aq1, Value.slice ao2 n aq2, Value.slice ao3 n aq3] 26) = w2 at *
  rw [← z2]
  have HZ2 : Hid (w.heap.size ≤ w2.heap.size) := by show _ ≤ _; omega
  obtain ⟨pa, hpa⟩ : ∃ x, x = w.heap.size := ⟨_, rfl⟩
  rw [← hpa] at HXA ⊢
  clear hpa
  have g0 := below_alloc w2 (Obj.cells #[Value.slice none 0 0, Value.slice none 0 0, Value.slice none 0 0] 26)
  have x0 := Bx.new w2 (Value.slice none 0 0) (Value.slice none 0 0) (Value.slice none 0 0)
  have z0 : (w2.alloc (Obj.cells #[Value.slice none 0 0, Value.slice none 0 0, Value.slice none 0 0] 26)).heap.size = w2.heap.size + 1 := by simp
  have ca1 := HXA.c0
  have ca2 := HXA.c1
  have CA3 := Lib.hid HXA.c2
  have ea1 := below_cells g0 _ _ ca1
  have ea2 := below_cells g0 _ _ ca2
  have HG := Lib.hid g0
  have HX := Lib.hid x0
  have HZ := Lib.hid z0
  have KEEP : Hid (∀ wx, Below w2.heap.size w2 wx → wx.cell? ⟨pa, 0, none⟩ = some (.slice ao1 n aq1) ∧ wx.cell? ⟨pa, 1, none⟩ = some (.slice ao2 n aq2)) := fun wx hb => ⟨below_cells hb _ _ ca1, below_cells hb _ _ ca2⟩
  clear g0 x0 z0 z2
  go_upto_region 1 with (fail)
  go_cut [3] (fun v wx => ∃ b4, v = .pointer (some ⟨b4, 0, none⟩) ∧ w2.heap.size < b4 ∧ BInv w2 w2.heap.size b4 (cnjTo p 0) wx)
  case first =>
    have L2 := Lib.hid (ballocD HG.out (Obj.cells #[Value.slice none 0 0, Value.slice none 0 0, Value.slice none 0 0] 26))
    have Y2 : Hid (Bx ((w2.alloc (Obj.cells #[Value.slice none 0 0, Value.slice none 0 0, Value.slice none 0 0] 26)).alloc (Obj.cells #[Value.slice none 0 0, Value.slice none 0 0, Value.slice none 0 0] 26)) (w2.heap.size + 1) (.slice none 0 0) (.slice none 0 0) (.slice none 0 0)) := by
      have := Bx.new (w2.alloc (Obj.cells #[Value.slice none 0 0, Value.slice none 0 0, Value.slice none 0 0] 26)) (Value.slice none 0 0) (Value.slice none 0 0) (Value.slice none 0 0)
      rw [HZ.out] at this
      exact this
    have HLO : Hid (p.orders.length ≤ 100) := by show _ ≤ _; rw [HWS.out.on]; omega
    have HLP : Hid (p.powers.length ≤ 1000000 ∧ ∀ i, i < p.powers.length → (p.powers.getD i []).length ≤ 1000) := ⟨by rw [HWS.out.pl]; omega, fun i hi => by rw [HWS.out.pl] at hi; rw [HWS.out.pv i hi]; omega⟩
    go_region_held3 (fun wx => wx.cell? ⟨pa, 0, none⟩ = some (.slice ao1 n aq1) ∧ wx.cell? ⟨pa, 1, none⟩ = some (.slice ao2 n aq2))
      (first
        | exact KEEP.out _ HG.out.drew
        | exact KEEP.out _ (ballocD HG.out _).drew
        | exact KEEP.out _ hW3
        | exact KEEP.out _ (ballocD hW3 _)
        | exact KEEP.out _ hW4
        | exact KEEP.out _ (ballocD hW4 _)
        | exact KEEP.out _ (set3 hW4 (by omega) _ _ _))
      (first
        | ((go_at_call 28); (with_reducible refine (s_l01Own _ p.orders (w2.alloc (Obj.cells #[Value.slice none 0 0, Value.slice none 0 0, Value.slice none 0 0] 26)).drew (HRA1.out.below HG.out.drew) (by have := HLO.out; omega)).mono ?_); (rintro e w3 ⟨u3, rfl, hI3, hB3⟩); (have hW3 := below_size HG.out.drew hB3); (have X23 := ((HX.out).drew).below hB3 ((HX.out).drew).lt))
        | ((go_at_call 28); (with_reducible refine (s_l01Own _ p.orders ((w2.alloc (Obj.cells #[Value.slice none 0 0, Value.slice none 0 0, Value.slice none 0 0] 26)).alloc (Obj.cells #[Value.slice none 0 0, Value.slice none 0 0, Value.slice none 0 0] 26)).drew (HRA1.out.below (ballocD HG.out _).drew) (by have := HLO.out; omega)).mono ?_); (rintro e w3 ⟨u3, rfl, hI3, hB3⟩); (have hW3 := below_size (ballocD HG.out _).drew hB3); (have X23 := ((HX.out.old (Obj.cells #[Value.slice none 0 0, Value.slice none 0 0, Value.slice none 0 0] 26)).drew).below hB3 ((HX.out.old (Obj.cells #[Value.slice none 0 0, Value.slice none 0 0, Value.slice none 0 0] 26)).drew).lt); (have X43 := (Y2.out.drew).below hB3 (Y2.out.drew).lt))
        | ((go_at_call 49); (with_reducible refine (s_l01Own2 _ p.powers w3 (HRA2.out.below hW3) HLP.out.1 HLP.out.2).mono ?_); (rintro e w4 ⟨u4, rfl, hO4, hB4⟩); (obtain ⟨a3, c3, rfl, _, _⟩ := hI3.rd.formN HWS.out.on); (obtain ⟨a4, c4, rfl, _, _⟩ := hO4.formN HWS.out.pl); (have hW4 := below_size hW3 hB4); (have X24 := X23.below hB4 X23.lt); (have X44 := X43.below hB4 X43.lt); (have P4 := op_two (local_O1.below hI3.o1 hB4) hO4 (fun k hk hk2 => by have := hk.2; have := hk2.1; omega)); (have m0 := X44.c0); (have m1 := X44.c1); (have m2 := X44.c2); (have z0 := X44.fr 0); (have z1 := X44.fr 1); (have z2 := X44.fr 2); (have hl4 := X44.lt); (have hl2 := X24.lt); (have hle := hB3.size); (have hl3 := X43.lt))
        | ((go_at_call 49); (with_reducible refine (s_l01Own2 _ p.powers w3 (HRA2.out.below hW3) HLP.out.1 HLP.out.2).mono ?_); (rintro e w4 ⟨u4, rfl, hO4, hB4⟩); (obtain ⟨a3, c3, rfl, _, _⟩ := hI3.rd.formN HWS.out.on); (obtain ⟨a4, c4, rfl, _, _⟩ := hO4.formN HWS.out.pl); (have hW4 := below_size hW3 hB4); (have X24 := X23.below hB4 X23.lt); (have P4 := op_two (local_O1.below hI3.o1 hB4) hO4 (fun k hk hk2 => by have := hk.2; have := hk2.1; omega)); (have hl2 := X24.lt); (have hle := hB3.size))
        | ((go_at_call 49); (with_reducible refine (s_l01Own2 _ p.powers (w3.alloc (Obj.cells #[Value.slice none 0 0, Value.slice none 0 0, Value.slice none 0 0] 26)) (HRA2.out.below (ballocD hW3 _)) HLP.out.1 HLP.out.2).mono ?_); (rintro e w4 ⟨u4, rfl, hO4, hB4⟩); (obtain ⟨a3, c3, rfl, _, _⟩ := hI3.rd.formN HWS.out.on); (obtain ⟨a4, c4, rfl, _, _⟩ := hO4.formN HWS.out.pl); (have hW4 := below_size (ballocD hW3 (Obj.cells #[Value.slice none 0 0, Value.slice none 0 0, Value.slice none 0 0] 26)) hB4); (have X24 := (X23.old (Obj.cells #[Value.slice none 0 0, Value.slice none 0 0, Value.slice none 0 0] 26)).below hB4 (X23.old (Obj.cells #[Value.slice none 0 0, Value.slice none 0 0, Value.slice none 0 0] 26)).lt); (have X44 := (Bx.new w3 (.slice none 0 0) (.slice none 0 0) (.slice none 0 0)).below hB4 (Bx.new w3 _ _ _).lt); (have hal : w3.heap.size < (w3.alloc (Obj.cells #[Value.slice none 0 0, Value.slice none 0 0, Value.slice none 0 0] 26)).heap.size := by simp); (have P4 := op_two (local_O1.below (local_O1.below hI3.o1 (below_alloc w3 (Obj.cells #[Value.slice none 0 0, Value.slice none 0 0, Value.slice none 0 0] 26))) hB4) hO4 (fun k hk hk2 => by have := hk.2; have := hk2.1; omega)); (have m0 := X44.c0); (have m1 := X44.c1); (have m2 := X44.c2); (have z0 := X44.fr 0); (have z1 := X44.fr 1); (have z2 := X44.fr 2); (have hl4 := X44.lt); (have hl2 := X24.lt); (have hle := hB3.size); (have hl3 := X23.lt)))
    all_goals
      have HZD : ((w2.alloc (Obj.cells #[Value.slice none 0 0, Value.slice none 0 0, Value.slice none 0 0] 26)).drew).heap.size = w2.heap.size + 1 := HZ.out
      have HZF : (((w2.alloc (Obj.cells #[Value.slice none 0 0, Value.slice none 0 0, Value.slice none 0 0] 26)).alloc (Obj.cells #[Value.slice none 0 0, Value.slice none 0 0, Value.slice none 0 0] 26)).drew).heap.size = w2.heap.size + 1 + 1 := by show ((w2.alloc (Obj.cells #[Value.slice none 0 0, Value.slice none 0 0, Value.slice none 0 0] 26)).alloc (Obj.cells #[Value.slice none 0 0, Value.slice none 0 0, Value.slice none 0 0] 26)).heap.size = _; simp
      go_wp2_with fail
      go_meet
      first
        | exact ⟨_, rfl, by omega, BInv.mk2 X24 P4 (fun k hk => by rcases hk with hk | hk <;> (have h1 := hk.1; have h2 := hk.2; exact ⟨by omega, by omega⟩)) hW4⟩
        | exact ⟨_, rfl, by omega, BInv.mk1 (w := w2) X24 X44 P4 (fun k hk => by rcases hk with hk | hk <;> (have h1 := hk.1; have h2 := hk.2; exact ⟨by omega, by omega, by omega⟩)) hW4 (by omega) (by omega)⟩
  case rest =>
    obtain ⟨b4, rfl, hb4, hI⟩ := hcut
    have hb4' := hb4
    have d3 := below_cells hI.bel _ _ CA3.out
    clear ea1 ea2 ca1 ca2 HXA
    go_wp2_with fail
    go_loopw [4] (fun i wr => ∃ j : Nat, j ≤ n ∧ i = .int .i64 j ∧ BInv w2 w2.heap.size b4 (cnjTo p j) wr) (fun i _ => n - (intOf i).toNat)
    case atStart => exact ⟨0, Nat.zero_le _, rfl, hI⟩
    case round =>
      clear hI d3
      obtain ⟨j, hj, rfl, hI⟩ := hrel
      have HCL : Hid ((cnjTo p j).conj.length = j) := by show (p.conj.take j).length = j; rw [List.length_take, HWS.out.cl]; omega
      have d3 := below_cells hI.bel _ _ CA3.out
      obtain ⟨p1, o1, p2, c2, p3, c3, hBO⟩ := hI.open (n2 := n) (n3 := j) HWS.out.pl HCL.out
      have m0 := hBO.x4.c0
      have m1 := hBO.x4.c1
      have m2 := hBO.x4.c2
      have hl4 := hBO.x4.lt
      have HBO := Lib.hid hBO
      have HW := Lib.hid hBO.be
      by_cases hlt : j < n
      · have HS := Lib.hid (cnjTo_succ p (i := j) (by rw [HWS.out.cl]; exact hlt))
        obtain ⟨bc, oc, rc, ec, hcc0, hrc0⟩ := HRA3.out.at (show j < p.conj.length by rw [HWS.out.cl]; exact hlt)
        have hcc := below_cells HW.out _ _ hcc0
        have HRC := Lib.hid hrc0
        have HLR : Hid ((p.conj.getD j []).length = n - (j + 1) ∧ ∀ k, k < (p.conj.getD j []).length → ((p.conj.getD j []).getD k []).length = n) := ⟨HWS.out.rl j hlt, fun k hk => HWS.out.cv j k hlt (by rw [HWS.out.rl j hlt] at hk; exact hk)⟩
        subst ec
        generalize cnjTo p j = Q at *
        generalize p.conj.getD j [] = L at *
        obtain ⟨ac, cc, rfl, _, _⟩ := HRC.out.formN HLR.out.1
        clear hI hBO hcc0 hrc0
        go_wp2_with fail
        go_region_law (first
          | (go_simp; go_at_call 49; go_must (refine (s_l01Own2 _ L _ (HRC.out.below HW.out.drew) (by rw [HLR.out.1]; omega) (fun k hk => by rw [HLR.out.2 k hk]; omega)).mono ?_); rintro e w3 ⟨u3, rfl, hI3, hB3⟩; obtain ⟨a9, c9, rfl, _, _⟩ := hI3.formN HLR.out.1; have hB4 := below_size (Below.refl _ _).drew hB3; obtain ⟨a', c', w4, hr, hq0, hq1, hq2, hq3⟩ := HBO.out.grow_conj (Nat.le_refl _) (by omega) (by omega) 24 hB4 hI3 rfl (by omega); have hm2 := (HBO.out.below hB4).x4.c2; have hl4 := (HBO.out.below hB4).x4.lt; clear hB4 hI3 hB3)
          | (refine step_of_run rfl (.tmp 20) (.tmp 27) 24 rfl _ _ (by simp [Act.eval, Act.put]) (by simp [Act.eval, Act.put]) _ _ hr ?_))
        all_goals
          have HQ3 := Lib.hid hq3
          clear hq3
          go_wp2_with fail
          go_roundw
          case rel => exact ⟨j + 1, by omega, by go_num, by rw [HS.out]; exact HQ3.out⟩
          case measure => simp [intOf]; omega
      · obtain rfl : j = n := by omega
        have hall : cnjTo p j = p := by have := cnjTo_all p; rw [HWS.out.cl] at this; exact this
        have HF := Lib.hid (hBO.out (Nat.le_refl _))
        rw [hall] at HF m0
        rw [HWS.out.on] at HF m0
        have q0 := hBO.x2.c0
        have q1 := hBO.x2.c1
        have q2 := hBO.x2.c2
        have f0 := hBO.x2.fr 0
        have f1 := hBO.x2.fr 1
        have f2 := hBO.x2.fr 2
        have l2 := hBO.x2.lt
        clear hBO hI hall
        go_wp2_with fail
        refine bodyPost_ret (v := .agg #[Value.slice p1 j o1, Value.slice p2 j c2, Value.slice p3 j c3]) (by simp [results, Tryz.results32, go_sem, q0, q1, q2]) rfl ?_
        exact ⟨_, _, _, rfl, OP.sub HF.out.1 (fun k hk hh => ⟨Nat.le_trans HZ2.out hh.1, hk⟩), HG2.out.trans (HF.out.2.mono HZ2.out)⟩
--== end
end Go.Proofs.YtgcmhkihonadmaaGreatDoor
