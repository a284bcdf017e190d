/-
  A list that a call owns whose rows are only read; a deep copy; what l12Full does.
-/
import Derived.Test.YtjefjhbnkcokhaaLem
import Derived.Test.YtjefjhbnkcokhaaMod
namespace Go.Proofs.Ytjefjhbnkcokhaa
set_option linter.unusedVariables false
set_option linter.unusedSimpArgs false
set_option maxRecDepth 100000
open Go.RowKit

--== plain
theorem gapp_right {β : Type} (l m : List β) (j : Nat) (d : β) : (l ++ m).getD (l.length + j) d = m.getD j d := by rw [List.getD_eq_getElem?_getD, List.getElem?_append_right (by omega), Nat.add_sub_cancel_left, ← List.getD_eq_getElem?_getD]
/-- one step of l12Full on an entry -/
theorem redF_step {p : Pres} (h : GT p 0) {D : List (List Int)} (hD : Tab p D) {d e : Nat} (hde : d < e) (hep : e < p.n) {x : List Int} (hx : VI p d x) (h1 : x.getD d 0 = 1) (hn : D.getD e [] ≠ []) :
    VI p 0 (zpw p (D.getD e []) (-(x.getD e 0))) ∧ VI p d (p.at 0 x (zpw p (D.getD e []) (-(x.getD e 0)))) ∧ (p.at 0 x (zpw p (D.getD e []) (-(x.getD e 0)))).getD d 0 = 1 := by
  obtain ⟨t1, _⟩ := hD e hep hn
  obtain ⟨z1, _⟩ := zpw_lead h (Nat.le_of_lt hep) t1 (-(x.getD e 0))
  have hx0 := hx.mono (Nat.zero_le d)
  have hv := VI.at h.vd 0 (by omega) _ _ hx0 (z1.mono (Nat.zero_le _))
  obtain ⟨a1, _⟩ := at0_right h.vd (Nat.le_of_lt hep) hx0 z1
  exact ⟨z1.mono (Nat.zero_le _), ⟨hv.len, hv.lo, hv.hi, fun j hj => by rw [a1 j (by omega)]; exact hx.zero j hj⟩, by rw [a1 d hde]; exact h1⟩
theorem filt_take {D : List (List Int)} {d : Nat} (hd : d < D.length) : filt (D.take (d + 1)) = if D.getD d [] = [] then filt (D.take d) else filt (D.take d) ++ [D.getD d []] := by
  unfold filt
  rw [List.take_succ_eq_append_getElem hd, List.filter_append, List.getD, List.getElem?_eq_getElem hd, Option.getD_some]
  by_cases h : D[d] = []
  · rw [if_pos h]; simp [h]
  · rw [if_neg h]; simp [h]
theorem filt_le (D : List (List Int)) : (filt D).length ≤ D.length := by have := filt_len D; omega
--== rows
/-- a list that the call owns, from w0 on; its rows are only read, and were there at w0 -/
def RL (w0 : World) (u : Value) (L : List (List Int)) (w : World) : Prop :=
  ∃ vs : List Value, vs.length = L.length ∧ w.ownsRow w0.heap.size 22 1 u L.length vs ∧ (∀ i, i < L.length → Rd w0 (vs.getD i undef) (L.getD i [])) ∧ Below w0.heap.size w0 w
theorem RL.new (w : World) : RL w (.slice (some ⟨w.heap.size, 0, none⟩) 0 0) [] (w.alloc (Obj.cells #[] 22)) :=
  ⟨[], rfl, ⟨rfl, .inr ⟨w.heap.size, 0, #[], rfl, Nat.le_refl _, heap_alloc_new w _, Nat.le_refl _, by simp [maxLen], rfl, rfl⟩⟩, fun i hi => by simp at hi, below_alloc _ _⟩
theorem RL.rd2 {w0 w : World} {u : Value} {L : List (List Int)} (h : RL w0 u L w) : Rd2 w u L := by
  obtain ⟨vs, hl, ho, hr, hB⟩ := h
  exact ⟨vs, rdV_of_own ho, by omega, fun i hi => (hr i hi).below hB⟩
theorem RL.form {w0 w : World} {u : Value} {L : List (List Int)} (h : RL w0 u L w) : ∃ a c, u = .slice a L.length c := by
  obtain ⟨a, c, e, _⟩ := h.rd2.form
  exact ⟨a, c, e⟩
theorem RL.push {w0 w : World} {u : Value} {L : List (List Int)} {x : List Int} {a : Option Addr} {l c : Nat} (h : RL w0 u L w) (hx : Rd w0 (.slice a l c) x) (hn : L.length ≤ 1000000) :
    ∃ v' w', (Builtin.append_ #[23, 23] 23 #[u, .slice (some ⟨w.heap.size, 0, none⟩) 1 1]).run Try.prog (w.alloc (.cells #[.slice a l c] 22)) = .ok v' w' ∧ RL w0 v' (L ++ [x]) w' := by
  obtain ⟨i0, hi, hz0, hz1, hz2⟩ := info_parts Try.infoRow
  obtain ⟨vs, hl, ho, hr, hB⟩ := h
  have zB := hB.size
  obtain ⟨v', w', h1, h2, h3, h4⟩ := run_app (w.alloc (.cells #[.slice a l c] 22)) w0.heap.size 23 23 22 i0 _ 24 Try.underlying23 hi hz0 hz1 hz2 rfl u L.length vs (World.ownsRow.alloc ho _)
    (.slice (some ⟨w.heap.size, 0, none⟩) 1 1) [.slice a l c]
    ⟨_, 1, rfl, by simp, by simp, fun h => by (cases h), .inr ⟨w.heap.size, 0, rfl, fun j hj => by
      obtain rfl : j = 0 := by simpa using hj
      simp⟩⟩ (fun y hy => by simp at hy; subst hy; rfl) (by simp [maxLen]; omega) (by simp; omega) (by simp; omega)
  have hg : Grew w w' u v' := ⟨⟨h3.os, h3.tape, h3.output, by have := h3.size; simp at this; omega, fun k hk hne => (h3.block k (by simp; omega) hne).trans (Below.heap_alloc w _ k hk)⟩, fun g hg => (h4 g hg).imp id fun h => by simp at h; omega⟩
  refine ⟨v', w', h1, vs ++ [.slice a l c], by simp [hl], by rw [List.length_append]; exact h2, fun i hi => ?_, hB.trans (hg.below zB fun g hg => (ho.lt g hg).1)⟩
  by_cases hlt : i < L.length
  · rw [gapp_left _ _ _ _ (by omega), gapp_left _ _ _ _ hlt]; exact hr i hlt
  · obtain rfl : i = L.length := by simp at hi; omega
    rw [← hl, gapp_last, hl, gapp_last]; exact hx
/-- a fresh list of rows, and behind it rows that were there -/
theorem run_appRows {w w1 : World} {u v : Value} {L M : List (List Int)} (h : O2 w1 (win w.heap.size w1.heap.size) u L) (hb : Below w.heap.size w w1) (hv : Rd2 w v M) (hn : L.length ≤ 1000000) (hm : M.length ≤ 1000000) :
    ∃ v' w', (Builtin.append_ #[23, 23] 23 #[u, v]).run Try.prog w1 = .ok v' w' ∧ Rd2 w' v' (L ++ M) ∧ Below w.heap.size w w' := by
  obtain ⟨i0, hi, hz0, hz1, hz2⟩ := info_parts Try.infoRow
  have hv1 := hv.below hb
  obtain ⟨vs, T, h1, h2, h3, h4, h5⟩ := h
  obtain ⟨ms, m1, m2, m3⟩ := hv
  obtain ⟨ms', m1', m2', m3'⟩ := hv1
  have e1 : RdV w1 v ms := m1.below hb
  have hvl : vs.length = L.length := by have := h1.1; omega
  obtain ⟨v', w', k1, k2, k3, k4⟩ := run_app w1 0 23 23 22 i0 _ 24 Try.underlying23 hi hz0 hz1 hz2 rfl u L.length vs h1 v ms e1 (fun y hy => by
    obtain ⟨i, hi, rfl⟩ := List.mem_iff_getElem.1 hy
    obtain ⟨a, c, e, _⟩ := (m3 i (by omega)).form
    rw [List.getD, List.getElem?_eq_getElem hi] at e
    rw [show ms[i] = _ from e]; rfl) (by simp [maxLen]; omega) (by omega) (Nat.zero_le _)
  have hg : Grew w1 w' u v' := ⟨k3, k4⟩
  have hC : ChgS (fun k => u.ownBlock = some k) w1 w' := ChgS.of_grew hg fun g hg => hg
  have hB2 : Below w.heap.size w w' := hb.trans (hC.below (fun k hk => (h2 k hk).1) hb.size)
  refine ⟨v', w', k1, ⟨vs ++ ms, rdV_of_own k2, by simp; omega, fun i hi => ?_⟩, hB2⟩
  by_cases hlt : i < L.length
  · rw [gapp_left _ _ _ _ (by omega), gapp_left _ _ _ _ hlt]
    exact (local_O1.chg (h3 i hlt).2 hC fun k hk hh => h4 i hlt k hh hk).rd
  · obtain ⟨j, rfl⟩ : ∃ j, i = L.length + j := ⟨i - L.length, by omega⟩
    rw [List.length_append] at hi
    rw [gapp_right, ← hvl, gapp_right]
    exact (m3 j (by omega)).below hB2
--== spec.l01Own2
set_option maxHeartbeats 2000000 in
theorem s_l01Own2 (v : Value) (L : List (List Int)) (w : World) (hv : Rd2 w v L) (hs : L.length ≤ 1000000) (hr : ∀ i, i < L.length → (L.getD i []).length ≤ 1000) : Calls Try.prog 98 #[v] w (RetL2 w L) := by
  have hO0 : O2 (w.alloc (Obj.cells #[] 22)) (win w.heap.size (w.alloc (Obj.cells #[] 22)).heap.size) (.slice (some ⟨w.heap.size, 0, none⟩) 0 0) [] :=
    ⟨[], fun _ _ => False, ⟨rfl, .inr ⟨w.heap.size, 0, #[], rfl, Nat.zero_le _, heap_alloc_new w _, Nat.le_refl _, by simp [maxLen], rfl, rfl⟩⟩, fun g hg => by
      obtain rfl : w.heap.size = g := by simpa [Value.ownBlock] using hg
      exact ⟨Nat.le_refl _, by simp⟩, fun i hi => by simp at hi, fun i hi => by simp at hi, fun i j hi => by simp at hi⟩
  have HO0 := Lib.hid hO0
  obtain ⟨n, hn⟩ : ∃ n, L.length = n := ⟨_, rfl⟩
  obtain ⟨a0, c0, rfl, _, _⟩ := hv.formN hn
  have HV := Lib.hid hv
  have HN := Lib.hid hn
  have HR := Lib.hid hr
  rw [hn] at hs
  clear hO0 hv hn hr
  go_enter Try.func98, Try.ntmps98
  go_wp2_with fail
  go_loopw [3, 4] (fun u i wr => ∃ j : Nat, j ≤ n ∧ i = .int .i64 j ∧ O2 wr (win w.heap.size wr.heap.size) u (L.take j) ∧ Below w.heap.size w wr) (fun _ i _ => n - (intOf i).toNat)
  case atStart => exact ⟨0, Nat.zero_le _, rfl, HO0.out, below_alloc _ _⟩
  case round =>
    clear HO0
    obtain ⟨j, hj, rfl, hO, hB⟩ := hrel
    obtain ⟨a6, c6, rfl, _, _⟩ := hO.formN (n := j) (by have := HN.out; simp; omega)
    have sB := hB.size
    by_cases hlt : j < n
    · have hlt' : j < L.length := by rw [HN.out]; exact hlt
      have HS : Hid (L.take (j + 1) = L.take j ++ [L.getD j []]) := by
        show _ = _
        rw [List.take_succ_eq_append_getElem hlt', List.getD, List.getElem?_eq_getElem hlt']; rfl
      have HLn : Hid ((L.take j).length = j) := by show _ = _; simp; omega
      obtain ⟨R, hR⟩ : ∃ R, L.take j = R := ⟨_, rfl⟩
      rw [hR] at hO HLn HS
      obtain ⟨b, o, r, he, hc, hRr⟩ := HV.out.at hlt'
      obtain ⟨x, hx⟩ : ∃ x, L.getD j [] = x := ⟨_, rfl⟩
      have hxl := HR.out j hlt'
      rw [hx] at hRr HS hxl
      subst he
      have e1 := below_cells hB _ _ hc
      have RR := hRr.below hB
      obtain ⟨ar, cr, rfl, _, _⟩ := RR.form
      have HO := Lib.hid hO
      have HB := Lib.hid hB
      clear hR hO hc hRr hx hlt'
      go_wp2_with fail
      refine (s_l01Own _ x _ RR (by omega)).mono ?_
      rintro e w5 ⟨u5, rfl, hI5, hB5⟩
      obtain ⟨a5, c5, hu5, _, _⟩ := hI5.rd.form
      subst hu5
      obtain ⟨v6, w6, hr6, hO6, hB6⟩ := step_rows HO.out HB.out.size hI5 rfl hB5 (by rw [HLn.out]; omega)
      have hB7 := (HB.out.trans (hB5.mono HB.out.size)).trans hB6
      clear hI5 hB5 hB6 RR e1
      go_wp2_with (at_builtin; refine wp_of_run _ rfl _ _ _ rfl _ _ rfl rfl _ _ hr6 ?_)
      go_roundw
      case rel => exact ⟨j + 1, by omega, by go_num, by rw [HS.out]; exact hO6, hB7⟩
      case measure => (simp [intOf]; try omega)
    · obtain rfl : j = n := by omega
      rw [List.take_of_length_le (by have := HN.out; omega)] at hO
      have HO := Lib.hid hO
      clear hO
      go_wp2_with fail
      go_ret
      exact ⟨_, rfl, HO.out, hB⟩
--== spec.l12Full
set_option maxHeartbeats 8000000 in
theorem s_l12Full {p : Pres} (hV : ValidP p) (hG : GT p 0) (T : List (List Int)) (v1 v2 v3 vt : Value) (w : World) (hp : RdP w v1 v2 v3 p) (ht : Rd2 w vt T) (hTl : T.length = p.n) (hT : Tab p T) :
    Calls Try.prog 128 #[.agg #[v1, v2, v3], vt] w fun e w' => ∃ u D, e = .returned u ∧ FD p T 0 D ∧ Rd2 w' u (filt D) ∧ Below w.heap.size w w' := by
  obtain ⟨i0, hi, hz0, hz1, hz2⟩ := info_parts Try.infoRow
  have hn6 := hV.n6
  have HP := Lib.hid hp
  obtain ⟨p1, q1, rfl, _, _⟩ := hp.1.form
  obtain ⟨p2, q2, rfl, _, _⟩ := hp.2.1.form
  obtain ⟨p3, q3, rfl, _, _⟩ := hp.2.2.form
  obtain ⟨at', ct, rfl, _, _⟩ := ht.formN hTl
  have HT := Lib.hid ht
  have HTL := Lib.hid hTl
  have HTB := Lib.hid hT
  have HG := Lib.hid hG
  have HVd := Lib.hid hV
  have hsz : (w.alloc (Obj.cells #[Value.slice p1 p.orders.length q1, Value.slice p2 p.powers.length q2, Value.slice p3 p.conj.length q3] 28)).heap.size = w.heap.size + 1 := by simp
  have G0 := Lib.hid (below_alloc w (Obj.cells #[Value.slice p1 p.orders.length q1, Value.slice p2 p.powers.length q2, Value.slice p3 p.conj.length q3] 28))
  have X0 := Lib.hid (Bx.new w (Value.slice p1 p.orders.length q1) (Value.slice p2 p.powers.length q2) (Value.slice p3 p.conj.length q3))
  clear hp ht hTl hT hG hV
  go_enter Try.func128, Try.ntmps128
  go_wp2_with (at_make; refine wp_mkO local_O1 _ rfl _ _ 23 rfl i0 Try.underlying23 hi hz0 hz1 hz2 _ _ _ _ p.n rfl rfl rfl rfl (by omega) ?_)
  intro w1 hO hB1 hlt1
  have g1 := G0.out.trans (hB1.mono (Nat.le_succ _))
  have x1 := X0.out.below hB1 (Nat.lt_succ_self _)
  have hR1 : RowV w1 (w.heap.size + 1) p.n (List.replicate p.n []) := RowV.ofO2 hO (by simp)
  have HR1 := Lib.hid hR1
  have HX1 := Lib.hid x1
  have HG1 := Lib.hid g1
  clear hO hR1 x1 g1 hB1 hlt1 G0 X0 hi hz0 hz1 hz2
  go_wp2_with fail
  go_loopw [6] (fun t wr => ∃ (i : Nat) (k : Int) (D : List (List Int)), t = .int .i64 k ∧ k = (i : Int) - 1 ∧ i ≤ p.n ∧ Hid (FD p T i D) ∧ RowV wr (w.heap.size + 1) p.n D ∧ Bx wr w.heap.size (Value.slice p1 p.orders.length q1) (Value.slice p2 p.powers.length q2) (Value.slice p3 p.conj.length q3) ∧ Below w.heap.size w wr) (fun t _ => (intOf t + 1).toNat)
  case atStart => exact ⟨p.n, _, _, rfl, rfl, Nat.le_refl _, Lib.hid (FD.start p T), HR1.out, HX1.out, HG1.out⟩
  case round =>
    clear HR1 HX1 HG1 hsz
    obtain ⟨i, k, D, rfl, hk, hin, HF, hR, hX, hB⟩ := hrel
    have HR := Lib.hid hR
    have HX := Lib.hid hX
    have HB := Lib.hid hB
    cases i with
    | zero =>
      obtain rfl : k = -1 := by omega
      obtain ⟨wo, hwo⟩ : ∃ wo : World, wo = wr := ⟨_, rfl⟩
      subst hwo
      have hDl := HF.out.len
      have HDL := Lib.hid hDl
      clear hk hR hX hB hDl
      go_wp2_with fail
      go_loopw [9, 10] (fun u t wx => ∃ m : Nat, m ≤ p.n ∧ t = .int .i64 m ∧ RL wo u (filt (D.take m)) wx) (fun _ t _ => p.n - (intOf t).toNat)
      case atStart => exact ⟨0, Nat.zero_le _, rfl, by rw [List.take_zero]; exact RL.new wo⟩
      case round =>
        obtain ⟨m, hm, rfl, hL⟩ := hrel
        have HL := Lib.hid hL
        obtain ⟨_, _, _, _, hBL⟩ := hL
        have HBL := Lib.hid hBL
        clear hBL
        by_cases hlt : m < p.n
        · obtain ⟨a8, c8, hc8, hr8, _⟩ := HR.out.at hlt
          have e8 := below_cells HBL.out _ _ hc8
          have HR8 := Lib.hid hr8
          have HFT := Lib.hid (filt_take (D := D) (d := m) (by rw [HDL.out]; exact hlt))
          have HLl : Hid ((filt (D.take m)).length ≤ 1000000) := by
            show _ ≤ _
            have := filt_le (D.take m); simp at this; omega
          clear hr8 hc8
          obtain ⟨x, hx⟩ : ∃ x, D.getD m [] = x := ⟨_, rfl⟩
          rw [hx] at e8 HR8 HFT
          clear hx
          by_cases h0 : x = []
          · subst h0
            rw [List.length_nil] at e8
            go_wp2_with fail
            go_roundw
            case rel => exact ⟨m + 1, by omega, by go_num, by rw [HFT.out, if_pos rfl]; exact HL.out⟩
            case measure => (simp [intOf]; try omega)
          · obtain ⟨l, hl⟩ : ∃ l, x.length = l + 1 := ⟨x.length - 1, by
              have := List.length_pos_iff.2 h0; omega⟩
            have H0 := Lib.hid h0
            have hl0 : (0 : Int) < ((l + 1 : Nat) : Int) := by omega
            rw [hl] at e8 HR8
            obtain ⟨v6, w6, hr6, hL6⟩ := RL.push HL.out HR8.out HLl.out
            have HL6 := Lib.hid hL6
            obtain ⟨aL, cL, rfl⟩ := HL.out.form
            clear hl h0 hL6
            go_wp2_with (at_builtin; refine wp_of_run _ rfl _ _ _ rfl _ _ rfl rfl _ _ hr6 ?_)
            go_roundw
            case rel => exact ⟨m + 1, by omega, by go_num, by rw [HFT.out, if_neg H0.out]; exact HL6.out⟩
            case measure => (simp [intOf]; try omega)
        · obtain rfl : m = p.n := by omega
          have h9 := HL.out.rd2
          rw [← HDL.out, List.take_length] at h9
          have H9 := Lib.hid h9
          have hB9 := below_size HB.out HBL.out
          clear h9
          go_wp2_with fail
          go_ret
          exact ⟨_, D, rfl, HF.out, H9.out, hB9⟩
    | succ j =>
      obtain rfl : k = (j : Int) := by omega
      have hjn : j < p.n := by omega
      obtain ⟨bt, ot, r, he, hc, hRr⟩ := HT.out.at (j := j) (by rw [HTL.out]; exact hjn)
      subst he
      have e1 := below_cells hB _ _ hc
      have RT := Lib.hid (hRr.below hB)
      clear hk hR hX hB hc hRr
      obtain ⟨a6, c6, rfl, _, _⟩ := RT.out.form
      by_cases ht0 : T.getD j [] = []
      · have HF2 := Lib.hid (HF.out.skip ht0)
        rw [ht0, List.length_nil] at e1
        clear ht0
        go_wp2_with fail
        go_roundw
        case rel => exact ⟨j, _, D, by go_num, rfl, by omega, HF2, HR.out, HX.out, HB.out⟩
        case measure => (simp [intOf]; try omega)
      · obtain ⟨t1, t2⟩ := HTB.out j hjn ht0
        have HPUT := Lib.hid (HF.out.put HG.out hjn HTB.out ht0)
        have HK1 := Lib.hid t1
        have HK2 := Lib.hid t2
        have hlr := t1.len
        rw [hlr] at e1 RT
        have hn0 : ((p.n : Int) == 0) = false := by simp; omega
        have hjn' : (j : Int) < (p.n : Int) := by omega
        obtain ⟨wo, hwo⟩ : ∃ wo : World, wo = wr := ⟨_, rfl⟩
        subst hwo
        clear t1 t2 hlr ht0
        go_wp2_with fail
        go_loopw [7, 8] (fun u t wr => ∃ (e : Nat) (X : List Int), j + 1 ≤ e ∧ e ≤ p.n ∧ t = .int .i64 e ∧ Hid (redF p D (p.n - e) e X = redF p D (p.n - (j + 1)) (j + 1) (T.getD j [])) ∧ VI p j X ∧ Hid (X.getD j 0 = 1) ∧ Rd wr u X ∧ Below wo.heap.size wo wr) (fun _ t _ => p.n - (intOf t).toNat)
        case atStart => exact ⟨j + 1, T.getD j [], Nat.le_refl _, by omega, by go_num, rfl, HK1.out, HK2, RT.out, Below.refl _ _⟩
        case round =>
          obtain ⟨e, X, hje, hen, rfl, HE, hkX, HX1, hRX, hB2⟩ := hrel
          have hlX := hkX.len
          have HKX := Lib.hid hkX
          obtain ⟨aX, cX, rfl, _, _⟩ := hRX.formN hlX
          have HRX := Lib.hid hRX
          have HB2 := Lib.hid hB2
          have HR2 := Lib.hid (HR.out.keep hB2)
          have HX2 := Lib.hid (HX.out.below hB2 HX.out.lt)
          clear hB2 hkX
          by_cases hlt : e < p.n
          · obtain ⟨a8, c8, hc8, hr8, _⟩ := HR2.out.at hlt
            obtain ⟨b5, o5, he5, hc5⟩ := hRX.at (j := e) (by omega)
            obtain rfl : aX = some ⟨b5, o5, none⟩ := by simpa using he5
            have HR8 := Lib.hid hr8
            have xlo := HKX.out.lo e hlt
            have xhi := HKX.out.hi e hlt
            have r7 := (HVd.out.rk e hlt).2
            obtain ⟨xe, hxe⟩ : ∃ xe, X.getD e 0 = xe := ⟨_, rfl⟩
            have HXE := Lib.hid hxe
            rw [hxe] at hc5 xlo xhi
            obtain ⟨k, hk⟩ : ∃ k, p.n - e = k + 1 := ⟨p.n - e - 1, by omega⟩
            have hk' : k = p.n - (e + 1) := by omega
            have HSTEP : Hid (redF p D (p.n - (e + 1)) (e + 1) (if D.getD e [] ≠ [] ∧ X.getD e 0 ≠ 0 then p.at 0 X (zpw p (D.getD e []) (-(X.getD e 0))) else X) = redF p D (p.n - (j + 1)) (j + 1) (T.getD j [])) := by
              show _ = _
              have := HE.out
              rw [hk] at this
              rw [← hk', ← this]; rfl
            clear hr8 hRX hxe hk hk'
            by_cases hD0 : D.getD e [] = []
            · have HS2 : Hid (redF p D (p.n - (e + 1)) (e + 1) X = redF p D (p.n - (j + 1)) (j + 1) (T.getD j [])) := by
                show _ = _
                rw [← HSTEP.out, if_neg (fun h => h.1 hD0)]
              rw [hD0, List.length_nil] at hc8
              clear hD0
              go_wp2_with fail
              go_roundw
              case rel => exact ⟨e + 1, X, by omega, by omega, by go_num, HS2, HKX.out, HX1, HRX.out, HB2.out⟩
              case measure => (simp [intOf]; try omega)
            · obtain ⟨d1, d2⟩ := HF.out.tab e hlt hD0
              have hld := d1.len
              rw [hld] at hc8 HR8
              have hnp : (0 : Int) < (p.n : Int) := by omega
              by_cases hx0 : xe = 0
              · subst hx0
                have HS2 : Hid (redF p D (p.n - (e + 1)) (e + 1) X = redF p D (p.n - (j + 1)) (j + 1) (T.getD j [])) := by
                  show _ = _
                  rw [← HSTEP.out, if_neg (fun h => h.2 HXE.out)]
                clear hD0 d1 d2 hld
                go_wp2_with fail
                go_roundw
                case rel => exact ⟨e + 1, X, by omega, by omega, by go_num, HS2, HKX.out, HX1, HRX.out, HB2.out⟩
                case measure => (simp [intOf]; try omega)
              · have hx0' : (xe == 0) = false := by simpa using hx0
                have HS2 : Hid (redF p D (p.n - (e + 1)) (e + 1) (p.at 0 X (zpw p (D.getD e []) (-xe))) = redF p D (p.n - (j + 1)) (j + 1) (T.getD j [])) := by
                  show _ = _
                  rw [← HSTEP.out, if_pos ⟨hD0, by rw [HXE.out]; exact hx0⟩, HXE.out]
                have hst := redF_step HG.out HF.out.tab (show j < e by omega) hlt HKX.out HX1.out hD0
                rw [HXE.out] at hst
                obtain ⟨z1, y1, y2⟩ := hst
                have HY1 := Lib.hid y1
                have HY2 := Lib.hid y2
                have hX0 := HKX.out.mono (Nat.zero_le j)
                have HPW : Hid (∀ wx, Below wr.heap.size wr wx → Calls Try.prog 126 #[.agg #[Value.slice p1 p.orders.length q1, Value.slice p2 p.powers.length q2, Value.slice p3 p.conj.length q3], .slice a8 p.n c8, .int .i64 (-xe)] wx (RetInts wx (zpw p (D.getD e []) (-xe)))) := fun wx hb =>
                  s_l10Pow HVd.out HG.out (D.getD e []) (-xe) _ _ _ _ wx (HP.out.below (below_size (below_size HB.out HB2.out) hb)) (HR8.out.below hb) (d1.mono (Nat.zero_le _)) (by omega)
                have HML : Hid (∀ wx u, Below wr.heap.size wr wx → Rd wx u (zpw p (D.getD e []) (-xe)) → Calls Try.prog 122 #[.agg #[Value.slice p1 p.orders.length q1, Value.slice p2 p.powers.length q2, Value.slice p3 p.conj.length q3], .slice (some ⟨b5, o5, none⟩) p.n cX, u] wx (RetInts wx (p.at 0 X (zpw p (D.getD e []) (-xe))))) := fun wx u hb hu =>
                  s_l08Mul HVd.out X _ _ _ _ _ _ wx (HP.out.below (below_size (below_size HB.out HB2.out) hb)) (HRX.out.below hb) hu hX0 z1
                have m0 := HX2.out.c0
                have m1 := HX2.out.c1
                have m2 := HX2.out.c2
                have KEEP : Hid (∀ wx, Below wr.heap.size wr wx → Below wr.heap.size wr wx ∧ wx.cell? ⟨w.heap.size, 0, none⟩ = some (Value.slice p1 p.orders.length q1) ∧ wx.cell? ⟨w.heap.size, 1, none⟩ = some (Value.slice p2 p.powers.length q2) ∧ wx.cell? ⟨w.heap.size, 2, none⟩ = some (Value.slice p3 p.conj.length q3) ∧ wx.cell? ⟨w.heap.size + 1, e, none⟩ = some (.slice a8 p.n c8) ∧ wx.cell? ⟨b5, o5 + e, none⟩ = some (.int .i64 xe)) := fun wx hb =>
                  ⟨hb, below_cells hb _ _ m0, below_cells hb _ _ m1, below_cells hb _ _ m2, below_cells hb _ _ hc8, below_cells hb _ _ hc5⟩
                have W1 : IntKind.i64.wrap (-xe) = -xe := IntWalk.i64_in _ (by omega)
                generalize p.at 0 X (zpw p (D.getD e []) (-xe)) = Y at *
                generalize zpw p (D.getD e []) (-xe) = Z at *
                clear d1 d2 z1 y1 y2 hX0 hld hD0
                go_wp2_with fail
                go_region_held3 (fun wx => Below wr.heap.size wr wx ∧ wx.cell? ⟨w.heap.size, 0, none⟩ = some (Value.slice p1 p.orders.length q1) ∧ wx.cell? ⟨w.heap.size, 1, none⟩ = some (Value.slice p2 p.powers.length q2) ∧ wx.cell? ⟨w.heap.size, 2, none⟩ = some (Value.slice p3 p.conj.length q3) ∧ wx.cell? ⟨w.heap.size + 1, e, none⟩ = some (.slice a8 p.n c8) ∧ wx.cell? ⟨b5, o5 + e, none⟩ = some (.int .i64 xe))
                  (first | exact KEEP.out _ (Below.refl _ _).drew | exact KEEP.out _ (below_size (And.left (by assumption)) (by assumption)))
                  (first
                    | ((go_at_call 126); (with_reducible refine (HPW.out _ (And.left (by assumption))).mono ?_); (rintro e w5 ⟨u5, rfl, hI5, hB5⟩))
                    | ((go_at_call 122); (with_reducible refine (HML.out _ _ (And.left (by assumption)) hI5.rd).mono ?_); (rintro e w6 ⟨u6, rfl, hI6, hB6⟩)))
                have hB7 : Below wr.heap.size wr w6 := And.left (by assumption)
                have hB8 := below_size HB2.out hB7
                have hR6 := hI6.rd
                clear hI5 hB5 hB6 hI6 KEEP HPW HML W1 hB7 m0 m1 m2 hc8 hc5
                go_wp2_with fail
                go_roundw
                case rel => exact ⟨e + 1, Y, by omega, by omega, by go_num, HS2, HY1.out, HY2, hR6, hB8⟩
                case measure => (simp [intOf]; try omega)
          · obtain rfl : e = p.n := by omega
            have hXe : X = redF p D (p.n - (j + 1)) (j + 1) (T.getD j []) := by
              rw [← HE.out, Nat.sub_self]; rfl
            have hput := HPUT.out.2
            rw [← hXe] at hput
            have HPT := Lib.hid hput
            obtain ⟨a8, c8, hc8, _, hf8⟩ := HR2.out.at hjn
            have HR3 := Lib.hid (HR2.out.put hjn hRX)
            have HX3 := Lib.hid (HX2.out.other (c := w.heap.size + 1) (by omega) j (.slice aX p.n cX))
            have HB3 := Lib.hid ((below_size HB.out HB2.out).setCell (p := ⟨w.heap.size + 1, j, none⟩) (Nat.le_succ _) (.slice aX p.n cX))
            clear hXe hput hRX
            go_wp2_with fail
            go_roundw
            case rel => exact ⟨j, _, _, by go_num, rfl, by omega, HPT, HR3.out, HX3.out, HB3.out⟩
            case measure => (simp [intOf]; try omega)
--== end
end Go.Proofs.Ytjefjhbnkcokhaa
