/-
  The program's reader of a presentation (under way).
-/
import Derived.Test.YtgcmhkihonadmaaGreatDoorPhd
import Derived.WideLaws
import Derived.Test.YtgcmhkihonadmaaGreatDoorDir
import Derived.Test.YtgcmhkihonadmaaGreatDoorPtc
namespace Go.Proofs.YtgcmhkihonadmaaGreatDoor
set_option linter.unusedVariables false
set_option linter.unusedSimpArgs false
set_option maxRecDepth 100000
open Go.RowKit Go.PlainAid

--== plain
theorem splitK_pos (sep : Txt) (k : Nat) (s : Txt) : 0 < (Lib.splitK sep 0 k s).length := by
  cases k with
  | zero => exact Nat.zero_lt_one
  | succ k => rw [Lib.splitK]; split <;> simp
theorem split_pos (s sep : Txt) : 0 < (Lib.split s sep).length := splitK_pos _ _ _
theorem splitK_le (sep : Txt) : ∀ (k : Nat) (s : Txt), ∀ x ∈ Lib.splitK sep 0 k s, x.length ≤ s.length := by
  intro k
  induction k with
  | zero => intro s x hx; rw [List.mem_singleton.1 hx]; exact Nat.le_refl _
  | succ k ih =>
    intro s x hx
    rw [Lib.splitK] at hx
    split at hx
    · rw [List.mem_singleton.1 hx]; exact Nat.le_refl _
    · rcases List.mem_cons.1 hx with rfl | hx
      · rw [List.length_take]; omega
      · have := ih _ x hx
        rw [List.length_drop] at this
        omega
theorem splitK_len (sep : Txt) : ∀ (k : Nat) (s : Txt), (Lib.splitK sep 0 k s).length ≤ k + 1 := by
  intro k
  induction k with
  | zero => intro s; exact Nat.le_refl _
  | succ k ih =>
    intro s
    rw [Lib.splitK]
    split
    · simp
    · rw [List.length_cons]
      have := ih (s.drop ((Lib.index s sep).toNat + sep.length))
      omega
theorem split_len (s sep : Txt) : (Lib.split s sep).length ≤ s.length + 2 := by
  have h1 := splitK_len sep (Lib.count s sep) s
  have h2 := Lib.count_le s sep
  unfold Lib.split
  omega
theorem part_le {ss : List ByteArray} {t sep : Txt} (h : ss.map (·.data.toList) = Lib.split t sep) {x : ByteArray} (hx : x ∈ ss) : x.size ≤ t.length := by
  have h1 : x.data.toList ∈ Lib.split t sep := by rw [← h]; exact List.mem_map_of_mem hx
  have := splitK_le sep _ t _ h1
  rw [data_len] at this
  exact this
/-- the first part is the orders' text -/
theorem part0 {ss : List ByteArray} {t : Txt} (h : ss.map (·.data.toList) = Lib.split t [59, 32]) (h0 : 0 < ss.length) {q : Pres} (hV : ValidP q) (ht : ptx q = t) : (ss[0]).data.toList = ordT q := by
  rw [← ht, split_ptx hV] at h
  cases ss with
  | nil => simp at h0
  | cons a r => exact (List.cons.inj h).1
theorem ords_partsI {p : Pres} (hV : ValidP p) {ss : List ByteArray} (h : ss.map (·.data.toList) = Lib.split (ordT p) [32]) (h1 : ¬ ordT p = [49]) : ss.length = p.n ∧ ∀ i (hi : i < ss.length), Lib.parseIntB 64 (ss[i]).data.toList = .ok (p.r i) ∧ i < p.n := by
  have h0 : 0 < p.n := by
    rcases Nat.eq_zero_or_pos p.n with h0 | h0
    · exact absurd (by unfold ordT; rw [if_pos h0]) h1
    · exact h0
  rw [(spl_ord hV h0).2] at h
  have hl : ss.length = p.n := (strs_lenS h).trans (ordsT_len p p.n)
  refine ⟨hl, fun i hi => ⟨?_, by omega⟩⟩
  have hr := hV.rk i (by omega)
  have e : (ss.map (·.data.toList))[i]? = (ordsT p p.n)[i]? := by rw [h]
  have e1 : (ordsT p p.n)[i]? = some (dg (p.r i)) := by
    unfold ordsT
    rw [List.getElem?_map, List.getElem?_range (by omega)]; rfl
  rw [e1, List.getElem?_map, List.getElem?_eq_getElem hi] at e
  have e2 : (ss[i]).data.toList = dg (p.r i) := Option.some.inj e
  rw [e2]
  exact parse_dg (by omega) (by omega)
/-- a relation's parts, as the program reads them -/
theorem rel_prog {q : Pres} (hV : ValidP q) {r : Rln} (hr : GdR q r) {t : Txt} {left right base by' : ByteArray} {f f2 : Bool}
    (hp : t = rlnT q r) (h1 : (left.data.toList, right.data.toList, f) = Lib.cut t [61]) (h2 : (base.data.toList, by'.data.toList, f2) = Lib.cut left.data.toList [94]) :
    (rdOk q.n right = true ∧ pB (rdL q.n right) = true ∧ vpL q.n (rdL q.n right) = r.2.2) ∧ (gnI q.n base = (r.1 : Int) ∧ gnB q.n base = true) ∧ (r.2.1 = none → gnB q.n by' = false) ∧ (∀ i, r.2.1 = some i → gnB q.n by' = true ∧ gnI q.n by' = (i : Int)) := by
  have hn6 := hV.n6
  rw [hp, cut_rln hV hr] at h1
  simp only [Prod.mk.injEq] at h1
  obtain ⟨e1, e2, _⟩ := h1
  rw [e1, cut_lhs hV hr] at h2
  simp only [Prod.mk.injEq] at h2
  obtain ⟨e3, e4, _⟩ := h2
  obtain ⟨j, o, v⟩ := r
  have h := gn_lhs hV hr e4
  exact ⟨rd_wtx hV hr e2, gn_lt hr.j hn6 e3, h.1, h.2⟩
theorem gn_nat {n : Nat} {s : ByteArray} (h : gnB n s = true) : ∃ k : Nat, k < n ∧ gnI n s = (k : Int) := by
  have h' := of_decide_eq_true h
  obtain ⟨e, _⟩ := gn_yes h'
  exact ⟨(bt s 0 - 97).toNat, by omega, by rw [e]; omega⟩
/-- the part number j + 1 of a presentation's text -/
theorem part_at {ss : List ByteArray} {t : Txt} (h : ss.map (·.data.toList) = Lib.split t [59, 32]) {q : Pres} (hV : ValidP q) (ht : ptx q = t) {j : Nat} (hj : j + 1 < ss.length) : ∃ r, (ss[j + 1]).data.toList = rlnT q r ∧ GdR q r ∧ (rlns q).take (j + 1) = (rlns q).take j ++ [r] := by
  rw [← ht, split_ptx hV] at h
  have e : (ss.map (·.data.toList))[j + 1]? = ((rlns q).map (rlnT q))[j]? := by rw [h]; rfl
  have hl := congrArg List.length h
  simp only [List.length_map, List.length_cons] at hl
  have hj' : j < (rlns q).length := by omega
  rw [List.getElem?_map, List.getElem?_eq_getElem hj, List.getElem?_map, List.getElem?_eq_getElem hj'] at e
  exact ⟨(rlns q)[j], Option.some.inj e, gd_rlns hV (List.getElem_mem hj'), by rw [List.take_add_one, List.getElem?_eq_getElem hj']; rfl⟩
theorem parts_all {ss : List ByteArray} {t : Txt} (h : ss.map (·.data.toList) = Lib.split t [59, 32]) {q : Pres} (hV : ValidP q) (ht : ptx q = t) {m : Nat} (hm : ss.length = m + 1) : (rlns q).take m = rlns q := by
  rw [← ht, split_ptx hV] at h
  have hl := congrArg List.length h
  simp only [List.length_map, List.length_cons] at hl
  exact List.take_of_length_le (by omega)
/-- the cells of parts[1:] -/
theorem Strs.cut1 {w : World} {B g m c : Nat} {ss : List ByteArray} (h : Strs w B (.slice (some ⟨g, 0, none⟩) (m + 1) c) ss) (hm : ss.length = m + 1) : ∃ a' : Option Addr, (if c = 1 then some (⟨g, 0, none⟩ : Addr) else some ⟨g, 1, none⟩) = a' ∧ ∀ j (hj : j < m), a' = some ⟨g, 1, none⟩ ∧ w.cell? ⟨g, 1 + j, none⟩ = some (.string (ss[j + 1]'(by omega))) := by
  obtain ⟨a, c', he, hc⟩ := h.formN hm
  simp only [Value.slice.injEq] at he
  obtain ⟨rfl, _, rfl⟩ := he
  by_cases h1 : c = 1
  · exact ⟨_, rfl, fun j hj => by omega⟩
  · refine ⟨_, rfl, fun j hj => ⟨if_neg h1, ?_⟩⟩
    obtain ⟨g', e, _, _, hcell⟩ := h.at (j := j + 1) (s := ss[j + 1]'(by omega)) (by simp)
    simp only [Option.some.injEq, Addr.mk.injEq] at e
    obtain ⟨rfl, _⟩ := e
    rw [Nat.add_comm 1 j]; exact hcell
theorem cut_size {a b x : ByteArray} {f : Bool} {t : Txt} (h : (a.data.toList, b.data.toList, f) = Lib.cut x.data.toList t) : a.size ≤ x.size ∧ b.size ≤ x.size := by
  have ea : a.size = a.data.toList.length := (data_len a).symm
  have eb : b.size = b.data.toList.length := (data_len b).symm
  have ex : x.size = x.data.toList.length := (data_len x).symm
  unfold Lib.cut at h
  split at h <;> simp only [Prod.mk.injEq] at h <;> obtain ⟨h1, h2, _⟩ := h <;> rw [ea, eb, ex, h1, h2] <;> simp only [List.length_take, List.length_drop, List.length_nil] <;> omega
theorem BOpen.outD {w0 w wx : World} {b2 b4 : Nat} {P : Pres} {a1 c1 a2 n2 c2 a3 n3 c3} (h : BOpen w b2 b4 P a1 c1 a2 n2 c2 a3 n3 c3 wx) (hw : Below w0.heap.size w0 w) (hb2 : w0.heap.size ≤ b2) {n : Nat} (hn : P.orders.length = n) :
    OP (((wx.setCell ⟨b2, 0, none⟩ (.slice a1 n c1)).setCell ⟨b2, 1, none⟩ (.slice a2 n2 c2)).setCell ⟨b2, 2, none⟩ (.slice a3 n3 c3)) (win w0.heap.size (((wx.setCell ⟨b2, 0, none⟩ (.slice a1 n c1)).setCell ⟨b2, 1, none⟩ (.slice a2 n2 c2)).setCell ⟨b2, 2, none⟩ (.slice a3 n3 c3)).heap.size) (.slice a1 n c1) (.slice a2 n2 c2) (.slice a3 n3 c3) P ∧
      Below w0.heap.size w0 (((wx.setCell ⟨b2, 0, none⟩ (.slice a1 n c1)).setCell ⟨b2, 1, none⟩ (.slice a2 n2 c2)).setCell ⟨b2, 2, none⟩ (.slice a3 n3 c3)) := by
  subst hn
  have hs := hw.size
  exact ⟨OP.sub (OP.sets (OP.sets (OP.sets h.op (b := b2) (fun hh => hh.2.1 rfl) 0 _) (b := b2) (fun hh => hh.2.1 rfl) 1 _) (b := b2) (fun hh => hh.2.1 rfl) 2 _) (fun k hk hh => ⟨Nat.le_trans hs hh.1, hk⟩),
    (((below_size hw h.be).setCell (p := ⟨b2, 0, none⟩) hb2 _).setCell (p := ⟨b2, 1, none⟩) hb2 _).setCell (p := ⟨b2, 2, none⟩) hb2 _⟩
theorem valid_ps {P : Pres} {os : List Int} {t : Txt} {ss : List ByteArray} {m : Nat} (hm : ss.length = m + 1) (h : ss.map (·.data.toList) = Lib.split t [59, 32]) (hQ : ∀ q, ValidP q → ptx q = t → P = setA (triv q.orders) ((rlns q).take m)) : ∀ q, ValidP q → ptx q = t → q = P := fun q hV ht => by
  rw [hQ q hV ht, parts_all h hV ht hm, setA_all hV]
/-- what either reader answers: the presentation, or that there is none -/
def ParP (t : Txt) (p : Pres) : Prop := ValidP p ∧ ptx p = t ∧ ∀ q, ValidP q → ptx q = t → q = p
def NoP (t : Txt) : Prop := ∀ q, ValidP q → ptx q = t → False
def ParR (w : World) (t : Txt) (e : Ending) (w' : World) : Prop :=
  Below w.heap.size w w' ∧ ((∃ v1 v2 v3 p, e = .returned (.tuple #[.agg #[v1, v2, v3], .bool true]) ∧ OP w' (win w.heap.size w'.heap.size) v1 v2 v3 p ∧ ParP t p) ∨ (e = .returned (.tuple #[.agg #[.slice none 0 0, .slice none 0 0, .slice none 0 0], .bool false]) ∧ NoP t))
theorem neq_nn (w : World) : (binOp .neq 63 .nilIface .nilIface).run Tryz.prog w = .ok (.bool false) w := by
  simp [binOp, run_equal_nil_nil _ _ (show Tryz.prog.underlying 63 = some (.interface (Tryz.prog.methodsAt 63)) by kernel_rfl), go_sem]
theorem neq_hn (w : World) (te : TypeId) (pe : Value) : (binOp .neq 63 (.iface te pe) .nilIface).run Tryz.prog w = .ok (.bool true) w := by
  simp [binOp, run_equal_held_nil _ _ _ _ (show Tryz.prog.underlying 63 = some (.interface (Tryz.prog.methodsAt 63)) by kernel_rfl), go_sem]
--== impl.readPresentation
set_option maxHeartbeats 2000000 in
theorem i_readPresentation (s : ByteArray) (w : World) (hC : Cel w) (hs : s.size ≤ 2000000) :
    Calls Tryz.prog 15 #[.string s] w (ParR w s.data.toList) := by
  obtain ⟨i0, hi0, hz0, hz1, hz2⟩ := info_parts Tryz.info2
  have g0 := below_alloc w (Obj.cells #[Value.slice none 0 0, Value.slice none 0 0, Value.slice none 0 0] 26)
  have HX0 := Lib.hid (Bx.new w (Value.slice none 0 0) (Value.slice none 0 0) (Value.slice none 0 0))
  have HC1 := Lib.hid (hC.below g0)
  have HSP : Hid (∀ wx, Cel wx → Calls Tryz.prog 40 #[.string s, .string ⟨#[59, 32]⟩] wx (RetStrs wx (Lib.split s.data.toList [59, 32]))) := fun wx h => f_Split h s ⟨#[59, 32]⟩ (by omega) (Nat.le_add_left 1 1)
  have HG0 := Lib.hid g0
  clear hC g0
  go_enter Tryz.func15, Tryz.ntmps15
  go_wp2_with fail
  generalize w.alloc (Obj.cells #[Value.slice none 0 0, Value.slice none 0 0, Value.slice none 0 0] 26) = w1 at *
  refine (HSP.out _ HC1.out).mono ?_
  rintro e w2 ⟨sv, ss, rfl, hSS, hss, hB2⟩
  have h0 : 0 < ss.length := by rw [strs_lenS hss]; exact split_pos _ _
  obtain ⟨m, hm⟩ : ∃ m, ss.length = m + 1 := ⟨ss.length - 1, by omega⟩
  obtain ⟨sa, sc, rfl, hsc⟩ := hSS.formN hm
  obtain ⟨g, rfl, hgl, hgw, hc0⟩ := hSS.at (j := 0) (s := ss[0]) (by simp [h0])
  obtain ⟨x0, hx0⟩ : ∃ x, ss[0] = x := ⟨_, rfl⟩
  rw [hx0] at hc0
  have hx0s : x0.size ≤ 4000000 := by
    have := part_le hss (x := x0) (by rw [← hx0]; exact List.getElem_mem h0)
    rw [data_len] at this
    omega
  have HSS := Lib.hid hss
  have HW2 := Lib.hid (below_size HG0.out hB2)
  have HB12 := Lib.hid hB2
  have HC2 := Lib.hid (HC1.out.below hB2)
  have HLL := Lib.hid hSS
  clear hss hB2 hSS
  have HX0T : Hid (∀ q, ValidP q → ptx q = s.data.toList → x0.data.toList = ordT q) := fun q hV ht => by
    rw [← hx0]; exact part0 HSS.out h0 hV ht
  go_upto_if 31 with fail
  go_cut [5] (fun v wx => ∃ os : List Int, Ints wx w2.heap.size v os ∧ os.length ≤ 4000002 ∧ Below w2.heap.size w2 wx ∧ Hid (∀ q, ValidP q → ptx q = s.data.toList → os = q.orders))
  case first =>
    by_cases h1 : (x0.toList == [49]) = true
    · have HOS : Hid (∀ q, ValidP q → ptx q = s.data.toList → ([] : List Int) = q.orders) := fun q hV ht => by
        refine (ordT_one hV ?_).symm
        rw [← HX0T.out q hV ht, ← ByteArray.toList_eq]
        exact beq_iff_eq.1 h1
      rw [h1, Bool.not_true]
      go_wp2_with fail
      go_meet
      exact ⟨[], Ints.nil _ _, Nat.zero_le _, Below.refl _ _, HOS⟩
    · have h1' : (x0.toList == [49]) = false := by simpa using h1
      have HN : Hid (∀ q, ValidP q → ptx q = s.data.toList → ¬ ordT q = [49]) := fun q hV ht e => by
        rw [← HX0T.out q hV ht, ← ByteArray.toList_eq] at e
        exact h1 (beq_iff_eq.2 e)
      have HSP2 : Hid (Calls Tryz.prog 40 #[.string x0, .string ⟨#[32]⟩] w2 (RetStrs w2 (Lib.split x0.data.toList [32]))) := f_Split HC2.out x0 ⟨#[32]⟩ hx0s (Nat.le_refl 1)
      clear h1
      rw [h1', Bool.not_false]
      go_wp2_with fail
      clear hc0
      refine HSP2.out.mono ?_
      rintro e w3 ⟨tv, ts, rfl, hTS, hts, hB3⟩
      obtain ⟨ta, tc, rfl, htc⟩ := hTS.form
      have HTS := Lib.hid hts
      have HW3 := Lib.hid hB3
      have HC3 := Lib.hid (HC2.out.below hB3)
      have HTT := Lib.hid hTS
      have htl : ts.length ≤ 4000002 := by
        have := split_len x0.data.toList [32]
        rw [← strs_lenS hts, data_len] at this
        omega
      clear hts hB3 hTS
      go_wp2_with fail
      go_loopw [5, 37] (fun u t wr => ∃ (i : Nat) (os : List Int), i ≤ ts.length ∧ t = .int .i64 i ∧ Ints wr w3.heap.size u os ∧ os.length = i ∧ Hid (∀ q, ValidP q → ptx q = s.data.toList → os = q.orders.take i) ∧ Below w3.heap.size w3 wr) (fun _ t _ => ts.length - (intOf t).toNat)
      case atStart => exact ⟨0, [], Nat.zero_le _, rfl, Ints.nil _ _, rfl, fun q hV ht => rfl, Below.refl _ _⟩
      case round =>
        obtain ⟨i, os, hi, rfl, hI, hol, HOS, hB⟩ := hrel
        have HB := Lib.hid hB
        by_cases hlt : i < ts.length
        · obtain ⟨g2, hag, _, _, hc⟩ := HTT.out.at (j := i) (s := ts[i]) (by simp [hlt])
          subst hag
          have hltI : (i : Int) < (ts.length : Int) := by omega
          obtain ⟨x, hx⟩ : ∃ x, ts[i] = x := ⟨_, rfl⟩
          have HQ : Hid (∀ q, ValidP q → ptx q = s.data.toList → Lib.parseIntB 64 x.data.toList = .ok (q.r i) ∧ i < q.n) := fun q hV ht => by
            rw [← hx]
            exact (ords_partsI hV (by rw [HTS.out, HX0T.out q hV ht]) (HN.out q hV ht)).2 i hlt
          have hxs : x.size ≤ 4000000 := by
            have := part_le HTS.out (x := x) (by rw [← hx]; exact List.getElem_mem hlt)
            rw [data_len] at this
            omega
          rw [hx] at hc
          have hc' := below_cells hB _ _ hc
          have HPI : Hid (Calls Tryz.prog 41 #[.string x, .int .i64 10, .int .i64 64] wr _) := f_ParseInt (HC3.out.below hB) x hxs
          clear hx hc hB
          go_wp2_with fail
          refine HPI.out.mono ?_
          rintro e w5 ⟨v, hv, hB5⟩
          clear hc'
          rcases hv with ⟨rfl, hv⟩ | ⟨te, pe, rfl, hv⟩
          · have HV := Lib.hid hv
            have hq := neq_nn
            have HI5 := Lib.hid (show Ints w5 w3.heap.size _ os from own_below hI hB5)
            have HB6 := Lib.hid (HB.out.trans (hB5.mono HB.out.size))
            have HNX : Hid (∀ q, ValidP q → ptx q = s.data.toList → os ++ [v] = q.orders.take (i + 1)) := fun q hV ht => by
              obtain ⟨e1, e2⟩ := HQ.out q hV ht
              rw [HV.out] at e1
              have e3 : v = q.r i := by injection e1
              rw [take_snoc q.orders i 0 e2, ← HOS.out q hV ht, e3]; rfl
            clear hv hB5 hI
            go_wp2_with (at_builtin; refine wp_app1 _ rfl _ _ rfl w3.heap.size i0 Tryz.underlying22 hi0 hz0 hz1 hz2 _ _ rfl HI5.out v rfl (by omega) HB6.out.size ?_)
            intro v' w6 hI6 hG hB7
            have HB8 := Lib.hid (HB6.out.trans hB7)
            clear hG hB7
            go_wp2_with fail
            go_roundw
            case rel => exact ⟨i + 1, os ++ [v], by omega, by go_num, hI6, by rw [List.length_append, hol]; rfl, HNX.out, HB8.out⟩
            case measure => (simp [intOf]; try omega)
          · have HV := Lib.hid hv
            have hq := neq_hn
            have x5 := HX0.out.below (below_size HB12.out (below_size HW3.out (below_size HB.out hB5))) HX0.out.lt
            have m0 := x5.c0
            have m1 := x5.c1
            have m2 := x5.c2
            have f0 := x5.fr 0
            have f1 := x5.fr 1
            have f2 := x5.fr 2
            have l5 := x5.lt
            clear hv
            go_wp2_with fail
            have HNO : NoP s.data.toList := fun q hV ht => HV.out _ (HQ.out q hV ht).1
            have HBE := Lib.hid (below_size HW2.out (below_size HW3.out (below_size HB.out hB5)))
            refine bodyPost_ret (v := .tuple #[.agg #[.slice none 0 0, .slice none 0 0, .slice none 0 0], .bool false]) (by simp [results, Tryz.results15, go_sem, m0, m1, m2]) rfl ⟨?_, .inr ⟨rfl, HNO⟩⟩
            exact ((HBE.out.setCell (p := ⟨w.heap.size, 0, none⟩) (Nat.le_refl _) _).setCell (p := ⟨w.heap.size, 1, none⟩) (Nat.le_refl _) _).setCell (p := ⟨w.heap.size, 2, none⟩) (Nat.le_refl _) _
        · obtain rfl : i = ts.length := by omega
          obtain ⟨oa, oc, rfl, _, _⟩ := hI.form
          have HOE : Hid (∀ q, ValidP q → ptx q = s.data.toList → os = q.orders) := fun q hV ht => by
            rw [HOS.out q hV ht]
            have e := (ords_partsI hV (by rw [HTS.out, HX0T.out q hV ht]) (HN.out q hV ht)).1
            rw [e]; exact List.take_length
          have hI2 := hI.mono HW3.out.size
          have hB2 := below_size HW3.out hB
          go_wp2_with fail
          go_meet
          exact ⟨os, hI2, by omega, hB2, HOE⟩
  case rest =>
    obtain ⟨os, hI, hol, hB, HOS⟩ := hcut
    clear hc0
    obtain ⟨n, hn⟩ : ∃ n, os.length = n := ⟨_, rfl⟩
    obtain ⟨oa, oc, rfl, _, _⟩ := hI.rd.formN hn
    have HI := Lib.hid hI.rd
    have x3 := HX0.out.below (below_size HB12.out hB) HX0.out.lt
    have HNQ : Hid (∀ q, ValidP q → ptx q = s.data.toList → q.n = n) := fun q hV ht => by rw [← hn, HOS.out q hV ht]; rfl
    by_cases h6 : n ≤ 6
    case neg =>
      have h6I : (6 : Int) < (n : Int) := by omega
      have m0 := x3.c0
      have m1 := x3.c1
      have m2 := x3.c2
      have f0 := x3.fr 0
      have f1 := x3.fr 1
      have f2 := x3.fr 2
      have l3 := x3.lt
      have HNO : Hid (NoP s.data.toList) := fun q hV ht => by
        have n6 := hV.n6
        have := HNQ.out q hV ht
        omega
      have HBE := Lib.hid (below_size HW2.out hB)
      clear hI hB hn hol
      go_wp2_with fail
      refine bodyPost_ret (v := .tuple #[.agg #[.slice none 0 0, .slice none 0 0, .slice none 0 0], .bool false]) (by simp [results, Tryz.results15, go_sem, m0, m1, m2]) rfl ⟨?_, .inr ⟨rfl, HNO.out⟩⟩
      exact ((HBE.out.setCell (p := ⟨w.heap.size, 0, none⟩) (Nat.le_refl _) _).setCell (p := ⟨w.heap.size, 1, none⟩) (Nat.le_refl _) _).setCell (p := ⟨w.heap.size, 2, none⟩) (Nat.le_refl _) _
    have h6I : ¬ (6 : Int) < (n : Int) := by omega
    have HX3 := Lib.hid x3
    have HB3 := Lib.hid hB
    have HN := Lib.hid hn
    have HS0 : Hid (Shp n (triv os)) := by have := shp_triv os; rw [hn] at this; exact this
    clear hI hB x3 hol hn
    go_wp2_with fail
    refine (i_trivialRelations _ _ _ HI.out (by rw [HN.out]; omega)).mono ?_
    rintro e w4 ⟨v1, v2, v3, rfl, hP4, hB4⟩
    obtain ⟨⟨d1, e1, rfl⟩, ⟨d2, e2, rfl⟩, ⟨d3, e3, rfl⟩⟩ := hP4.formsN HS0.out.ol HS0.out.pl HS0.out.cl
    have HL2 := HX0.out.lt
    have HZ3 := Lib.hid HB3.out.size
    have HZ2 := Lib.hid HB12.out.size
    have HLW : Hid (w.heap.size < w2.heap.size) := by show _ < _; have := HZ2.out; omega
    have hI0 : BInv w2 w.heap.size w4.heap.size (triv os) (w4.alloc (.cells #[.slice d1 n e1, .slice d2 n e2, .slice d3 n e3] 26)) :=
      BInv.mk2 (w := w2) (HX3.out.below hB4 HX3.out.lt) hP4 (fun k hk => by have h1 := hk.1; have := HZ3.out; have := HLW.out; exact ⟨by omega, by omega⟩) (below_size HB3.out hB4)
    have HI0 := Lib.hid hI0
    clear hI0 hP4 hB4
    go_upto_region 16 with fail
    generalize w4.alloc (.cells #[.slice d1 n e1, .slice d2 n e2, .slice d3 n e3] 26) = w5 at *
    generalize w4.heap.size = b4 at *
    go_cut [4, 62, 63, 64] (fun _ a b c wx => ∃ a' q', a = .slice a' m q' ∧ b = .int .i64 m ∧ c = .int .i64 0 ∧ (∀ j, j < m → a' = some ⟨g, 1, none⟩) ∧ wx = w5)
    case first =>
      have HM1 : Hid (sc = 1 → m = 0) := fun h => by omega
      clear hsc
      go_wp2_with fail
      · go_meet
        exact ⟨_, _, rfl, rfl, rfl, fun j hj => by have := HM1.out ‹_›; omega, rfl⟩
      · go_meet
        exact ⟨_, _, rfl, rfl, rfl, fun j hj => rfl, rfl⟩
    case rest =>
      obtain ⟨a', q', rfl, rfl, rfl, hag, rfl⟩ := hcut
      have HAG := Lib.hid hag
      have HSZ : Hid (s.size ≤ 2000000) := hs
      have HM := Lib.hid hm
      have hmb : m ≤ 4000000 := by
        have h1 := split_len s.data.toList [59, 32]
        rw [← strs_lenS HSS.out, data_len] at h1
        omega
      clear hag hs hm hx0 h0 hsc
      go_wp2_with fail
      go_loopw [64] (fun i wr => ∃ (j : Nat) (P : Pres), j ≤ m ∧ i = .int .i64 j ∧ BInv w2 w.heap.size b4 P wr ∧ Hid (Shp n P) ∧ Hid (∀ q, ValidP q → ptx q = s.data.toList → P = setA (triv q.orders) ((rlns q).take j))) (fun i _ => m - (intOf i).toNat)
      case atStart => exact ⟨0, _, Nat.zero_le _, rfl, HI0.out, HS0, fun q hV ht => by rw [HOS.out q hV ht]; rfl⟩
      case round =>
        clear HI0 HS0
        obtain ⟨j, P, hj, rfl, hI, HSP', HQ⟩ := hrel
        obtain ⟨p1, o1, p2, c2, p3, c3, hBO⟩ := hI.open HSP'.out.pl HSP'.out.cl
        have HBO := Lib.hid hBO
        have HW := Lib.hid hBO.be
        by_cases hlt : j < m
        · obtain rfl := HAG.out j hlt
          have hjs : j + 1 < ss.length := by have := HM.out; omega
          obtain ⟨x, hx⟩ : ∃ x, ss[j + 1] = x := ⟨_, rfl⟩
          obtain ⟨_, _, hcl⟩ := HLL.out.cut1 HM.out
          have hc := (hcl j hlt).2
          rw [hx] at hc
          have hc' := below_cells HW.out _ _ hc
          have hxs : x.size ≤ 4000000 := by
            have := part_le HSS.out (x := x) (by rw [← hx]; exact List.getElem_mem hjs)
            rw [data_len] at this
            have := HSZ.out
            omega
          have HPQ : Hid (∀ q, ValidP q → ptx q = s.data.toList → ∃ r, x.data.toList = rlnT q r ∧ GdR q r ∧ (rlns q).take (j + 1) = (rlns q).take j ++ [r]) := fun q hV ht => by
            rw [← hx]; exact part_at HSS.out hV ht hjs
          have HCX := Lib.hid (HC2.out.below HW.out)
          have HF1 := Lib.hid (f_Cut HCX.out x ⟨#[61]⟩ hxs)
          clear hx hc hcl hjs hI hBO
          go_wp2_with fail
          refine HF1.out.mono ?_
          rintro e w6 ⟨left, right, f1, rfl, hq1, hB6⟩
          obtain ⟨hls, hrs⟩ := cut_size hq1
          have HQ1 := Lib.hid hq1
          have HF2 := Lib.hid (f_Cut (HCX.out.below hB6) left ⟨#[94]⟩ (by omega))
          have HB6 := Lib.hid hB6
          clear hB6 hc' hq1 hls
          go_wp2_with fail
          refine HF2.out.mono ?_
          rintro e w7 ⟨base, by', f2, rfl, hq2, hB7⟩
          have HQ2 := Lib.hid hq2
          have HB7 := Lib.hid (below_size HB6.out hB7)
          have HEX : Hid (∀ wx, Calls Tryz.prog 44 #[.int .i64 n, .string right] wx (RetIntsB wx (vpL n (rdL n right)) (pB (rdL n right) && rdOk n right))) := fun wx => i_exponentsOf n right wx h6 (by omega)
          have HRL : Hid (∀ q, ValidP q → ptx q = s.data.toList → ∃ r, GdR q r ∧ (rlns q).take (j + 1) = (rlns q).take j ++ [r] ∧ (pB (rdL n right) && rdOk n right) = true ∧ vpL n (rdL n right) = r.2.2 ∧ (gnI n base = (r.1 : Int) ∧ gnB n base = true) ∧ (r.2.1 = none → gnB n by' = false) ∧ (∀ i, r.2.1 = some i → gnB n by' = true ∧ gnI n by' = (i : Int))) := fun q hV ht => by
            obtain ⟨r, e1, e2, e3⟩ := HPQ.out q hV ht
            obtain ⟨⟨k1, k2, k3⟩, k4, k5, k6⟩ := rel_prog hV e2 e1 HQ1.out HQ2.out
            rw [HNQ.out q hV ht] at k1 k2 k3 k4 k5 k6
            exact ⟨r, e2, e3, by rw [k2, k1]; rfl, k3, k4, k5, k6⟩
          generalize vpL n (rdL n right) = V at *
          generalize (pB (rdL n right) && rdOk n right) = ob at *
          clear hB7 hq2 hrs HF1 HF2
          go_wp2_with fail
          refine (HEX.out _).mono ?_
          rintro e w8 ⟨v, rfl, hI8, hB8⟩
          have HB8 := Lib.hid (below_size HB7.out hB8)
          have HI8 := Lib.hid (hI8.mono (show _ ≤ w7.heap.size from HB7.out.size))
          obtain ⟨av, nv, cv, rfl⟩ : ∃ av nv cv, v = .slice av nv cv := by obtain ⟨a, c, e, _⟩ := hI8.form; exact ⟨a, _, c, e⟩
          clear hI8 hB8
          go_wp2_with fail
          refine (i_generatorOf n base _ h6).mono ?_
          rintro e w9 ⟨rfl, rfl⟩
          by_cases hob : ob = true
          case neg =>
            obtain rfl : ob = false := by simpa using hob
            have HNO : Hid (NoP s.data.toList) := fun q hV ht => by
              obtain ⟨r, _, _, e, _⟩ := HRL.out q hV ht
              exact Bool.false_ne_true e
            have x5 := HBO.out.x2.below HB8.out HBO.out.x2.lt
            have m0 := x5.c0
            have m1 := x5.c1
            have m2 := x5.c2
            have f0 := x5.fr 0
            have f1 := x5.fr 1
            have f2 := x5.fr 2
            have l5 := x5.lt
            have HBE := Lib.hid (below_size HW2.out (below_size HW.out HB8.out))
            go_wp2_with fail
            refine bodyPost_ret (v := .tuple #[.agg #[.slice none 0 0, .slice none 0 0, .slice none 0 0], .bool false]) (by simp [results, Tryz.results15, go_sem, m0, m1, m2]) rfl ⟨?_, .inr ⟨rfl, HNO.out⟩⟩
            exact ((HBE.out.setCell (p := ⟨w.heap.size, 0, none⟩) (Nat.le_refl _) _).setCell (p := ⟨w.heap.size, 1, none⟩) (Nat.le_refl _) _).setCell (p := ⟨w.heap.size, 2, none⟩) (Nat.le_refl _) _
          subst hob
          by_cases hkb : gnB n base = true
          case neg =>
            have hkb' : gnB n base = false := by simpa using hkb
            have HNO : Hid (NoP s.data.toList) := fun q hV ht => by
              obtain ⟨r, _, _, _, _, ⟨_, e⟩, _⟩ := HRL.out q hV ht
              exact hkb e
            rw [hkb']
            clear hkb hkb'
            have x5 := HBO.out.x2.below HB8.out HBO.out.x2.lt
            have m0 := x5.c0
            have m1 := x5.c1
            have m2 := x5.c2
            have f0 := x5.fr 0
            have f1 := x5.fr 1
            have f2 := x5.fr 2
            have l5 := x5.lt
            have HBE := Lib.hid (below_size HW2.out (below_size HW.out HB8.out))
            go_wp2_with fail
            refine bodyPost_ret (v := .tuple #[.agg #[.slice none 0 0, .slice none 0 0, .slice none 0 0], .bool false]) (by simp [results, Tryz.results15, go_sem, m0, m1, m2]) rfl ⟨?_, .inr ⟨rfl, HNO.out⟩⟩
            exact ((HBE.out.setCell (p := ⟨w.heap.size, 0, none⟩) (Nat.le_refl _) _).setCell (p := ⟨w.heap.size, 1, none⟩) (Nat.le_refl _) _).setCell (p := ⟨w.heap.size, 2, none⟩) (Nat.le_refl _) _
          obtain ⟨X, hX, eX⟩ := gn_nat hkb
          rw [eX, hkb]
          have HEX1 := Lib.hid eX
          clear hkb eX
          go_wp2_with fail
          refine (i_generatorOf n by' _ h6).mono ?_
          rintro e w10 ⟨rfl, rfl⟩
          have l4 := Nat.lt_of_lt_of_le HBO.out.x4.lt HB8.out.size
          by_cases hbb : gnB n by' = true
          case neg =>
            have hbb' : gnB n by' = false := by simpa using hbb
            have HNX : Hid (∀ q, ValidP q → ptx q = s.data.toList → stP P X V = setA (triv q.orders) ((rlns q).take (j + 1))) := fun q hV ht => by
              obtain ⟨r, e1, e2, e3, e4, ⟨e5, _⟩, e6, e7⟩ := HRL.out q hV ht
              obtain ⟨rj, ro, rv⟩ := r
              rw [e2, setA_snoc, ← HQ.out q hV ht]
              have hj : rj = X := by have h := HEX1.out; have h5 : gnI n base = (rj : Int) := e5; omega
              subst hj
              cases ro with
              | none => rw [e4]; rfl
              | some i => exact absurd (e7 i rfl).1 hbb
            obtain ⟨gp, rfl, hset⟩ := HBO.out.set_pow hX
            obtain ⟨k1, ⟨rx, k2⟩, k3, hs3⟩ := hset _ HB8.out
            have HFIN := Lib.hid (hs3 _ _ HI8.out)
            rw [hbb']
            clear hbb hbb' hset hs3
            go_wp2_with fail
            go_roundw
            case rel => exact ⟨j + 1, _, by omega, by go_num, HFIN.out, HSP'.out.stP X V, HNX⟩
            case measure => simp [intOf]; omega
          obtain ⟨Y, hY, eY⟩ := gn_nat hbb
          have HEY := Lib.hid eY
          have HBB := Lib.hid hbb
          rw [eY, hbb]
          clear hbb eY
          by_cases hYX : Y < X
          case neg =>
            have HNX : Hid (∀ q, ValidP q → ptx q = s.data.toList → P = setA (triv q.orders) ((rlns q).take (j + 1))) := fun q hV ht => by
              exfalso
              obtain ⟨r, e1, e2, e3, e4, ⟨e5, _⟩, e6, e7⟩ := HRL.out q hV ht
              obtain ⟨rj, ro, rv⟩ := r
              have hj : rj = X := by have h := HEX1.out; have h5 : gnI n base = (rj : Int) := e5; omega
              cases ro with
              | none => have := e6 rfl; rw [HBB.out] at this; cases this
              | some i => have h1 := e1.i i rfl; have h2 := (e7 i rfl).2; have h3 := HEY.out; have h4 : i < rj := h1; omega
            have hYI : ¬ (Y : Int) < (X : Int) := by omega
            have HFIN : Hid (BInv w2 w.heap.size b4 P w10) := ⟨_, _, _, HBO.out.x2.below HB8.out HBO.out.x2.lt, HBO.out.x4.below HB8.out HBO.out.x4.lt, (HBO.out.below HB8.out).op, (HBO.out.below HB8.out).be⟩
            go_wp2_with fail
            go_roundw
            case rel => exact ⟨j + 1, _, by omega, by go_num, HFIN.out, HSP', HNX⟩
            case measure => simp [intOf]; omega
          have HNX : Hid (∀ q, ValidP q → ptx q = s.data.toList → stC P Y (X - Y - 1) V = setA (triv q.orders) ((rlns q).take (j + 1))) := fun q hV ht => by
            obtain ⟨r, e1, e2, e3, e4, ⟨e5, _⟩, e6, e7⟩ := HRL.out q hV ht
            obtain ⟨rj, ro, rv⟩ := r
            rw [e2, setA_snoc, ← HQ.out q hV ht]
            have hj : rj = X := by have h := HEX1.out; have h5 : gnI n base = (rj : Int) := e5; omega
            subst hj
            cases ro with
            | none => have := e6 rfl; rw [HBB.out] at this; cases this
            | some i =>
              have hi : i = Y := by have h := HEY.out; have h5 := (e7 i rfl).2; omega
              subst hi
              rw [e4]; rfl
          obtain ⟨gc, g2, cap2, rfl, hset⟩ := HBO.out.set_conj (i := Y) (j := X - Y - 1) (m := n - 1 - Y) hY (HSP'.out.row Y hY) (by omega)
          obtain ⟨k1, k2, ⟨rx, k3⟩, k4, hs3⟩ := hset _ HB8.out
          have HFIN := Lib.hid (hs3 _ _ HI8.out)
          obtain ⟨Z, hZ⟩ : ∃ Z, X - Y - 1 = Z := ⟨_, rfl⟩
          rw [hZ] at k3 k4 HFIN HNX
          have hYI : (Y : Int) < (X : Int) := by omega
          have W1 : IntKind.i64.wrap ((X : Int) - (Y : Int) - 1) = (Z : Int) := by rw [IntWalk.i64_in _ (by omega)]; omega
          have W2 : (X : Int) - (Y : Int) - 1 = (Z : Int) := by omega
          have hZn : Z < n - 1 - Y := by omega
          clear hset hs3 hZ
          go_wp2_with fail
          go_roundw
          case rel => exact ⟨j + 1, _, by omega, by go_num, HFIN.out, HSP'.out.stC Y Z V, HNX⟩
          case measure => simp [intOf]; omega
        · obtain rfl : j = m := by omega
          have HALL : Hid (∀ q, ValidP q → ptx q = s.data.toList → q = P) := valid_ps (os := os) HM.out HSS.out HQ.out
          have m0 := hBO.x4.c0
          have m1 := hBO.x4.c1
          have m2 := hBO.x4.c2
          rw [HSP'.out.ol] at m0
          have HR := hBO.op.rd
          rw [HSP'.out.ol] at HR
          have HRd := Lib.hid HR
          clear HR hI hBO hj hlt
          go_wp2_with fail
          refine (i_IsPresentation _ _ _ P _ HRd.out).mono ?_
          rintro e w6 ⟨rfl, hB6⟩
          have HBO6 := Lib.hid (HBO.out.below hB6)
          clear hB6 m0 m1 m2
          by_cases hv : validB P = true
          case neg =>
            have hv' : validB P = false := by simpa using hv
            have HNO : Hid (NoP s.data.toList) := fun q hV ht => by
              have e := HALL.out q hV ht
              rw [e] at hV
              exact hv (validB_true.2 hV)
            rw [hv']
            clear hv hv'
            have x5 := HBO6.out.x2
            have m0 := x5.c0
            have m1 := x5.c1
            have m2 := x5.c2
            have f0 := x5.fr 0
            have f1 := x5.fr 1
            have f2 := x5.fr 2
            have l5 := x5.lt
            have HBE := Lib.hid (below_size HW2.out HBO6.out.be)
            go_wp2_with fail
            refine bodyPost_ret (v := .tuple #[.agg #[.slice none 0 0, .slice none 0 0, .slice none 0 0], .bool false]) (by simp [results, Tryz.results15, go_sem, m0, m1, m2]) rfl ⟨?_, .inr ⟨rfl, HNO.out⟩⟩
            exact ((HBE.out.setCell (p := ⟨w.heap.size, 0, none⟩) (Nat.le_refl _) _).setCell (p := ⟨w.heap.size, 1, none⟩) (Nat.le_refl _) _).setCell (p := ⟨w.heap.size, 2, none⟩) (Nat.le_refl _) _
          have HV := Lib.hid (validB_true.1 hv)
          rw [hv]
          clear hv
          have HPT := Lib.hid (HBO6.out.x4.ptr HBO6.out.op.rd)
          go_wp2_with fail
          refine (i_presentationText HV.out _ _ HPT.out).mono ?_
          rintro e w7 ⟨s2, rfl, hs2, hB7⟩
          have HBO7 := Lib.hid (HBO6.out.below hB7)
          have HS2 := Lib.hid hs2
          clear hs2 hB7
          have x5 := HBO7.out.x2
          have m0 := x5.c0
          have m1 := x5.c1
          have m2 := x5.c2
          have f0 := x5.fr 0
          have f1 := x5.fr 1
          have f2 := x5.fr 2
          have l5 := x5.lt
          by_cases hss : s2.data.toList = s.data.toList
          · have hst : (s2.toList == s.toList) = true := by rw [ByteArray.toList_eq, ByteArray.toList_eq, hss]; exact beq_self_eq_true _
            have hse : s2 = s := ba_ext hss
            have HPP : Hid (ParP s.data.toList P) := ⟨HV.out, by rw [← HS2.out, hss], HALL.out⟩
            have n0 := HBO7.out.x4.c0
            have n1 := HBO7.out.x4.c1
            have n2 := HBO7.out.x4.c2
            rw [HSP'.out.ol] at n0
            have HOUT := Lib.hid (HBO7.out.outD HW2.out (Nat.le_refl _) HSP'.out.ol)
            go_wp2_with fail
            refine bodyPost_ret (v := .tuple #[.agg #[.slice p1 n o1, .slice p2 n c2, .slice p3 n c3], .bool true]) (by simp [results, Tryz.results15, go_sem, m0, m1, m2]) rfl ⟨HOUT.out.2, .inl ⟨_, _, _, _, rfl, HOUT.out.1, HPP.out⟩⟩
          · have hst : (s2.toList == s.toList) = false := by rw [ByteArray.toList_eq, ByteArray.toList_eq]; simpa using hss
            have hse : ¬ s2 = s := fun e => hss (by rw [e])
            have HNO : Hid (NoP s.data.toList) := fun q hV ht => by
              have e := HALL.out q hV ht
              rw [e] at ht
              exact hss (HS2.out.trans ht)
            have HBE := Lib.hid (below_size HW2.out HBO7.out.be)
            go_wp2_with fail
            refine bodyPost_ret (v := .tuple #[.agg #[.slice none 0 0, .slice none 0 0, .slice none 0 0], .bool false]) (by simp [results, Tryz.results15, go_sem, m0, m1, m2]) rfl ⟨?_, .inr ⟨rfl, HNO.out⟩⟩
            exact ((HBE.out.setCell (p := ⟨w.heap.size, 0, none⟩) (Nat.le_refl _) _).setCell (p := ⟨w.heap.size, 1, none⟩) (Nat.le_refl _) _).setCell (p := ⟨w.heap.size, 2, none⟩) (Nat.le_refl _) _
--== end
end Go.Proofs.YtgcmhkihonadmaaGreatDoor
