/-
  ParsePresentation: the two exported functions.
-/
import Derived.Test.YtgcmhkihonadmaaGreatDoorPhe
import Derived.Test.YtgcmhkihonadmaaGreatDoorPhg
namespace Go.Proofs.YtgcmhkihonadmaaGreatDoor
set_option linter.unusedVariables false
set_option linter.unusedSimpArgs false
set_option maxRecDepth 100000
open Go.RowKit Go.PlainAid
attribute [local go_sem ↓] Go.wp_at_zero Go.wp_at_succ

--== plain
open Classical in
/-- the presentation that a text is, or the empty one -/
noncomputable def parX (t : Txt) : Pres := if h : ∃ p, ParP t p then h.choose else noP
open Classical in
noncomputable def parC (t : Txt) : Int := if ∃ p, ParP t p then 0 else 6
theorem par_yes {t : Txt} {p : Pres} (h : ParP t p) : parX t = p ∧ parC t = 0 := by
  have he : ∃ p, ParP t p := ⟨p, h⟩
  have hc := he.choose_spec
  refine ⟨?_, if_pos he⟩
  unfold parX
  rw [dif_pos he]
  exact h.2.2 _ hc.1 hc.2.1
theorem par_no {t : Txt} (h : NoP t) : parX t = noP ∧ parC t = 6 := by
  have he : ¬ ∃ p, ParP t p := fun ⟨p, hp⟩ => h p hp.1 hp.2.1
  exact ⟨dif_neg he, if_neg he⟩
theorem parX_ok (t : Txt) : parX t = okP (parC t) (parX t) := by
  by_cases he : ∃ p, ParP t p
  · obtain ⟨p, hp⟩ := he
    rw [(par_yes hp).2, okP_zero]
  · have h6 : parC t = 6 := if_neg he
    rw [h6, okP_ne _ (by omega)]
    exact dif_neg he
theorem len_ParsePresentation (t : Txt) : psize (parX t) ≤ 1000000000 := by
  by_cases he : ∃ p, ParP t p
  · obtain ⟨p, hp⟩ := he
    rw [(par_yes hp).1]; exact valid_size hp.1
  · have h6 : parX t = noP := dif_neg he
    rw [h6]; exact psize_bd (by simp [noP]) (by simp [noP]) (by simp [noP]) (fun x hx => by simp [noP] at hx) (fun y hy => by simp [noP] at hy)
theorem splG_len (b : UInt8) : ∀ (t : Txt) (d : List Txt) (c : Txt), d.length < (splG b d c t).length ∧ (splG b d c t).length ≤ d.length + t.length + 1 := by
  intro t
  induction t with
  | nil => intro d c; simp [splG]
  | cons y t ih =>
    intro d c
    rw [splG, List.length_cons]
    split
    · have := ih (d ++ [c]) []
      rw [List.length_append, List.length_singleton] at this
      omega
    · have := ih d (c ++ [y])
      omega
theorem spl_len (b : UInt8) (t : Txt) : 0 < (spl b t).length ∧ (spl b t).length ≤ t.length + 1 := by
  have := splG_len b t [] []
  unfold spl
  rw [List.length_nil] at this
  omega
theorem part0S {ss : List ByteArray} {t : Txt} (h : ss.map (·.data.toList) = spl 59 t) (h0 : 0 < ss.length) {q : Pres} (hV : ValidP q) (ht : ptx q = t) : (ss[0]).data.toList = ordT q := by
  rw [← ht, spl_ptx hV] at h
  cases ss with
  | nil => simp at h0
  | cons a r => exact (List.cons.inj h).1
theorem part_atS {ss : List ByteArray} {t : Txt} (h : ss.map (·.data.toList) = spl 59 t) {q : Pres} (hV : ValidP q) (ht : ptx q = t) {j : Nat} (hj : j + 1 < ss.length) : ∃ r, (ss[j + 1]).data.toList = 32 :: rlnT q r ∧ GdR q r ∧ (rlns q).take (j + 1) = (rlns q).take j ++ [r] := by
  rw [← ht, spl_ptx hV] at h
  have e : (ss.map (·.data.toList))[j + 1]? = ((rlns q).map fun r => 32 :: rlnT q r)[j]? := by rw [h]; rfl
  have hl := congrArg List.length h
  simp only [List.length_map, List.length_cons] at hl
  have hj' : j < (rlns q).length := by omega
  rw [List.getElem?_map, List.getElem?_eq_getElem hj, List.getElem?_map, List.getElem?_eq_getElem hj'] at e
  exact ⟨(rlns q)[j], Option.some.inj e, gd_rlns hV (List.getElem_mem hj'), by rw [List.take_add_one, List.getElem?_eq_getElem hj']; rfl⟩
theorem valid_psS {P : Pres} {t : Txt} {ss : List ByteArray} {m : Nat} (hm : ss.length = m + 1) (h : ss.map (·.data.toList) = spl 59 t) (hQ : ∀ q, ValidP q → ptx q = t → P = setA (triv q.orders) ((rlns q).take m)) : ∀ q, ValidP q → ptx q = t → q = P := fun q hV ht => by
  have hq := hQ q hV ht
  rw [← ht, spl_ptx hV] at h
  have hl := congrArg List.length h
  simp only [List.length_map, List.length_cons] at hl
  rw [hq, List.take_of_length_le (by omega), setA_all hV]
theorem part_leS {ss : List ByteArray} {t : Txt} {b : UInt8} (h : ss.map (·.data.toList) = spl b t) {x : ByteArray} (hx : x ∈ ss) : x.size ≤ t.length := by
  have h1 : x.data.toList ∈ spl b t := by rw [← h]; exact List.mem_map_of_mem hx
  have := spl_le h1
  rw [data_len] at this
  exact this
/-- what the reader of a relation answers, its slices open -/
theorem RelR.open {w w' : World} {n : Nat} {p : Pres} {t : Txt} {a1 a2 a3 : Option Addr} {c1 c2 c3 : Nat} {e : Ending} (h : RelR w n p t (.slice a1 n c1) (.slice a2 n c2) (.slice a3 n c3) e w') (hW : WS n p) :
    ∃ b1 d1 b2 d2 b3 d3 ok, e = .returned (.tuple #[.agg #[.slice b1 n d1, .slice b2 n d2, .slice b3 n d3], .bool ok]) ∧ Below w.heap.size w w' ∧
      ((ok = false ∧ NoR p t) ∨ (ok = true ∧ ∃ r, OP w' (win w.heap.size w'.heap.size) (.slice b1 n d1) (.slice b2 n d2) (.slice b3 n d3) (setR p r) ∧ InR n r ∧ ∀ q r', ValidP q → q.orders = p.orders → GdR q r' → t = 32 :: rlnT q r' → r' = r)) := by
  obtain ⟨hB, ⟨rfl, hN⟩ | ⟨u1, u2, u3, r, rfl, hO, hR, hU⟩⟩ := h
  · exact ⟨_, _, _, _, _, _, _, rfl, hB, .inl ⟨rfl, hN⟩⟩
  · have hW2 := ws_set hW hR
    obtain ⟨⟨b1, d1, rfl⟩, ⟨b2, d2, rfl⟩, ⟨b3, d3, rfl⟩⟩ := hO.formsN hW2.on hW2.pl hW2.cl
    exact ⟨_, _, _, _, _, _, _, rfl, hB, .inr ⟨rfl, r, hO, hR, hU⟩⟩
--== impl.ParsePresentation
set_option maxHeartbeats 2000000 in
theorem i_ParsePresentation (s : ByteArray) (w : World) (hC : Cel w) (hs : s.size ≤ 2000000) :
    Calls Tryz.prog 5 #[.string s] w (RetP2 w (parX s.data.toList) (parC s.data.toList)) := by
  have g0 := below_alloc w (Obj.cells #[Value.slice none 0 0, Value.slice none 0 0, Value.slice none 0 0] 26)
  have HX0 := Lib.hid (Bx.new w (Value.slice none 0 0) (Value.slice none 0 0) (Value.slice none 0 0))
  have HC1 := Lib.hid (hC.below g0)
  have HG0 := Lib.hid g0
  clear hC g0
  go_enter Tryz.func5, Tryz.ntmps5
  go_wp2_with fail
  generalize w.alloc (Obj.cells #[Value.slice none 0 0, Value.slice none 0 0, Value.slice none 0 0] 26) = w1 at *
  refine (i_readPresentation s _ HC1.out hs).mono ?_
  rintro e w2 ⟨hB2, ⟨v1, v2, v3, p, rfl, hP, hPP⟩ | ⟨rfl, hN⟩⟩
  · have HE := Lib.hid (par_yes hPP)
    obtain ⟨⟨a1, c1, rfl⟩, ⟨a2, c2, rfl⟩, ⟨a3, c3, rfl⟩⟩ := hP.formsN (n1 := p.orders.length) (n2 := p.powers.length) (n3 := p.conj.length) rfl rfl rfl
    have hB3 := below_alloc w2 (Obj.cells #[Value.slice a1 p.orders.length c1, Value.slice a2 p.powers.length c2, Value.slice a3 p.conj.length c3] 26)
    have x5 := (HX0.out.below hB2 HX0.out.lt).below hB3 (HX0.out.below hB2 HX0.out.lt).lt
    have hl1 := HX0.out.lt
    have hP3 := OP.below hP hB3
    have hO := Lib.hid (op_out (b := w.heap.size) hP3 (fun k hk => ⟨by have := hk.1; omega, by have := hk.1; omega⟩) (below_size (below_size HG0.out hB2) hB3) (Nat.le_refl _))
    have m0 := x5.c0
    have m1 := x5.c1
    have m2 := x5.c2
    have f0 := x5.fr 0
    have f1 := x5.fr 1
    have f2 := x5.fr 2
    have l5 := x5.lt
    clear hP hB2 hP3 hB3
    go_wp2_with fail
    refine bodyPost_ret (v := .tuple #[.agg #[.slice a1 p.orders.length c1, .slice a2 p.powers.length c2, .slice a3 p.conj.length c3], .int .i64 0]) (by simp [results, Tryz.results5, go_sem, m0, m1, m2]) rfl ⟨_, _, _, by rw [HE.out.2], by rw [HE.out.1]; exact hO.out.1, hO.out.2⟩
  · have HE := Lib.hid (par_no hN)
    have hB3 := below_alloc w2 (Obj.cells #[Value.slice none 0 0, Value.slice none 0 0, Value.slice none 0 0] 26)
    have x5 := (HX0.out.below hB2 HX0.out.lt).below hB3 (HX0.out.below hB2 HX0.out.lt).lt
    have hO := Lib.hid (op_out (b := w.heap.size) (OP.none _ (fun _ => False)) (fun k hk => hk.elim) (below_size (below_size HG0.out hB2) hB3) (Nat.le_refl _))
    have m0 := x5.c0
    have m1 := x5.c1
    have m2 := x5.c2
    have f0 := x5.fr 0
    have f1 := x5.fr 1
    have f2 := x5.fr 2
    have l5 := x5.lt
    clear hB2 hB3
    go_wp2_with fail
    refine bodyPost_ret (v := .tuple #[.agg #[.slice none 0 0, .slice none 0 0, .slice none 0 0], .int .i64 6]) (by simp [results, Tryz.results5, go_sem, m0, m1, m2]) rfl ⟨_, _, _, by rw [HE.out.2], by rw [HE.out.1]; exact hO.out.1, hO.out.2⟩
--== spec.ParsePresentation
set_option maxHeartbeats 4000000 in
theorem s_ParsePresentation (s : ByteArray) (w : World) (hs : s.size ≤ 2000000) :
    Calls Tryz.prog 4 #[.string s] w (RetP2 w (parX s.data.toList) (parC s.data.toList)) := by
  have g0 := below_alloc w (Obj.cells #[Value.slice none 0 0, Value.slice none 0 0, Value.slice none 0 0] 26)
  have HX0 := Lib.hid (Bx.new w (Value.slice none 0 0) (Value.slice none 0 0) (Value.slice none 0 0))
  have HSP : Hid (∀ wx, Calls Tryz.prog 9 #[.string s, .int .u8 59] wx (RetStrs wx (spl 59 s.data.toList))) := fun wx => s_l01Split s 59 wx (by omega)
  have HG0 := Lib.hid g0
  have HNOP : Hid (NoP s.data.toList → ∀ wx, Below w.heap.size w wx → RetP2 w (parX s.data.toList) (parC s.data.toList) (.returned (.tuple #[.agg #[.slice none 0 0, .slice none 0 0, .slice none 0 0], .int .i64 6])) (((wx.setCell ⟨w.heap.size, 0, none⟩ (.slice none 0 0)).setCell ⟨w.heap.size, 1, none⟩ (.slice none 0 0)).setCell ⟨w.heap.size, 2, none⟩ (.slice none 0 0))) := fun hN wx hB => by
    obtain ⟨e1, e2⟩ := par_no hN
    have hO := op_out (b := w.heap.size) (OP.none wx (fun _ => False)) (fun k hk => hk.elim) hB (Nat.le_refl _)
    exact ⟨_, _, _, by rw [e2], by rw [e1]; exact hO.1, hO.2⟩
  clear g0
  go_enter Tryz.func4, Tryz.ntmps4
  go_wp2_with fail
  generalize w.alloc (Obj.cells #[Value.slice none 0 0, Value.slice none 0 0, Value.slice none 0 0] 26) = w1 at *
  refine (HSP.out _).mono ?_
  rintro e w2 ⟨sv, ss, rfl, hSS, hss, hB2⟩
  obtain ⟨m, hm⟩ : ∃ m, ss.length = m + 1 := ⟨ss.length - 1, by have := (spl_len 59 s.data.toList).1; rw [← strs_lenS hss] at this; omega⟩
  have hmb : m ≤ 2000000 := by have := (spl_len 59 s.data.toList).2; rw [← strs_lenS hss, data_len] at this; omega
  obtain ⟨sa, sc, rfl, hsc⟩ := hSS.formN hm
  obtain ⟨g, rfl, hgl, hgw, hc0⟩ := hSS.at (j := 0) (s := ss[0]) (by simp)
  obtain ⟨x0, hx0⟩ : ∃ x, ss[0] = x := ⟨_, rfl⟩
  rw [hx0] at hc0
  have hx0s : x0.size ≤ 2000000 := by
    have := part_leS hss (x := x0) (by rw [← hx0]; exact List.getElem_mem (by omega))
    rw [data_len] at this
    omega
  have HX0T : Hid (∀ q, ValidP q → ptx q = s.data.toList → x0.data.toList = ordT q) := fun q hV ht => by
    rw [← hx0]; exact part0S hss (by omega) hV ht
  have HSS := Lib.hid hss
  have HW2 := Lib.hid (below_size HG0.out hB2)
  have HX2 := Lib.hid (HX0.out.below hB2 HX0.out.lt)
  have HLL := Lib.hid hSS
  have HM := Lib.hid hm
  have HS := Lib.hid hs
  clear hss hB2 hSS hx0 hm hsc hs
  go_wp2_with fail
  refine (s_l07Orders x0 _ hx0s).mono ?_
  rintro e w3 ⟨v, os, ok, rfl, hI3, hB3, hok, hQ⟩
  obtain ⟨n, hn⟩ : ∃ n, os.length = n := ⟨_, rfl⟩
  obtain ⟨oa, oc, rfl, _, _⟩ := hI3.rd.formN hn
  have HI3 := Lib.hid hI3.rd
  have HW3 := Lib.hid (below_size HW2.out hB3)
  have HB3 := Lib.hid hB3
  have HX3 := Lib.hid (HX2.out.below hB3 HX2.out.lt)
  have HQ := Lib.hid hQ
  have HN := Lib.hid hn
  clear hc0 hI3 hB3 hQ hn
  by_cases hokt : ok = true
  case neg =>
    obtain rfl : ok = false := by simpa using hokt
    have HNO : Hid (NoP s.data.toList) := fun q hV ht => Bool.false_ne_true (HQ.out q hV (HX0T.out q hV ht)).1
    have m0 := HX3.out.c0
    have m1 := HX3.out.c1
    have m2 := HX3.out.c2
    have f0 := HX3.out.fr 0
    have f1 := HX3.out.fr 1
    have f2 := HX3.out.fr 2
    have l3 := HX3.out.lt
    clear hok hokt
    go_wp2_with fail
    exact bodyPost_ret (v := .tuple #[.agg #[.slice none 0 0, .slice none 0 0, .slice none 0 0], .int .i64 6]) (by simp [results, Tryz.results4, go_sem, m0, m1, m2]) rfl (HNOP.out HNO.out _ HW3.out)
  subst hokt
  obtain ⟨h6, hpr⟩ := hok rfl
  have h6n : n ≤ 6 := by rw [← HN.out]; exact h6
  have HOS : Hid (∀ q, ValidP q → ptx q = s.data.toList → os = q.orders) := fun q hV ht => (HQ.out q hV (HX0T.out q hV ht)).2
  have HWS0 : Hid (WS n (triv os)) := by have := ws_triv hpr; rw [HN.out] at this; exact this
  clear hok h6 hpr
  go_wp2_with fail
  refine (s_l07Trivial _ os _ HI3.out (by rw [HN.out]; omega)).mono ?_
  rintro e w4 ⟨v1, v2, v3, rfl, hP4, hB4⟩
  obtain ⟨⟨d1, e1, rfl⟩, ⟨d2, e2, rfl⟩, ⟨d3, e3, rfl⟩⟩ := hP4.formsN HWS0.out.on HWS0.out.pl HWS0.out.cl
  have HLW : Hid (w.heap.size < w2.heap.size) := HX2.out.lt
  have HZ3 := Lib.hid HB3.out.size
  have hI0 : BInv w2 w.heap.size w4.heap.size (triv os) (w4.alloc (.cells #[.slice d1 n e1, .slice d2 n e2, .slice d3 n e3] 26)) :=
    BInv.mk2 (w := w2) (HX3.out.below hB4 HX3.out.lt) hP4 (fun k hk => by have h1 := hk.1; have := HZ3.out; have := HLW.out; exact ⟨by omega, by omega⟩) (below_size HB3.out hB4)
  have HI0 := Lib.hid hI0
  have HL4 : Hid (w2.heap.size ≤ w4.heap.size ∧ w.heap.size < w4.heap.size) := by have h1 := HB3.out.size; have h2 := hB4.size; have h3 := HLW.out; exact ⟨by omega, by omega⟩
  clear hI0 hP4 hB4
  go_wp2_with fail
  generalize w4.alloc (.cells #[.slice d1 n e1, .slice d2 n e2, .slice d3 n e3] 26) = w5 at *
  generalize w4.heap.size = b4 at *
  go_loopw [8] (fun i wr => ∃ (j : Nat) (P : Pres), j ≤ m ∧ i = .int .i64 ((j : Int) + 1) ∧ BInv w2 w.heap.size b4 P wr ∧ Hid (WS n P) ∧ Hid (P.orders = os) ∧ Hid (∀ q, ValidP q → ptx q = s.data.toList → P = setA (triv q.orders) ((rlns q).take j))) (fun i _ => m + 1 - (intOf i).toNat)
  case atStart => exact ⟨0, _, Nat.zero_le _, rfl, HI0.out, HWS0, rfl, fun q hV ht => by rw [HOS.out q hV ht]; rfl⟩
  case round =>
    clear HI0 HWS0
    obtain ⟨j, P, hj, rfl, hI, HWS, HPO, HPQ⟩ := hrel
    obtain ⟨p1, o1, p2, c2, p3, c3, hBO⟩ := hI.open HWS.out.pl HWS.out.cl
    have HBO := Lib.hid hBO
    have HW := Lib.hid hBO.be
    have m0 := hBO.x4.c0
    have m1 := hBO.x4.c1
    have m2 := hBO.x4.c2
    rw [HWS.out.on] at m0
    have l4 := hBO.x4.lt
    have HR := hBO.op.rd
    rw [HWS.out.on] at HR
    have HRd := Lib.hid HR
    clear HR hI hBO
    by_cases hlt : j < m
    · have hjs : j + 1 < ss.length := by have := HM.out; omega
      obtain ⟨x, hx⟩ : ∃ x, ss[j + 1] = x := ⟨_, rfl⟩
      obtain ⟨g', e, _, _, hc⟩ := HLL.out.at (j := j + 1) (s := ss[j + 1]) (by simp)
      simp only [Option.some.injEq, Addr.mk.injEq] at e
      obtain ⟨rfl, _⟩ := e
      rw [hx] at hc
      have hc' := below_cells HW.out _ _ hc
      have hxs : x.size ≤ 2000000 := by
        have := part_leS HSS.out (x := x) (by rw [← hx]; exact List.getElem_mem hjs)
        rw [data_len] at this
        have := HS.out
        omega
      have HPR : Hid (∀ q, ValidP q → ptx q = s.data.toList → ∃ r, x.data.toList = 32 :: rlnT q r ∧ GdR q r ∧ (rlns q).take (j + 1) = (rlns q).take j ++ [r]) := fun q hV ht => by
        rw [← hx]; exact part_atS HSS.out hV ht hjs
      have HRL := Lib.hid (s_l07Relation HWS.out h6n _ _ _ x wr.drew HRd.out hxs)
      have hg2 := World.block_lt_of_cell? _ _ hc'
      have hltI : (j : Int) + 1 < (m : Int) + 1 := by omega
      have hj0 : (0 : Int) ≤ (j : Int) + 1 := by omega
      clear hx hc hjs
      go_upto_region 9 with fail
      go_cut [6] (fun u wx => ∃ b1 k1 b2 k2 b3 k3 ok w3, u = .bool ok ∧ wx = ((w3.setCell ⟨b4, 0, none⟩ (.slice b1 n k1)).setCell ⟨b4, 1, none⟩ (.slice b2 n k2)).setCell ⟨b4, 2, none⟩ (.slice b3 n k3) ∧ Below wr.heap.size wr w3 ∧
          ((ok = false ∧ NoR P x.data.toList) ∨ (ok = true ∧ ∃ r, OP w3 (win wr.heap.size w3.heap.size) (.slice b1 n k1) (.slice b2 n k2) (.slice b3 n k3) (setR P r) ∧ InR n r ∧ ∀ q r', ValidP q → q.orders = P.orders → GdR q r' → x.data.toList = 32 :: rlnT q r' → r' = r)))
      case first =>
        go_region_law (go_simp; go_at_call 12; go_must (refine HRL.out.mono ?_); rintro e w3 hr; obtain ⟨b1, k1, b2, k2, b3, k3, ok, rfl, hB3, hor⟩ := hr.open HWS.out; have x3 := HBO.out.x4.below (below_size (Below.refl _ _).drew hB3) HBO.out.x4.lt; have n0 := x3.c0; have n1 := x3.c1; have n2 := x3.c2; have f0 := x3.fr 0; have f1 := x3.fr 1; have f2 := x3.fr 2; have l3 := x3.lt)
        all_goals (go_wp2_with fail; go_meet; exact ⟨_, _, _, _, _, _, _, _, rfl, rfl, below_size (Below.refl _ _).drew hB3, hor⟩)
      case rest =>
        obtain ⟨b1, k1, b2, k2, b3, k3, ok, w3, rfl, rfl, hB3, hor⟩ := hcut
        have HX23 := HBO.out.x2.below hB3 HBO.out.x2.lt
        have HX43 := HBO.out.x4.below hB3 HBO.out.x4.lt
        have hB3w := below_size HBO.out.be hB3
        have hne : w.heap.size ≠ b4 := by have := HL4.out.2; omega
        clear m0 m1 m2 hc'
        rcases hor with ⟨rfl, hno⟩ | ⟨rfl, r, hO, hR, hU⟩
        · have HNO : Hid (NoP s.data.toList) := fun q hV ht => by
            obtain ⟨r, h1, h2, _⟩ := HPR.out q hV ht
            exact hno q r hV (by rw [HPO.out, HOS.out q hV ht]) h2 h1
          have x5 := ((HX23.other hne 0 (.slice b1 n k1)).other hne 1 (.slice b2 n k2)).other hne 2 (.slice b3 n k3)
          have HBE := Lib.hid (set3 (below_size HW2.out hB3w) (b := b4) (by have := HL4.out.2; omega) (.slice b1 n k1) (.slice b2 n k2) (.slice b3 n k3))
          have m0 := x5.c0
          have m1 := x5.c1
          have m2 := x5.c2
          have f0 := x5.fr 0
          have f1 := x5.fr 1
          have f2 := x5.fr 2
          have l5 := x5.lt
          clear x5 HX23 HX43 hB3w hno hB3
          generalize ((w3.setCell ⟨b4, 0, none⟩ (.slice b1 n k1)).setCell ⟨b4, 1, none⟩ (.slice b2 n k2)).setCell ⟨b4, 2, none⟩ (.slice b3 n k3) = w9 at *
          go_wp2_with fail
          exact bodyPost_ret (v := .tuple #[.agg #[.slice none 0 0, .slice none 0 0, .slice none 0 0], .int .i64 6]) (by simp [results, Tryz.results4, go_sem, m0, m1, m2]) rfl (HNOP.out HNO.out _ HBE.out)
        · have hwz := HBO.out.be.size
          have HINV := Lib.hid (BInv.mk1 (w := w2) (b2 := w.heap.size) HX23 HX43 hO (fun k hk => by have h1 := hk.1; have h2 := HBO.out.x2.lt; have h3 := HBO.out.x4.lt; exact ⟨by omega, by omega, by omega⟩) hB3w HL4.out.1 hne)
          have HNW : Hid (WS n (setR P r)) := ws_set HWS.out hR
          have HNO : Hid ((setR P r).orders = os) := by
            show (setR P r).orders = os
            rw [← HPO.out]
            obtain ⟨rj, ro, rv⟩ := r
            cases ro <;> rfl
          have HNQ : Hid (∀ q, ValidP q → ptx q = s.data.toList → setR P r = setA (triv q.orders) ((rlns q).take (j + 1))) := fun q hV ht => by
            obtain ⟨r', h1, h2, h3⟩ := HPR.out q hV ht
            have := hU q r' hV (by rw [HPO.out, HOS.out q hV ht]) h2 h1
            subst this
            rw [h3, setA_snoc, ← HPQ.out q hV ht]
          clear HX23 HX43 hB3w hO hR hU hB3 hwz
          generalize ((w3.setCell ⟨b4, 0, none⟩ (.slice b1 n k1)).setCell ⟨b4, 1, none⟩ (.slice b2 n k2)).setCell ⟨b4, 2, none⟩ (.slice b3 n k3) = w9 at *
          go_wp2_with fail
          go_roundw
          case rel => exact ⟨j + 1, _, by omega, by go_num, HINV.out, HNW, HNO, HNQ⟩
          case measure => simp [intOf]; omega
    · obtain rfl : j = m := by omega
      have HALL : Hid (∀ q, ValidP q → ptx q = s.data.toList → q = P) := valid_psS HM.out HSS.out HPQ.out
      clear hj hlt
      go_wp2_with fail
      refine (s_IsPresentation _ _ _ P _ HRd.out).mono ?_
      rintro e w6 ⟨rfl, hB6⟩
      have HBO6 := Lib.hid (HBO.out.below hB6)
      clear hB6 m0 m1 m2
      have m0 := HBO6.out.x4.c0
      have m1 := HBO6.out.x4.c1
      have m2 := HBO6.out.x4.c2
      rw [HWS.out.on] at m0
      by_cases hv : validB P = true
      case neg =>
        have hv' : validB P = false := by simpa using hv
        have HNO : Hid (NoP s.data.toList) := fun q hV ht => by
          have e := HALL.out q hV ht
          rw [e] at hV
          exact hv (validB_true.2 hV)
        rw [hv']
        clear hv hv' m0 m1 m2
        have x5 := HBO6.out.x2
        have m0 := x5.c0
        have m1 := x5.c1
        have m2 := x5.c2
        have f0 := x5.fr 0
        have f1 := x5.fr 1
        have f2 := x5.fr 2
        have l5 := x5.lt
        have HBE := Lib.hid (below_size HW2.out HBO6.out.be)
        go_wp2_with fail
        exact bodyPost_ret (v := .tuple #[.agg #[.slice none 0 0, .slice none 0 0, .slice none 0 0], .int .i64 6]) (by simp [results, Tryz.results4, go_sem, m0, m1, m2]) rfl (HNOP.out HNO.out _ HBE.out)
      have HV := Lib.hid (validB_true.1 hv)
      rw [hv]
      clear hv
      have HR6 := HBO6.out.op.rd
      rw [HWS.out.on] at HR6
      have HR6d := Lib.hid HR6
      clear HR6
      go_wp2_with fail
      refine (s_l07Text HV.out _ _ _ _ HR6d.out).mono ?_
      rintro e w7 ⟨s2, rfl, hs2, hB7⟩
      have HBO7 := Lib.hid (HBO6.out.below hB7)
      have HS2 := Lib.hid hs2
      clear hs2 hB7 m0 m1 m2
      have x5 := HBO7.out.x2
      have m0 := x5.c0
      have m1 := x5.c1
      have m2 := x5.c2
      have f0 := x5.fr 0
      have f1 := x5.fr 1
      have f2 := x5.fr 2
      have l5 := x5.lt
      by_cases hss : s2.data.toList = s.data.toList
      · have hst : (s2.toList == s.toList) = true := by rw [ByteArray.toList_eq, ByteArray.toList_eq, hss]; exact beq_self_eq_true _
        have hse : s2 = s := ba_ext hss
        have HPP : Hid (ParP s.data.toList P) := ⟨HV.out, by rw [← HS2.out, hss], HALL.out⟩
        have HE := Lib.hid (par_yes HPP.out)
        have n0 := HBO7.out.x4.c0
        have n1 := HBO7.out.x4.c1
        have n2 := HBO7.out.x4.c2
        rw [HWS.out.on] at n0
        have HOUT := Lib.hid (HBO7.out.outD HW2.out (Nat.le_refl _) HWS.out.on)
        go_wp2_with fail
        refine bodyPost_ret (v := .tuple #[.agg #[.slice p1 n o1, .slice p2 n c2, .slice p3 n c3], .int .i64 0]) (by simp [results, Tryz.results4, go_sem, m0, m1, m2]) rfl ⟨_, _, _, by rw [HE.out.2], by rw [HE.out.1]; exact HOUT.out.1, HOUT.out.2⟩
      · have hst : (s2.toList == s.toList) = false := by rw [ByteArray.toList_eq, ByteArray.toList_eq]; simpa using hss
        have hse : ¬ s2 = s := fun e => hss (by rw [e])
        have HNO : Hid (NoP s.data.toList) := fun q hV ht => by
          have e := HALL.out q hV ht
          rw [e] at ht
          exact hss (HS2.out.trans ht)
        have HBE := Lib.hid (below_size HW2.out HBO7.out.be)
        go_wp2_with fail
        exact bodyPost_ret (v := .tuple #[.agg #[.slice none 0 0, .slice none 0 0, .slice none 0 0], .int .i64 6]) (by simp [results, Tryz.results4, go_sem, m0, m1, m2]) rfl (HNOP.out HNO.out _ HBE.out)
--== end
end Go.Proofs.YtgcmhkihonadmaaGreatDoor
