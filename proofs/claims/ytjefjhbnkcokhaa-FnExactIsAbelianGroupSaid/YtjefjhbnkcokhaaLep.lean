/-
  IsAbelianGroup: the reference's normal closure, its commutators, its answer.
-/
import Derived.Test.YtjefjhbnkcokhaaLeo
namespace Go.Proofs.Ytjefjhbnkcokhaa
set_option linter.unusedVariables false
set_option linter.unusedSimpArgs false
set_option maxRecDepth 100000
open Go.RowKit

--== plain
theorem filt_nil {D : List (List Int)} (h : ∀ d, D.getD d [] = []) : filt D = [] := by
  cases hf : filt D with
  | nil => rfl
  | cons x l =>
    obtain ⟨d, _, e, hn⟩ := filt_mem (D := D) (x := x) (by rw [hf]; simp)
    exact absurd (e.symm.trans (h d)) hn
theorem filt_ne {D : List (List Int)} {d : Nat} (h : D.getD d [] ≠ []) : filt D ≠ [] := fun e => by
  have := mem_filt h
  rw [e] at this
  simp at this
theorem getD_in {D : List (List Int)} {d : Nat} (h : D.getD d [] ≠ []) : d < D.length := by
  by_cases hd : d < D.length
  · exact hd
  · exact absurd (by simp [List.getD, List.getElem?_eq_none (Nat.not_lt.1 hd)]) h
theorem FD.lead {p : Pres} {T D : List (List Int)} (hF : FD p T 0 D) {d : Nat} (hd : d < p.n) (h : T.getD d [] ≠ []) : D.getD d [] ≠ [] := fun e => h ((hF.hi d (Nat.zero_le _) hd).1 e)
theorem FD.nil {p : Pres} {T D : List (List Int)} (hF : FD p T 0 D) (h : ∀ d, T.getD d [] = []) : filt D = [] := filt_nil fun d => by
  by_cases hd : d < p.n
  · exact (hF.hi d (Nat.zero_le _) hd).2 (h d)
  · simp [List.getD, List.getElem?_eq_none (show D.length ≤ d by rw [hF.len]; omega)]
theorem next_grow {p : Pres} {L T D E : List (List Int)} (hC : Cl p L T []) (hF : FD p T 0 E) (hDl : D.length = p.n) (hD : Tab p D) (hs : ∀ x ∈ filt D, x ∈ L) : (filt D).length ≤ (filt E).length :=
  filt_grow (by rw [hDl, hF.len]) fun d hd => by
    have hdn : d < p.n := by have := getD_in hd; omega
    exact hF.lead hdn (hC.fin (hs _ (mem_filt hd)) hdn (hD.lead hdn hd))
theorem next_nil {p : Pres} {T E : List (List Int)} (hC : Cl p [] T []) (hF : FD p T 0 E) : filt E = [] := hF.nil (hC.zer (fun x hx => by simp at hx)).1
theorem Tab.mem {p : Pres} {D : List (List Int)} (hDl : D.length = p.n) (hD : Tab p D) {x : List Int} (h : x ∈ filt D) : VI p 0 x := by
  obtain ⟨d, hd, rfl, hn⟩ := filt_mem h
  exact (hD d (by omega) hn).1.mono (Nat.zero_le _)
/-- the commutator of two elements -/
noncomputable def cmt (p : Pres) (x y : List Int) : List Int := p.at 0 (p.inv 0 (p.at 0 y x)) (p.at 0 x y)
theorem cmt_VI {p : Pres} (h : GT p 0) {x y : List Int} (hx : VI p 0 x) (hy : VI p 0 y) : VI p 0 (cmt p x y) := h.at (h.inv (h.at hy hx)) (h.at hx hy)
theorem zv_zero (p : Pres) (j : Nat) : p.zv.getD j 0 = 0 := by rw [Pres.zv, vrep]
/-- the closure of commutators is empty just where all elements commute -/
theorem comm_end {p : Pres} (h : GT p 0) {U V X T D : List (List Int)} (hU : ∀ x ∈ U, VI p 0 x) (hV : ∀ x ∈ V, VI p 0 x) (h1 : ∀ x ∈ U, ∀ y ∈ V, cmt p x y ∈ X) (h2 : ∀ z ∈ X, ∃ x ∈ U, ∃ y ∈ V, z = cmt p x y)
    (hC : Cl p X T []) (hF : FD p T 0 D) : filt D = [] ↔ ∀ x ∈ U, ∀ y ∈ V, p.at 0 x y = p.at 0 y x := by
  constructor
  · intro e x hx y hy
    refine (comm_zv h (hU x hx) (hV y hy)).1 ?_
    by_cases hz : cmt p x y = p.zv
    · exact hz
    · obtain ⟨k, hk, hl⟩ := lead_ex (cmt_VI h (hU x hx) (hV y hy)) hz
      exact absurd e (filt_ne (hF.lead hk (hC.fin (h1 x hx y hy) hk hl)))
  · intro e
    refine hF.nil (hC.zer fun z hz j => ?_).1
    obtain ⟨x, hx, y, hy, rfl⟩ := h2 z hz
    rw [show cmt p x y = p.zv from (comm_zv h (hU x hx) (hV y hy)).2 (e x hx y hy)]
    exact zv_zero p j
theorem getD_mem2 {L : List (List Int)} {i : Nat} (h : i < L.length) : L.getD i [] ∈ L := by
  rw [List.getD, List.getElem?_eq_getElem h, Option.getD_some]; exact List.getElem_mem h
--== spec.l13Stable
set_option maxHeartbeats 8000000 in
theorem s_l13Stable {p : Pres} (hV : ValidP p) (hG : GT p 0) (D0 BY : List (List Int)) (v1 v2 v3 vu vb : Value) (w : World) (hp : RdP w v1 v2 v3 p) (hu : Rd2 w vu (filt D0)) (hDl : D0.length = p.n) (hD : Tab p D0) (hb : Rd2 w vb BY) (hBY : ∀ x ∈ BY, VI p 0 x) (hBl : BY.length ≤ 20) :
    Calls Try.prog 96 #[.agg #[v1, v2, v3], vu, vb] w fun e w' => ∃ (a : Option Addr) (n c : Nat), e = .returned (.slice a n c) ∧ (n = 0 ↔ filt D0 = []) ∧ Below w.heap.size w w' := by
  have hn6 := hV.n6
  have HP := Lib.hid hp
  obtain ⟨p1, q1, rfl, _, _⟩ := hp.1.formN (n := p.n) rfl
  obtain ⟨p2, q2, rfl, _, _⟩ := hp.2.1.formN hV.pl
  obtain ⟨p3, q3, rfl, _, _⟩ := hp.2.2.formN hV.cl
  obtain ⟨nb, hnb⟩ : ∃ nb, BY.length = nb := ⟨_, rfl⟩
  obtain ⟨ab, cb, rfl, _, _⟩ := hb.formN hnb
  have HU := Lib.hid hu
  have HBy := Lib.hid hb
  have HBV := Lib.hid hBY
  have HNB := Lib.hid hnb
  have HD0 : Hid (D0.length = p.n ∧ Tab p D0) := ⟨hDl, hD⟩
  have HG := Lib.hid hG
  have HVd := Lib.hid hV
  have G0 := Lib.hid (below_alloc w (Obj.cells #[Value.slice p1 p.n q1, Value.slice p2 p.n q2, Value.slice p3 p.n q3] 28))
  have X0 := Lib.hid (Bx.new w (Value.slice p1 p.n q1) (Value.slice p2 p.n q2) (Value.slice p3 p.n q3))
  rw [hnb] at hBl
  clear hp hu hb hBY hG hV hDl hD hnb
  go_enter Try.func96, Try.ntmps96
  go_wp2_with fail
  generalize w.alloc (Obj.cells #[Value.slice p1 p.n q1, Value.slice p2 p.n q2, Value.slice p3 p.n q3] 28) = w0 at *
  go_loopg [7] p.n (fun k u wr => ∃ D : List (List Int), Hid (D.length = p.n ∧ Tab p D ∧ (filt D = [] ↔ filt D0 = []) ∧ p.n - (filt D).length ≤ k) ∧ Rd2 wr u (filt D) ∧ Below w0.heap.size w0 wr)
  case atStart => exact ⟨D0, ⟨HD0.out.1, HD0.out.2, Iff.rfl, Nat.sub_le _ _⟩, HU.out.below G0.out, Below.refl _ _⟩
  case round =>
    obtain ⟨D, HD, hR, hB⟩ := hrel
    obtain ⟨nd, hnd⟩ : ∃ nd, (filt D).length = nd := ⟨_, rfl⟩
    have HND := Lib.hid hnd
    have hnd6 : nd ≤ 6 := by have := filt_le D; have := HD.out.1; omega
    obtain ⟨au, cu, rfl, _, _⟩ := hR.formN hnd
    obtain ⟨wo, hwo⟩ : ∃ wo : World, wo = wr := ⟨_, rfl⟩
    subst hwo
    have HR := Lib.hid hR
    have HB := Lib.hid hB
    clear hR hB hnd
    go_wp2_with fail
    refine (s_l01Own2 _ (filt D) _ HR.out (by rw [HND.out]; omega) (fun i hi => by
      have := (HD.out.2.1.mem HD.out.1 (getD_mem2 hi)).len; omega)).mono ?_
    rintro e w2 ⟨ul, rfl, hO2, hB2⟩
    have hO3 : O2 w2 (win wo.heap.size w2.heap.size) ul (filt D ++ []) := by rw [List.append_nil]; exact hO2
    have HO3 := Lib.hid hO3
    have HB2 := Lib.hid hB2
    clear hO2 hB2 hO3
    go_wp2_with fail
    go_loopw [8, 9] (fun u t wx => ∃ (i : Nat) (X : List (List Int)), i ≤ nb ∧ t = .int .i64 i ∧ Hid ((∀ z ∈ X, VI p 0 z) ∧ X.length ≤ 10 * i ∧ (nd = 0 → X = [])) ∧ O2 wx (win wo.heap.size wx.heap.size) u (filt D ++ X) ∧ Below wo.heap.size wo wx) (fun _ t _ => nb - (intOf t).toNat)
    case atStart => exact ⟨0, [], Nat.zero_le _, rfl, ⟨fun z hz => by simp at hz, Nat.zero_le _, fun _ => rfl⟩, HO3.out, HB2.out⟩
    case round =>
      clear HO3 HB2
      obtain ⟨i, X, hi, rfl, HX, hO, hB⟩ := hrel
      have HO := Lib.hid hO
      have HB3 := Lib.hid hB
      by_cases hlt : i < nb
      · have hltB : i < BY.length := by rw [HNB.out]; exact hlt
        obtain ⟨bb, ob, ry, heb, hcb, hRb⟩ := HBy.out.at hltB
        obtain rfl : ab = some ⟨bb, ob, none⟩ := heb
        have hky := HBV.out _ (getD_mem2 hltB)
        obtain ⟨y, hy⟩ : ∃ y, BY.getD i [] = y := ⟨_, rfl⟩
        rw [hy] at hRb hky
        obtain ⟨ay, cy, rfl, _, _⟩ := hRb.formN hky.len
        have HCB := Lib.hid hcb
        have HRB := Lib.hid hRb
        have HKY := Lib.hid hky
        clear hO hB hltB hcb hRb hky hy
        go_wp2_with fail
        go_loopw [8, 10] (fun u t wx => ∃ (m : Nat) (X : List (List Int)), m ≤ nd ∧ t = .int .i64 m ∧ Hid ((∀ z ∈ X, VI p 0 z) ∧ X.length ≤ 10 * i + m ∧ (nd = 0 → X = [])) ∧ O2 wx (win wo.heap.size wx.heap.size) u (filt D ++ X) ∧ Below wo.heap.size wo wx) (fun _ t _ => nd - (intOf t).toNat)
        case atStart => exact ⟨0, X, Nat.zero_le _, rfl, HX, HO.out, HB3.out⟩
        case round =>
          clear HO HB3 HX
          obtain ⟨m, X, hm, rfl, HX, hO, hB⟩ := hrel
          have HO := Lib.hid hO
          have HB3 := Lib.hid hB
          obtain ⟨wq, hwq⟩ : ∃ wq : World, wq = wr := ⟨_, rfl⟩
          subst hwq
          by_cases hltm : m < nd
          · have hltD : m < (filt D).length := by rw [HND.out]; exact hltm
            obtain ⟨bx, ox, rx, hex, hcx, hRx⟩ := HR.out.at hltD
            obtain rfl : au = some ⟨bx, ox, none⟩ := hex
            have hkx := HD.out.2.1.mem HD.out.1 (getD_mem2 hltD)
            obtain ⟨x, hx⟩ : ∃ x, (filt D).getD m [] = x := ⟨_, rfl⟩
            rw [hx] at hRx hkx
            obtain ⟨ax, cx, rfl, _, _⟩ := hRx.formN hkx.len
            have HKX := Lib.hid hkx
            have HRX := Lib.hid hRx
            have HCX := Lib.hid hcx
            have KEEP : Hid (∀ wx, Below wo.heap.size wo wx → wx.cell? ⟨w.heap.size, 0, none⟩ = some (Value.slice p1 p.n q1) ∧ wx.cell? ⟨w.heap.size, 1, none⟩ = some (Value.slice p2 p.n q2) ∧ wx.cell? ⟨w.heap.size, 2, none⟩ = some (Value.slice p3 p.n q3) ∧ wx.cell? ⟨bx, ox + m, none⟩ = some (.slice ax p.n cx) ∧ wx.cell? ⟨bb, ob + i, none⟩ = some (.slice ay p.n cy)) := fun wx hb =>
              ⟨below_cells (below_size HB.out hb) _ _ X0.out.c0, below_cells (below_size HB.out hb) _ _ X0.out.c1, below_cells (below_size HB.out hb) _ _ X0.out.c2, below_cells hb _ _ HCX.out, below_cells (below_size (below_size G0.out HB.out) hb) _ _ HCB.out⟩
            have HCJ : Hid (∀ wx, Below wo.heap.size wo wx → Calls Try.prog 124 #[.agg #[Value.slice p1 p.n q1, Value.slice p2 p.n q2, Value.slice p3 p.n q3], .slice ax p.n cx, .slice ay p.n cy] wx (RetInts wx (p.at 0 (p.inv 0 y) (p.at 0 x y)))) := fun wx hb =>
              s_l10Conj HVd.out HG.out x y _ _ _ _ _ wx (HP.out.below (below_size (below_size G0.out HB.out) hb)) (HRX.out.below hb) (HRB.out.below (below_size (below_size G0.out HB.out) hb)) HKX.out HKY.out
            have HCV : Hid (VI p 0 (p.at 0 (p.inv 0 y) (p.at 0 x y))) := HG.out.at (HG.out.inv HKY.out) (HG.out.at HKX.out HKY.out)
            have HLn : Hid ((filt D ++ X).length ≤ 1000000000) := by
              show _ ≤ _
              rw [List.length_append, HND.out]; have := HX.out.2.1; omega
            generalize p.at 0 (p.inv 0 y) (p.at 0 x y) = Z at *
            clear hO hB hltD hcx hRx hkx hx
            go_wp2_with fail
            go_region_held3 (fun wx => wx.cell? ⟨w.heap.size, 0, none⟩ = some (Value.slice p1 p.n q1) ∧ wx.cell? ⟨w.heap.size, 1, none⟩ = some (Value.slice p2 p.n q2) ∧ wx.cell? ⟨w.heap.size, 2, none⟩ = some (Value.slice p3 p.n q3) ∧ wx.cell? ⟨bx, ox + m, none⟩ = some (.slice ax p.n cx) ∧ wx.cell? ⟨bb, ob + i, none⟩ = some (.slice ay p.n cy))
              (first
                | exact KEEP.out _ (below_size HB3.out (Below.refl _ _).drew)
                | exact KEEP.out _ hK8
                | exact KEEP.out _ (below_size HB3.out hK7)
                | exact KEEP.out _ (ball (below_size HB3.out hK7) _))
              (first
                | ((go_at_call 124); (with_reducible refine (HCJ.out _ (below_size HB3.out (Below.refl _ _).drew)).mono ?_); (rintro e w7 ⟨u7, rfl, hI7, hB7⟩); (have hK7 : Below wq.heap.size wq w7 := below_size (Below.refl _ _).drew hB7); (obtain ⟨a7, c7, rfl, _, _⟩ := hI7.form))
                | (obtain ⟨v8, w8, hr8, hO8, hB8⟩ := step_rows HO.out HB3.out.size (hI7.mono (Nat.le_refl _)) rfl hK7 HLn.out
                   have hK8 : Below wo.heap.size wo w8 := (below_size HB3.out hK7).trans hB8
                   refine step_of_run rfl (.tmp 27) (.tmp 38) 23 rfl _ _ (by simp [Act.eval, Act.put]) (by simp [Act.eval, Act.put]) _ _ hr8 ?_))
            rw [List.append_assoc] at hO8
            have HO8 := Lib.hid hO8
            have HK8 := Lib.hid hK8
            have HX8 : Hid ((∀ z ∈ X ++ [Z], VI p 0 z) ∧ (X ++ [Z]).length ≤ 10 * i + (m + 1) ∧ (nd = 0 → X ++ [Z] = [])) := by
              refine ⟨fun z hz => ?_, by have := HX.out.2.1; simp; omega, fun h => by omega⟩
              rcases List.mem_append.1 hz with hz | hz
              · exact HX.out.1 z hz
              · obtain rfl := List.mem_singleton.1 hz; exact HCV.out
            clear hI7 hB7 hK7 hO8 hr8 hK8 hB8 KEEP HCJ
            go_wp2_with fail
            go_roundw
            case rel => exact ⟨m + 1, X ++ [Z], by omega, by go_num, HX8, HO8.out, HK8.out⟩
            case measure => (simp [intOf]; try omega)
          · obtain rfl : m = nd := by omega
            clear hO hB
            go_wp2_with fail
            go_roundw
            case rel => exact ⟨i + 1, X, by omega, by go_num, ⟨HX.out.1, by have := HX.out.2.1; omega, HX.out.2.2⟩, HO.out, HB3.out⟩
            case measure => (simp [intOf]; try omega)
      · obtain rfl : i = nb := by omega
        obtain ⟨wq, hwq⟩ : ∃ wq : World, wq = wr := ⟨_, rfl⟩
        subst hwq
        have BW := Lib.hid (below_size HB.out HB3.out)
        have m0 := below_cells BW.out _ _ X0.out.c0
        have m1 := below_cells BW.out _ _ X0.out.c1
        have m2 := below_cells BW.out _ _ X0.out.c2
        clear hO hB
        go_wp2_with fail
        refine (s_l12Close HVd.out HG.out (filt D ++ X) _ _ _ _ _ (HP.out.below (below_size G0.out BW.out)) HO.out.rd (fun z hz => by
          rcases List.mem_append.1 hz with hz | hz
          · exact HD.out.2.1.mem HD.out.1 hz
          · exact HX.out.1 z hz) (by rw [List.length_append, HND.out]; have := HX.out.2.1; omega)).mono ?_
        rintro e w5 ⟨u5, T, E, rfl, hC, hF, hR5, hB5⟩
        obtain ⟨ne, hne⟩ : ∃ ne, (filt E).length = ne := ⟨_, rfl⟩
        obtain ⟨a5, c5, rfl, _, _⟩ := hR5.formN hne
        have hgr := next_grow hC hF HD.out.1 HD.out.2.1 (fun x hx => List.mem_append_left _ hx)
        rw [HND.out, hne] at hgr
        have hnil : nd = 0 → ne = 0 := fun h0 => by
          have hX0 := HX.out.2.2 h0
          have hD0 : filt D = [] := List.eq_nil_of_length_eq_zero (HND.out.trans h0)
          rw [hX0, hD0] at hC
          rw [← hne, next_nil hC hF]; rfl
        have HE : Hid (E.length = p.n ∧ Tab p E) := ⟨hF.len, hF.tab⟩
        have hne6 : ne ≤ p.n := by have := filt_le E; have := hF.len; omega
        have BW5 := Lib.hid (below_size BW.out hB5)
        have BW6 := Lib.hid (below_size (below_size G0.out BW.out) hB5)
        have HR5 := Lib.hid hR5
        have HNE := Lib.hid hne
        have HGR := Lib.hid hgr
        have HNIL := Lib.hid hnil
        clear hC hF hR5 hB5 hne hgr hnil m0 m1 m2
        by_cases heq : ne = nd
        · subst heq
          have hee : ((ne : Int) == (ne : Int)) = true := by simp
          go_wp2_with fail
          go_ret
          refine ⟨_, _, _, rfl, ?_, BW6.out⟩
          rw [← HD.out.2.2.1]
          constructor
          · intro h; exact List.eq_nil_of_length_eq_zero (HND.out.trans h)
          · intro h; rw [← HND.out, h]; rfl
        · have hee : ((ne : Int) == (nd : Int)) = false := by simp; omega
          go_wp2_with fail
          go_roundg (p.n - ne)
          case measure =>
            have := HD.out.2.2.2
            have h1 := HND.out
            have h2 := HGR.out
            omega
          case rel =>
            refine ⟨E, ⟨HE.out.1, HE.out.2, ?_, by rw [HNE.out]; exact Nat.le_refl _⟩, HR5.out, BW5.out⟩
            rw [← HD.out.2.2.1]
            constructor
            · intro h
              have h3 := HNE.out
              rw [h] at h3
              have h4 := HGR.out
              simp at h3
              exact List.eq_nil_of_length_eq_zero (by rw [HND.out]; omega)
            · intro h
              have h3 := HND.out
              rw [h] at h3
              exact List.eq_nil_of_length_eq_zero (by rw [HNE.out]; exact HNIL.out (by simpa using h3.symm))
--== end
end Go.Proofs.Ytjefjhbnkcokhaa
