/-
  IsAbelianGroup: the reference's commutator subgroup, its answer.
-/
import Derived.Test.YtjefjhbnkcokhaaLep
namespace Go.Proofs.Ytjefjhbnkcokhaa
set_option linter.unusedVariables false
set_option linter.unusedSimpArgs false
set_option maxRecDepth 100000
open Go.RowKit

--== spec.l13Comm
set_option maxHeartbeats 8000000 in
theorem s_l13Comm {p : Pres} (hV : ValidP p) (hG : GT p 0) (U V : List (List Int)) (v1 v2 v3 vu vv : Value) (w : World) (hp : RdP w v1 v2 v3 p) (hu : Rd2 w vu U) (hv : Rd2 w vv V) (hU : ∀ x ∈ U, VI p 0 x) (hVV : ∀ x ∈ V, VI p 0 x) (hUl : U.length ≤ 10) (hVl : V.length ≤ 10) :
    Calls Try.prog 62 #[.agg #[v1, v2, v3], vu, vv] w fun e w' => ∃ (a : Option Addr) (n c : Nat), e = .returned (.slice a n c) ∧ (n = 0 ↔ ∀ x ∈ U, ∀ y ∈ V, p.at 0 x y = p.at 0 y x) ∧ Below w.heap.size w w' := by
  have hn6 := hV.n6
  have HP := Lib.hid hp
  obtain ⟨p1, q1, rfl, _, _⟩ := hp.1.formN (n := p.n) rfl
  obtain ⟨p2, q2, rfl, _, _⟩ := hp.2.1.formN hV.pl
  obtain ⟨p3, q3, rfl, _, _⟩ := hp.2.2.formN hV.cl
  obtain ⟨nu, hnu⟩ : ∃ nu, U.length = nu := ⟨_, rfl⟩
  obtain ⟨nv, hnv⟩ : ∃ nv, V.length = nv := ⟨_, rfl⟩
  obtain ⟨au, cu, rfl, _, _⟩ := hu.formN hnu
  obtain ⟨av, cv, rfl, _, _⟩ := hv.formN hnv
  have HU := Lib.hid hu
  have HV := Lib.hid hv
  have HUV := Lib.hid hU
  have HVV := Lib.hid hVV
  have HNU := Lib.hid hnu
  have HNV := Lib.hid hnv
  have HG := Lib.hid hG
  have HVd := Lib.hid hV
  have G0 := Lib.hid (below_alloc w (Obj.cells #[Value.slice p1 p.n q1, Value.slice p2 p.n q2, Value.slice p3 p.n q3] 28))
  have X0 := Lib.hid (Bx.new w (Value.slice p1 p.n q1) (Value.slice p2 p.n q2) (Value.slice p3 p.n q3))
  rw [hnu] at hUl
  rw [hnv] at hVl
  have HSZ : Hid ((w.alloc (Obj.cells #[Value.slice p1 p.n q1, Value.slice p2 p.n q2, Value.slice p3 p.n q3] 28)).heap.size = w.heap.size + 1) := by show _ = _; simp
  have HO0 : Hid (O2 ((w.alloc (Obj.cells #[Value.slice p1 p.n q1, Value.slice p2 p.n q2, Value.slice p3 p.n q3] 28)).alloc (Obj.cells #[] 22)) (win (w.alloc (Obj.cells #[Value.slice p1 p.n q1, Value.slice p2 p.n q2, Value.slice p3 p.n q3] 28)).heap.size ((w.alloc (Obj.cells #[Value.slice p1 p.n q1, Value.slice p2 p.n q2, Value.slice p3 p.n q3] 28)).alloc (Obj.cells #[] 22)).heap.size) (.slice (some ⟨w.heap.size + 1, 0, none⟩) 0 0) ([] : List (List Int))) := by
    have h := local_O2.mono (S' := win (w.alloc (Obj.cells #[Value.slice p1 p.n q1, Value.slice p2 p.n q2, Value.slice p3 p.n q3] 28)).heap.size ((w.alloc (Obj.cells #[Value.slice p1 p.n q1, Value.slice p2 p.n q2, Value.slice p3 p.n q3] 28)).alloc (Obj.cells #[] 22)).heap.size) (ON.empty (w.alloc (Obj.cells #[Value.slice p1 p.n q1, Value.slice p2 p.n q2, Value.slice p3 p.n q3] 28))) (fun k hk h => ⟨Nat.le_of_eq (Eq.symm h), hk⟩)
    have e : (w.alloc (Obj.cells #[Value.slice p1 p.n q1, Value.slice p2 p.n q2, Value.slice p3 p.n q3] 28)).heap.size = w.heap.size + 1 := by simp
    show O2 _ _ _ _
    rw [show (w.heap.size + 1) = (w.alloc (Obj.cells #[Value.slice p1 p.n q1, Value.slice p2 p.n q2, Value.slice p3 p.n q3] 28)).heap.size from e.symm]
    exact h
  clear hp hu hv hU hVV hG hV hnu hnv
  go_enter Try.func62, Try.ntmps62
  go_wp2_with fail
  generalize w.alloc (Obj.cells #[Value.slice p1 p.n q1, Value.slice p2 p.n q2, Value.slice p3 p.n q3] 28) = w0 at *
  go_loopw [7, 8] (fun u t wx => ∃ (i : Nat) (X : List (List Int)), i ≤ nu ∧ t = .int .i64 i ∧ Hid ((∀ z ∈ X, ∃ x ∈ U, ∃ y ∈ V, z = cmt p x y) ∧ X.length ≤ 10 * i ∧ (∀ k, k < i → ∀ y ∈ V, cmt p (U.getD k []) y ∈ X)) ∧ O2 wx (win w0.heap.size wx.heap.size) u X ∧ Below w0.heap.size w0 wx) (fun _ t _ => nu - (intOf t).toNat)
  case atStart => exact ⟨0, [], Nat.zero_le _, rfl, ⟨fun z hz => by simp at hz, Nat.zero_le _, fun k hk => by omega⟩, HO0.out, below_alloc _ _⟩
  case round =>
    clear HO0
    obtain ⟨i, X, hi, rfl, HX, hO, hB⟩ := hrel
    have HO := Lib.hid hO
    have HB := Lib.hid hB
    by_cases hlt : i < nu
    · have hltU : i < U.length := by rw [HNU.out]; exact hlt
      obtain ⟨bu, ou, rx, heu, hcx, hRx⟩ := HU.out.at hltU
      obtain rfl : au = some ⟨bu, ou, none⟩ := heu
      have hxU := getD_mem2 hltU
      obtain ⟨x, hx⟩ : ∃ x, U.getD i [] = x := ⟨_, rfl⟩
      have HXE := Lib.hid hx
      rw [hx] at hRx hxU
      have hkx := HUV.out _ hxU
      obtain ⟨ax, cx, rfl, _, _⟩ := hRx.formN hkx.len
      have HCX := Lib.hid hcx
      have HRX := Lib.hid hRx
      have HKX := Lib.hid hkx
      have HXU := Lib.hid hxU
      clear hO hB hltU hcx hRx hkx hx hxU
      go_wp2_with fail
      go_loopw [7, 9] (fun u t wx => ∃ (m : Nat) (X : List (List Int)), m ≤ nv ∧ t = .int .i64 m ∧ Hid ((∀ z ∈ X, ∃ x ∈ U, ∃ y ∈ V, z = cmt p x y) ∧ X.length ≤ 10 * i + m ∧ (∀ k, k < i → ∀ y ∈ V, cmt p (U.getD k []) y ∈ X) ∧ ∀ k, k < m → cmt p x (V.getD k []) ∈ X) ∧ O2 wx (win w0.heap.size wx.heap.size) u X ∧ Below w0.heap.size w0 wx) (fun _ t _ => nv - (intOf t).toNat)
      case atStart => exact ⟨0, X, Nat.zero_le _, rfl, ⟨HX.out.1, HX.out.2.1, HX.out.2.2, fun k hk => by omega⟩, HO.out, HB.out⟩
      case round =>
        clear HO HB HX
        obtain ⟨m, X, hm, rfl, HX, hO, hB⟩ := hrel
        have HO := Lib.hid hO
        have HB3 := Lib.hid hB
        obtain ⟨wq, hwq⟩ : ∃ wq : World, wq = wr := ⟨_, rfl⟩
        subst hwq
        by_cases hltm : m < nv
        · have hltV : m < V.length := by rw [HNV.out]; exact hltm
          obtain ⟨bb, ob, ry, heb, hcb, hRb⟩ := HV.out.at hltV
          obtain rfl : av = some ⟨bb, ob, none⟩ := heb
          have hyV := getD_mem2 hltV
          obtain ⟨y, hy⟩ : ∃ y, V.getD m [] = y := ⟨_, rfl⟩
          have HYE := Lib.hid hy
          rw [hy] at hRb hyV
          have hky := HVV.out _ hyV
          obtain ⟨ay, cy, rfl, _, _⟩ := hRb.formN hky.len
          have HKY := Lib.hid hky
          have HRB := Lib.hid hRb
          have HCB := Lib.hid hcb
          have HYV := Lib.hid hyV
          have KEEP : Hid (∀ wx, Below w0.heap.size w0 wx → wx.cell? ⟨w.heap.size, 0, none⟩ = some (Value.slice p1 p.n q1) ∧ wx.cell? ⟨w.heap.size, 1, none⟩ = some (Value.slice p2 p.n q2) ∧ wx.cell? ⟨w.heap.size, 2, none⟩ = some (Value.slice p3 p.n q3) ∧ wx.cell? ⟨bu, ou + i, none⟩ = some (.slice ax p.n cx) ∧ wx.cell? ⟨bb, ob + m, none⟩ = some (.slice ay p.n cy)) := fun wx hb =>
            ⟨below_cells hb _ _ X0.out.c0, below_cells hb _ _ X0.out.c1, below_cells hb _ _ X0.out.c2, below_cells (below_size G0.out hb) _ _ HCX.out, below_cells (below_size G0.out hb) _ _ HCB.out⟩
          have HCJ : Hid (∀ wx, Below w0.heap.size w0 wx → Calls Try.prog 95 #[.agg #[Value.slice p1 p.n q1, Value.slice p2 p.n q2, Value.slice p3 p.n q3], .slice ax p.n cx, .slice ay p.n cy] wx (RetInts wx (cmt p x y))) := fun wx hb =>
            s_l10Comm HVd.out HG.out x y _ _ _ _ _ wx (HP.out.below (below_size G0.out hb)) (HRX.out.below (below_size G0.out hb)) (HRB.out.below (below_size G0.out hb)) HKX.out HKY.out
          have HLn : Hid (X.length ≤ 1000000000) := by
            show _ ≤ _
            have := HX.out.2.1; omega
          have HX8 : Hid ((∀ z ∈ X ++ [cmt p x y], ∃ x ∈ U, ∃ y ∈ V, z = cmt p x y) ∧ (X ++ [cmt p x y]).length ≤ 10 * i + (m + 1) ∧ (∀ k, k < i → ∀ y' ∈ V, cmt p (U.getD k []) y' ∈ X ++ [cmt p x y]) ∧ ∀ k, k < m + 1 → cmt p x (V.getD k []) ∈ X ++ [cmt p x y]) := by
            refine ⟨fun z hz => ?_, by have := HX.out.2.1; simp; omega, fun k hk y' hy' => List.mem_append_left _ (HX.out.2.2.1 k hk y' hy'), fun k hk => ?_⟩
            · rcases List.mem_append.1 hz with hz | hz
              · exact HX.out.1 z hz
              · obtain rfl := List.mem_singleton.1 hz; exact ⟨x, HXU.out, y, HYV.out, rfl⟩
            · by_cases h : k < m
              · exact List.mem_append_left _ (HX.out.2.2.2 k h)
              · obtain rfl : k = m := by omega
                rw [HYE.out]; exact List.mem_append_right _ (List.mem_singleton.2 rfl)
          generalize cmt p x y = Z at *
          clear hO hB hltV hcb hRb hky hy hyV
          go_wp2_with fail
          go_region_held3 (fun wx => wx.cell? ⟨w.heap.size, 0, none⟩ = some (Value.slice p1 p.n q1) ∧ wx.cell? ⟨w.heap.size, 1, none⟩ = some (Value.slice p2 p.n q2) ∧ wx.cell? ⟨w.heap.size, 2, none⟩ = some (Value.slice p3 p.n q3) ∧ wx.cell? ⟨bu, ou + i, none⟩ = some (.slice ax p.n cx) ∧ wx.cell? ⟨bb, ob + m, none⟩ = some (.slice ay p.n cy))
            (first
              | exact KEEP.out _ (below_size HB3.out (Below.refl _ _).drew)
              | exact KEEP.out _ hK8
              | exact KEEP.out _ (below_size HB3.out hK7)
              | exact KEEP.out _ (ball (below_size HB3.out hK7) _))
            (first
              | ((go_at_call 95); (with_reducible refine (HCJ.out _ (below_size HB3.out (Below.refl _ _).drew)).mono ?_); (rintro e w7 ⟨u7, rfl, hI7, hB7⟩); (have hK7 : Below wq.heap.size wq w7 := below_size (Below.refl _ _).drew hB7); (obtain ⟨a7, c7, rfl, _, _⟩ := hI7.form))
              | (obtain ⟨v8, w8, hr8, hO8, hB8⟩ := step_rows HO.out HB3.out.size (hI7.mono (Nat.le_refl _)) rfl hK7 HLn.out
                 have hK8 : Below w0.heap.size w0 w8 := (below_size HB3.out hK7).trans hB8
                 refine step_of_run rfl (.tmp 23) (.tmp 34) 23 rfl _ _ (by simp [Act.eval, Act.put]) (by simp [Act.eval, Act.put]) _ _ hr8 ?_))
          have HO8 := Lib.hid hO8
          have HK8 := Lib.hid hK8
          clear hI7 hB7 hK7 hO8 hr8 hK8 hB8 KEEP HCJ
          go_wp2_with fail
          go_roundw
          case rel => exact ⟨m + 1, X ++ [Z], by omega, by go_num, HX8, HO8.out, HK8.out⟩
          case measure => (simp [intOf]; try omega)
        · obtain rfl : m = nv := by omega
          clear hO hB
          go_wp2_with fail
          go_roundw
          case rel => exact ⟨i + 1, X, by omega, by go_num, ⟨HX.out.1, by have := HX.out.2.1; omega, fun k hk y hy => by
            by_cases h : k < i
            · exact HX.out.2.2.1 k h y hy
            · obtain rfl : k = i := by omega
              obtain ⟨t, ht, rfl⟩ := List.mem_iff_getElem.1 hy
              have := HX.out.2.2.2 t (by rw [← HNV.out]; exact ht)
              rw [List.getD, List.getElem?_eq_getElem ht, Option.getD_some] at this
              rw [HXE.out]; exact this⟩, HO.out, HB3.out⟩
          case measure => (simp [intOf]; try omega)
    · obtain rfl : i = nu := by omega
      obtain ⟨wq, hwq⟩ : ∃ wq : World, wq = wr := ⟨_, rfl⟩
      subst hwq
      have HALL : Hid (∀ x ∈ U, ∀ y ∈ V, cmt p x y ∈ X) := by
        show ∀ x ∈ U, _
        intro x hx y hy
        obtain ⟨t, ht, rfl⟩ := List.mem_iff_getElem.1 hx
        have := HX.out.2.2 t (by rw [← HNU.out]; exact ht) y hy
        rw [List.getD, List.getElem?_eq_getElem ht, Option.getD_some] at this
        exact this
      have HXV : Hid (∀ z ∈ X, VI p 0 z) := by
        show ∀ z ∈ X, _
        intro z hz
        obtain ⟨x, hx, y, hy, rfl⟩ := HX.out.1 z hz
        exact cmt_VI HG.out (HUV.out x hx) (HVV.out y hy)
      have HXL : Hid (X.length ≤ 1000) := by
        show _ ≤ _
        have := HX.out.2.1; omega
      obtain ⟨aX, cX, rfl, _, _⟩ := hO.rd.form
      have KEEP : Hid (∀ wx, Below w0.heap.size w0 wx → wx.cell? ⟨w.heap.size, 0, none⟩ = some (Value.slice p1 p.n q1) ∧ wx.cell? ⟨w.heap.size, 1, none⟩ = some (Value.slice p2 p.n q2) ∧ wx.cell? ⟨w.heap.size, 2, none⟩ = some (Value.slice p3 p.n q3)) := fun wx hb =>
        ⟨below_cells hb _ _ X0.out.c0, below_cells hb _ _ X0.out.c1, below_cells hb _ _ X0.out.c2⟩
      have HCL : Hid (∀ wx, Below wq.heap.size wq wx → Calls Try.prog 97 #[.agg #[Value.slice p1 p.n q1, Value.slice p2 p.n q2, Value.slice p3 p.n q3], .slice aX X.length cX] wx fun e w' => ∃ u T D, e = .returned u ∧ Cl p X T [] ∧ FD p T 0 D ∧ Rd2 w' u (filt D) ∧ Below wx.heap.size wx w') := fun wx hb =>
        s_l12Close HVd.out HG.out X _ _ _ _ wx (HP.out.below (below_size (below_size G0.out HB.out) hb)) (HO.out.rd.below hb) HXV.out HXL.out
      have HOW : Hid (∀ wx, Below w0.heap.size w0 wx → Calls Try.prog 98 #[.slice au i cu] wx (RetL2 wx U)) := fun wx hb =>
        s_l01Own2 _ U wx (HU.out.below (below_size G0.out hb)) (by rw [HNU.out]; omega) (fun t hi => by
          have := (HUV.out _ (getD_mem2 hi)).len; omega)
      have HST : Hid (∀ wx D u v, Below w0.heap.size w0 wx → D.length = p.n → Tab p D → Rd2 wx u (filt D) → Rd2 wx v (U ++ V) → Calls Try.prog 96 #[.agg #[Value.slice p1 p.n q1, Value.slice p2 p.n q2, Value.slice p3 p.n q3], u, v] wx fun e w' => ∃ (a : Option Addr) (n c : Nat), e = .returned (.slice a n c) ∧ (n = 0 ↔ filt D = []) ∧ Below wx.heap.size wx w') := fun wx D u v hb h1 h2 h3 h4 =>
        s_l13Stable HVd.out HG.out D (U ++ V) _ _ _ _ _ wx (HP.out.below (below_size G0.out hb)) h3 h1 h2 h4 (fun z hz => by
          rcases List.mem_append.1 hz with hz | hz
          · exact HUV.out z hz
          · exact HVV.out z hz) (by rw [List.length_append, HNU.out, HNV.out]; omega)
      clear hO hB
      go_wp2_with fail
      go_region_held3 (fun wx => wx.cell? ⟨w.heap.size, 0, none⟩ = some (Value.slice p1 p.n q1) ∧ wx.cell? ⟨w.heap.size, 1, none⟩ = some (Value.slice p2 p.n q2) ∧ wx.cell? ⟨w.heap.size, 2, none⟩ = some (Value.slice p3 p.n q3))
        (first
          | exact KEEP.out _ (below_size HB.out (Below.refl _ _).drew)
          | exact KEEP.out _ hK9
          | exact KEEP.out _ hK8
          | exact KEEP.out _ hK7
          | exact KEEP.out _ hK6)
        (first
          | ((go_at_call 97); (with_reducible refine (HCL.out _ (Below.refl _ _).drew).mono ?_); (rintro e w6 ⟨u6, T, D, rfl, hC6, hF6, hR6, hB6⟩); (have hK6 : Below w0.heap.size w0 w6 := below_size HB.out (below_size (Below.refl _ _).drew hB6)))
          | ((go_at_call 98); (with_reducible refine (HOW.out _ hK6).mono ?_); (rintro e w7 ⟨u7, rfl, hO7, hB7⟩); (have hK7 : Below w0.heap.size w0 w7 := below_size hK6 hB7))
          | ((go_at_call 96); (with_reducible refine (HST.out _ D _ _ hK8 hF6.len hF6.tab (hR6.below hB8) hR8).mono ?_); (rintro e w9 ⟨a9, n9, c9, rfl, hn9, hB9⟩); (have hK9 : Below w0.heap.size w0 w9 := below_size hK8 hB9))
          | (obtain ⟨v8, w8, hr8, hR8, hB8⟩ := run_appRows hO7 hB7 (HV.out.below (below_size G0.out hK6)) (by rw [HNU.out]; omega) (by rw [HNV.out]; omega)
             have hK8 : Below w0.heap.size w0 w8 := below_size hK6 hB8
             refine step_of_run rfl (.tmp 41) (.tmp 42) 23 rfl _ _ (by simp [Act.eval, Act.put]) (by simp [Act.eval, Act.put]) _ _ hr8 ?_))
      have HEND := Lib.hid (comm_end HG.out HUV.out HVV.out HALL.out HX.out.1 hC6 hF6)
      have HK9 := Lib.hid (below_size G0.out hK9)
      have HN9 := Lib.hid hn9
      clear hC6 hF6 hR6 hB6 hK6 hO7 hB7 hK7 hR8 hB8 hK8 hr8 hn9 hB9 hK9 KEEP HCL HOW HST
      go_wp2_with fail
      go_ret
      exact ⟨_, _, _, rfl, HN9.out.trans HEND.out, HK9.out⟩
--== spec.l12Whole
theorem s_l12Whole {p : Pres} (v1 v2 v3 : Value) (w : World) (hp : RdP w v1 v2 v3 p) (hn : p.n ≤ 6) :
    Calls Try.prog 61 #[.agg #[v1, v2, v3]] w (RetL2 w (unitR p.n p.n)) := by
  obtain ⟨p1, q1, rfl, _, _⟩ := hp.1.formN (n := p.n) rfl
  have hsz : (w.alloc (Obj.cells #[Value.slice p1 p.n q1, v2, v3] 28)).heap.size = w.heap.size + 1 := by simp
  have G0 := Lib.hid (below_alloc w (Obj.cells #[Value.slice p1 p.n q1, v2, v3] 28))
  clear hp
  go_enter Try.func61, Try.ntmps61
  go_wp2_with fail
  refine (s_l02Unit p.n _ (by omega)).mono ?_
  rintro e w5 ⟨u5, rfl, hO, hB⟩
  have HO := Lib.hid (O2.grow hO G0.out.size)
  have HB := Lib.hid (below_size G0.out hB)
  clear hO hB hsz
  go_wp2_with fail
  go_ret
  exact ⟨_, rfl, HO.out, HB.out⟩
--== spec.IsAbelianGroup
theorem unit_mem {p : Pres} (x : List Int) : x ∈ unitR p.n p.n ↔ ∃ k, k < p.n ∧ x = p.uv k := by
  unfold unitR
  rw [List.mem_map]
  constructor
  · rintro ⟨k, hk, rfl⟩; exact ⟨k, List.mem_range.1 hk, rfl⟩
  · rintro ⟨k, hk, rfl⟩; exact ⟨k, List.mem_range.2 hk, rfl⟩
theorem unit_comm {p : Pres} (h : GT p 0) : (∀ x ∈ unitR p.n p.n, ∀ y ∈ unitR p.n p.n, p.at 0 x y = p.at 0 y x) ↔ abB p = true := by
  rw [ab_comm h]
  constructor
  · exact fun H i j hi hj => H _ ((unit_mem _).2 ⟨i, hi, rfl⟩) _ ((unit_mem _).2 ⟨j, hj, rfl⟩)
  · intro H x hx y hy
    obtain ⟨i, hi, rfl⟩ := (unit_mem _).1 hx
    obtain ⟨j, hj, rfl⟩ := (unit_mem _).1 hy
    exact H i j hi hj
set_option maxHeartbeats 4000000 in
theorem s_IsAbelianGroup (v1 v2 v3 : Value) (p : Pres) (w : World) (hp : RdP w v1 v2 v3 p) :
    Calls Try.prog 22 #[.agg #[v1, v2, v3]] w (RetV w (.tuple #[.bool (iaR p), .int .i64 (iaK p)])) := by
  have HP := Lib.hid hp
  obtain ⟨p1, q1, rfl, _, _⟩ := hp.1.form
  obtain ⟨p2, q2, rfl, _, _⟩ := hp.2.1.form
  obtain ⟨p3, q3, rfl, _, _⟩ := hp.2.2.form
  have G0 := Lib.hid (below_alloc w (Obj.cells #[Value.slice p1 p.orders.length q1, Value.slice p2 p.powers.length q2, Value.slice p3 p.conj.length q3] 28))
  have X0 := Lib.hid (Bx.new w (Value.slice p1 p.orders.length q1) (Value.slice p2 p.powers.length q2) (Value.slice p3 p.conj.length q3))
  clear hp
  obtain ⟨cb, hc⟩ : ∃ cb, conB p = cb := ⟨_, rfl⟩
  have HCB := Lib.hid hc
  clear hc
  go_enter Try.func22, Try.ntmps22
  go_wp2_with fail
  generalize w.alloc (Obj.cells #[Value.slice p1 p.orders.length q1, Value.slice p2 p.powers.length q2, Value.slice p3 p.conj.length q3] 28) = w0 at *
  refine (s_l08Group p _ _ _ _ (HP.out.below G0.out)).mono ?_
  rintro e w1 ⟨rfl, hb⟩
  rw [HCB.out]
  have HB1 := Lib.hid hb
  clear hb
  cases cb with
  | false =>
    have hB9 := below_size G0.out HB1.out
    have HX : Hid (iaR p = false ∧ iaK p = 1) := ⟨by unfold iaR; rw [HCB.out]; rfl, by unfold iaK; rw [HCB.out]; rfl⟩
    go_wp2_with fail
    go_ret2
    exact ⟨by rw [HX.out.1, HX.out.2]; rfl, hB9⟩
  | true =>
    obtain ⟨hV, hG⟩ := conB_true HCB.out
    have HV := Lib.hid hV
    have HG := Lib.hid hG
    have hn6 := hV.n6
    have m0 := below_cells HB1.out _ _ X0.out.c0
    have m1 := below_cells HB1.out _ _ X0.out.c1
    have m2 := below_cells HB1.out _ _ X0.out.c2
    clear hV hG
    go_wp2_with fail
    refine (s_l12Whole _ _ _ _ (HP.out.below (below_size G0.out HB1.out)) hn6).mono ?_
    rintro e w2 ⟨u2, rfl, hO2, hB2⟩
    have HB2 := Lib.hid (below_size HB1.out hB2)
    have HR2 := Lib.hid hO2.rd
    have m0 := below_cells HB2.out _ _ X0.out.c0
    have m1 := below_cells HB2.out _ _ X0.out.c1
    have m2 := below_cells HB2.out _ _ X0.out.c2
    clear hO2 hB2
    go_wp2_with fail
    refine (s_l13Comm HV.out HG.out (unitR p.n p.n) (unitR p.n p.n) _ _ _ _ _ _ (HP.out.below (below_size G0.out HB2.out)) HR2.out HR2.out (fun x hx => by
      obtain ⟨k, hk, rfl⟩ := (unit_mem _).1 hx
      exact VI.uv HG.out.vd (Nat.zero_le _) hk) (fun x hx => by
      obtain ⟨k, hk, rfl⟩ := (unit_mem _).1 hx
      exact VI.uv HG.out.vd (Nat.zero_le _) hk) (by rw [unitR_len]; omega) (by rw [unitR_len]; omega)).mono ?_
    rintro e w3 ⟨a3, n3, c3, rfl, hn3, hB3⟩
    have hB9 := below_size G0.out (below_size HB2.out hB3)
    have HX : Hid (iaR p = decide (n3 = 0) ∧ iaK p = 0) := by
      refine ⟨?_, by unfold iaK; rw [HCB.out]; rfl⟩
      unfold iaR
      rw [HCB.out, Bool.true_and]
      have h := hn3.trans (unit_comm HG.out)
      by_cases h0 : n3 = 0
      · rw [h.1 h0, decide_eq_true h0]
      · rw [decide_eq_false h0]
        cases hab : abB p with
        | false => rfl
        | true => exact absurd (h.2 hab) h0
    clear hn3 hB3
    by_cases h0 : n3 = 0
    · subst h0
      go_wp2_with fail
      go_ret2
      exact ⟨by rw [HX.out.1, HX.out.2]; rfl, hB9⟩
    · have h1 : ((n3 : Int) == 0) = false := by simp; omega
      have HX2 : Hid (iaR p = false) := by
        show _ = _
        rw [HX.out.1, decide_eq_false h0]
      go_wp2_with fail
      go_ret2
      exact ⟨by rw [HX2.out, HX.out.2]; rfl, hB9⟩
--== end
end Go.Proofs.Ytjefjhbnkcokhaa
