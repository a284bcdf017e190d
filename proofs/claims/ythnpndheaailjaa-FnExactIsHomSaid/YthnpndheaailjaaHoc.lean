/-
  IsHom: both sides.
-/
import Derived.Test.YthnpndheaailjaaHoa
import Derived.Test.YthnpndheaailjaaHob
namespace Go.Proofs.Ythnpndheaailjaa
set_option linter.unusedVariables false
set_option linter.unusedSimpArgs false
set_option maxRecDepth 100000
open Go.RowKit

--== impl.isHom
set_option maxHeartbeats 8000000 in
theorem i_isHom (b : Nat) (u0 u1 u2 u3 u4 u5 u6 : Value) (s t : Pres) (L : List (List Int)) (w : World) (hx : Hx 57 w b u0 u1 u2 u3 u4 u5 u6) (hr : RdH w u0 u1 u2 u3 u4 u5 u6 s t L) (hn : L.length ≤ 1000000000) :
    Calls Try.prog 105 #[.pointer (some ⟨b, 0, none⟩)] w (RetV w (.bool (homB s t L))) := by
  by_cases hs : conB s = true
  case neg => exact i_isHom_a b u0 u1 u2 u3 u4 u5 u6 s t L w hx hr hn (by simpa using hs)
  by_cases hln : L.length = s.n
  case neg => exact i_isHom_b b u0 u1 u2 u3 u4 u5 u6 s t L w hx hr hn hs hln
  obtain ⟨⟨a0, c0, rfl⟩, ⟨a1, c1, rfl⟩, ⟨a2, c2, rfl⟩, ⟨a3, c3, rfl⟩, ⟨a4, c4, rfl⟩, ⟨a5, c5, rfl⟩, ⟨a6, c6, rfl⟩⟩ := hr.forms
  have H1 := Lib.hid hr.1
  have H2 := Lib.hid hr.2.1
  have HL := Lib.hid hr.2.2
  have HX := Lib.hid hx
  obtain ⟨m0, m1, m2, m3, m4, m5, m6⟩ := hx.cs
  have lx := hx.lt
  have KEEP : Hid (∀ wx, Below w.heap.size w wx → Below w.heap.size w wx ∧ wx.cell? ⟨b, 0, none⟩ = some (Value.slice a0 s.n c0) ∧ wx.cell? ⟨b, 1, none⟩ = some (Value.slice a1 s.powers.length c1) ∧ wx.cell? ⟨b, 2, none⟩ = some (Value.slice a2 s.conj.length c2) ∧ wx.cell? ⟨b, 6, none⟩ = some (Value.slice a6 L.length c6)) := fun wx hb =>
    ⟨hb, below_cells hb _ _ m0, below_cells hb _ _ m1, below_cells hb _ _ m2, below_cells hb _ _ m6⟩
  clear hx hr m0 m1 m2 m3 m4 m5 m6
  have HC : Hid (∀ wx, Below w.heap.size w wx → Calls Try.prog 151 #[.agg #[Value.slice a0 s.n c0, Value.slice a1 s.powers.length c1, Value.slice a2 s.conj.length c2]] wx (RetV wx (.bool true))) := fun wx hb => by
    have := i_IsConsistent _ _ _ s wx (H1.out.below hb)
    rwa [hs] at this
  have HS := Lib.hid hs
  clear hs
  have HLN := Lib.hid hln
  have hl1 : ((L.length : Int) != (s.n : Int)) = false := by simp [hln]
  have hV := (conB_true HS.out).1
  have hn6 := hV.n6
  have hl6 : L.length ≤ 6 := by omega
  have HVs := Lib.hid hV
  have HVd := Lib.hid (validB_true.2 hV)
  clear hln hV
  by_cases he : elsB t L = true
  case neg =>
    have he' : elsB t L = false := by simpa using he
    have HB := Lib.hid (homB_e (s := s) he')
    clear he
    have HE : Hid (∀ wx, Below w.heap.size w wx → Calls Try.prog 152 #[.pointer (some ⟨b, 3, none⟩), .slice a6 L.length c6] wx (RetV wx (.bool false))) := fun wx hb => by
      have := o_areElements _ _ t L wx ((HX.out.below hb lx).ptr (H2.out.below hb)) (HL.out.below hb) hn
      rwa [he'] at this
    clear he'
    go_enter Try.func105, Try.ntmps105
    go_wp2_with fail
    go_region_held3 (fun wx => Below w.heap.size w wx ∧ wx.cell? ⟨b, 0, none⟩ = some (Value.slice a0 s.n c0) ∧ wx.cell? ⟨b, 1, none⟩ = some (Value.slice a1 s.powers.length c1) ∧ wx.cell? ⟨b, 2, none⟩ = some (Value.slice a2 s.conj.length c2) ∧ wx.cell? ⟨b, 6, none⟩ = some (Value.slice a6 L.length c6))
      (first | exact KEEP.out _ (Below.refl _ _).drew | exact KEEP.out _ (below_size (And.left (by assumption)) (by assumption)) | assumption)
      (first
        | ((go_at_call 151); (with_reducible refine (HC.out _ (And.left (by assumption))).mono ?_); (rintro e w2 ⟨rfl, hB2⟩))
        | ((go_at_call 152); (with_reducible refine (HE.out _ (And.left (by assumption))).mono ?_); (rintro e w3 ⟨rfl, hB3⟩)))
    have hB4 : Below w.heap.size w w3 := And.left (by assumption)
    go_wp2_with fail
    go_ret
    exact ⟨ret_bool HB.out.symm, hB4⟩
  obtain ⟨hct, hall⟩ := elsB_true he
  have hat : allT t L = true := List.all_eq_true.2 hall
  have HB := Lib.hid (homB_5 HS.out hct HLN.out hat)
  have HK := Lib.hid (allT_VI hat)
  obtain ⟨hVt, hGt⟩ := conB_true hct
  have HVt := Lib.hid hVt
  have HGt := Lib.hid hGt
  have HWd := Lib.hid (relL_words HVs.out HLN.out)
  have HE : Hid (∀ wx, Below w.heap.size w wx → Calls Try.prog 152 #[.pointer (some ⟨b, 3, none⟩), .slice a6 L.length c6] wx (RetV wx (.bool true))) := fun wx hb => by
    have := o_areElements _ _ t L wx ((HX.out.below hb lx).ptr (H2.out.below hb)) (HL.out.below hb) hn
    rwa [he] at this
  have HRL := Lib.hid (relL_len HVs.out)
  clear he hct hall hat hVt hGt
  go_enter Try.func105, Try.ntmps105
  go_wp2_with fail
  go_region_held3 (fun wx => Below w.heap.size w wx ∧ wx.cell? ⟨b, 0, none⟩ = some (Value.slice a0 s.n c0) ∧ wx.cell? ⟨b, 1, none⟩ = some (Value.slice a1 s.powers.length c1) ∧ wx.cell? ⟨b, 2, none⟩ = some (Value.slice a2 s.conj.length c2) ∧ wx.cell? ⟨b, 6, none⟩ = some (Value.slice a6 L.length c6))
    (first | exact KEEP.out _ (Below.refl _ _).drew | exact KEEP.out _ (below_size (And.left (by assumption)) (by assumption)) | assumption)
    (first
      | ((go_at_call 151); (with_reducible refine (HC.out _ (And.left (by assumption))).mono ?_); (rintro e w2 ⟨rfl, hB2⟩))
      | ((go_at_call 152); (with_reducible refine (HE.out _ (And.left (by assumption))).mono ?_); (rintro e w3 ⟨rfl, hB3⟩)))
  have hB4 : Below w.heap.size w w3 := And.left (by assumption)
  have K := KEEP.out _ hB4
  obtain ⟨_, k0, k1, k2, k6⟩ := K
  clear hB2 hB3 HC HE hl1
  go_wp2_with fail
  refine (i_PresentationRelators' _ _ _ s w3 (H1.out.below hB4) HVd.out).mono ?_
  rintro e w4 ⟨u, rfl, hO, hb⟩
  have HO := Lib.hid (O2.rd hO)
  have gB := Lib.hid (below_size hB4 hb)
  obtain ⟨ar, cr, rfl, _, _⟩ := HO.out.form
  clear hO hb k0 k1 k2 k6 hB4
  have KEEP2 : Hid (∀ wx, Below w4.heap.size w4 wx → Below w4.heap.size w4 wx ∧ wx.cell? ⟨b, 6, none⟩ = some (Value.slice a6 L.length c6)) := fun wx hb =>
    ⟨hb, (KEEP.out _ (below_size gB.out hb)).2.2.2.2⟩
  have HR : Hid (∀ wx, Below w4.heap.size w4 wx → Calls Try.prog 153 #[.slice ar (relL s).length cr, .pointer (some ⟨b, 3, none⟩), .slice a6 L.length c6] wx (RetV wx (.bool (relZ t L (relL s))))) := fun wx hb =>
    i_respects HVt.out HGt.out _ _ _ (relL s) L wx (HO.out.below hb) ((HX.out.below (below_size gB.out hb) lx).ptr (H2.out.below (below_size gB.out hb))) (HL.out.below (below_size gB.out hb)) HWd.out HK.out hl6 (by have := HRL.out; omega)
  go_wp2_with fail
  go_region_held3 (fun wx => Below w4.heap.size w4 wx ∧ wx.cell? ⟨b, 6, none⟩ = some (Value.slice a6 L.length c6))
    (first | exact KEEP2.out _ (Below.refl _ _).drew | exact KEEP2.out _ (below_size (And.left (by assumption)) (by assumption)) | assumption)
    (first
      | ((go_at_call 153); (with_reducible refine (HR.out _ (And.left (by assumption))).mono ?_); (rintro e w5 ⟨rfl, hB5⟩)))
  have hB6 : Below w4.heap.size w4 w5 := And.left (by assumption)
  have gE := below_size gB.out hB6
  rw [← HB.out]
  go_wp2_with fail
  go_ret
  exact ⟨rfl, gE⟩
--== impl.IsHom
theorem i_IsHom (u0 u1 u2 u3 u4 u5 u6 : Value) (s t : Pres) (L : List (List Int)) (w : World) (hr : RdH w u0 u1 u2 u3 u4 u5 u6 s t L) (hn : L.length ≤ 1000000000) :
    Calls Try.prog 41 #[.agg #[u0, u1, u2, u3, u4, u5, u6]] w (RetV w (.bool (homB s t L))) := by
  have HR := Lib.hid hr
  obtain ⟨⟨a0, c0, rfl⟩, ⟨a1, c1, rfl⟩, ⟨a2, c2, rfl⟩, ⟨a3, c3, rfl⟩, ⟨a4, c4, rfl⟩, ⟨a5, c5, rfl⟩, ⟨a6, c6, rfl⟩⟩ := hr.forms
  have g0 := below_alloc w (Obj.cells #[Value.slice a0 s.n c0, Value.slice a1 s.powers.length c1, Value.slice a2 s.conj.length c2, Value.slice a3 t.n c3, Value.slice a4 t.powers.length c4, Value.slice a5 t.conj.length c5, Value.slice a6 L.length c6] 57)
  have HX := Lib.hid (Hx.new 57 w (Value.slice a0 s.n c0) (Value.slice a1 s.powers.length c1) (Value.slice a2 s.conj.length c2) (Value.slice a3 t.n c3) (Value.slice a4 t.powers.length c4) (Value.slice a5 t.conj.length c5) (Value.slice a6 L.length c6))
  clear hr
  go_enter Try.func41, Try.ntmps41
  go_wp2_with fail
  refine (i_isHom _ _ _ _ _ _ _ _ s t L _ HX.out (HR.out.below g0) hn).mono ?_
  rintro e w2 ⟨rfl, hb⟩
  have g2 := below_size g0 hb
  clear hb
  go_wp2_with fail
  go_ret
  exact ⟨rfl, g2⟩
--== spec.IsHom
set_option maxHeartbeats 4000000 in
theorem s_IsHom (u0 u1 u2 u3 u4 u5 u6 : Value) (s t : Pres) (L : List (List Int)) (w : World) (hr : RdH w u0 u1 u2 u3 u4 u5 u6 s t L) (hn : L.length ≤ 1000000000) :
    Calls Try.prog 39 #[.agg #[u0, u1, u2, u3, u4, u5, u6]] w (RetV w (.bool (homB s t L))) := by
  have HR := Lib.hid hr
  obtain ⟨⟨a0, c0, rfl⟩, ⟨a1, c1, rfl⟩, ⟨a2, c2, rfl⟩, ⟨a3, c3, rfl⟩, ⟨a4, c4, rfl⟩, ⟨a5, c5, rfl⟩, ⟨a6, c6, rfl⟩⟩ := hr.forms
  have g0 := Lib.hid (below_alloc w (Obj.cells #[Value.slice a0 s.n c0, Value.slice a1 s.powers.length c1, Value.slice a2 s.conj.length c2, Value.slice a3 t.n c3, Value.slice a4 t.powers.length c4, Value.slice a5 t.conj.length c5, Value.slice a6 L.length c6] 57))
  have HX := Lib.hid (Hx.new 57 w (Value.slice a0 s.n c0) (Value.slice a1 s.powers.length c1) (Value.slice a2 s.conj.length c2) (Value.slice a3 t.n c3) (Value.slice a4 t.powers.length c4) (Value.slice a5 t.conj.length c5) (Value.slice a6 L.length c6))
  clear hr
  by_cases hs : conB s = true
  case neg =>
    have hs' : conB s = false := by simpa using hs
    have HB := Lib.hid (homB_1 (t := t) (L := L) hs')
    clear hs
    go_enter Try.func39, Try.ntmps39
    go_wp2_with fail
    refine (s_l08Group s _ _ _ _ (HR.out.1.below g0.out)).mono ?_
    rintro e w2 ⟨rfl, hb⟩
    have g2 := below_size g0.out hb
    rw [hs']
    clear hb
    go_wp2_with fail
    go_ret
    exact ⟨ret_bool HB.out.symm, g2⟩
  have HS := Lib.hid hs
  by_cases ht : conB t = true
  case neg =>
    have ht' : conB t = false := by simpa using ht
    have HB := Lib.hid (homB_2 (s := s) (L := L) ht')
    clear ht
    go_enter Try.func39, Try.ntmps39
    go_wp2_with fail
    refine (s_l08Group s _ _ _ _ (HR.out.1.below g0.out)).mono ?_
    rintro e w2 ⟨rfl, hb⟩
    have g2 := below_size g0.out hb
    obtain ⟨m0, m1, m2, m3, m4, m5, m6⟩ := (HX.out.below hb HX.out.lt).cs
    rw [hs]
    clear hb hs
    go_wp2_with fail
    refine (s_l08Group t _ _ _ _ (HR.out.2.1.below g2)).mono ?_
    rintro e w3 ⟨rfl, hb⟩
    have g3 := below_size g2 hb
    rw [ht']
    clear hb ht'
    go_wp2_with fail
    go_ret
    exact ⟨ret_bool HB.out.symm, g3⟩
  have HT := Lib.hid ht
  by_cases hln : L.length = s.n
  case neg =>
    have HB := Lib.hid (homB_3 (t := t) hln)
    have hl1 : ((L.length : Int) != (s.n : Int)) = true := by simp; omega
    clear hln
    go_enter Try.func39, Try.ntmps39
    go_wp2_with fail
    refine (s_l08Group s _ _ _ _ (HR.out.1.below g0.out)).mono ?_
    rintro e w2 ⟨rfl, hb⟩
    have g2 := below_size g0.out hb
    have X2 := HX.out.below hb HX.out.lt
    obtain ⟨m0, m1, m2, m3, m4, m5, m6⟩ := X2.cs
    rw [hs]
    clear hb hs
    go_wp2_with fail
    refine (s_l08Group t _ _ _ _ (HR.out.2.1.below g2)).mono ?_
    rintro e w3 ⟨rfl, hb⟩
    have g3 := below_size g2 hb
    clear m0 m1 m2 m3 m4 m5 m6
    obtain ⟨m0, m1, m2, m3, m4, m5, m6⟩ := (X2.below hb X2.lt).cs
    rw [ht]
    clear hb ht
    go_wp2_with fail
    go_ret
    exact ⟨ret_bool HB.out.symm, g3⟩
  have HLN := Lib.hid hln
  have hl1 : ((L.length : Int) != (s.n : Int)) = false := by simp [hln]
  have HVs := Lib.hid (conB_true hs).1
  obtain ⟨hVt, hGt⟩ := conB_true ht
  have HVt := Lib.hid hVt
  have HGt := Lib.hid hGt
  have hn6 := HVs.out.n6
  have hl6 : L.length ≤ 6 := by omega
  have HWd := Lib.hid (relL_words HVs.out hln)
  have HVd := Lib.hid (validB_true.2 HVs.out)
  obtain ⟨fa, hfa⟩ : ∃ fa, allT t L = fa := ⟨_, rfl⟩
  have HFA := Lib.hid hfa
  clear hln hVt hGt
  go_enter Try.func39, Try.ntmps39
  go_wp2_with fail
  refine (s_l08Group s _ _ _ _ (HR.out.1.below g0.out)).mono ?_
  rintro e w2 ⟨rfl, hb⟩
  have g2 := below_size g0.out hb
  have X2 := HX.out.below hb HX.out.lt
  obtain ⟨m0, m1, m2, m3, m4, m5, m6⟩ := X2.cs
  rw [hs]
  clear hb hs
  go_wp2_with fail
  refine (s_l08Group t _ _ _ _ (HR.out.2.1.below g2)).mono ?_
  rintro e w3 ⟨rfl, hb⟩
  have g3 := below_size g2 hb
  have X3 := X2.below hb X2.lt
  clear m0 m1 m2 m3 m4 m5 m6
  obtain ⟨m0, m1, m2, m3, m4, m5, m6⟩ := X3.cs
  rw [ht]
  clear hb ht X2 g2
  go_wp2_with fail
  refine (s_l10Elements HVt.out _ _ _ _ L _ (HR.out.2.1.below g3) (HR.out.2.2.below g3)).mono ?_
  rintro e w4 ⟨rfl, hb⟩
  have g4 := below_size g3 hb
  have X4 := X3.below hb X3.lt
  clear m0 m1 m2 m3 m4 m5 m6
  obtain ⟨m0, m1, m2, m3, m4, m5, m6⟩ := X4.cs
  rw [hfa]
  clear hb hfa X3 g3 hl1
  cases fa with
  | false =>
    have HB := Lib.hid (homB_4 (s := s) HFA.out)
    go_wp2_with fail
    go_ret
    exact ⟨ret_bool HB.out.symm, g4⟩
  | true =>
    have HB := Lib.hid (homB_5 HS.out HT.out HLN.out HFA.out)
    go_wp2_with fail
    refine (s_l16Relators HVd.out HVt.out HGt.out _ _ _ _ _ _ _ L _ (HR.out.1.below g4) (HR.out.2.1.below g4) (HR.out.2.2.below g4) HWd.out (allT_VI HFA.out) hl6).mono ?_
    rintro e w5 ⟨rfl, hb⟩
    have g5 := below_size g4 hb
    rw [← HB.out]
    clear hb
    go_wp2_with fail
    go_ret
    exact ⟨rfl, g5⟩
end Go.Proofs.Ythnpndheaailjaa
