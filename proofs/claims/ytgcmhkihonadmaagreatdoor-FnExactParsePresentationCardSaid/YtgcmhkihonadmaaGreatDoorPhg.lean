/-
  The reference's reader of one relation.
-/
import Derived.Test.YtgcmhkihonadmaaGreatDoorPhf
namespace Go.Proofs.YtgcmhkihonadmaaGreatDoor
set_option linter.unusedVariables false
set_option linter.unusedSimpArgs false
set_option maxRecDepth 100000
open Go.RowKit Go.PlainAid
attribute [local go_sem ↓] Go.wp_at_zero Go.wp_at_succ

theorem bt_of {s : ByteArray} {l r : Txt} {x : UInt8} (h : s.data.toList = l ++ x :: r) : bt s l.length = (x.toNat : Int) := by
  have hz : l.length < s.size := by rw [← data_len, h]; simp
  obtain ⟨y, e, hy⟩ := drop_at hz
  rw [h, List.drop_left] at e
  rw [(List.cons.inj e).1]
  exact hy
theorem splG_le (b : UInt8) : ∀ (t : Txt) (d : List Txt) (c : Txt), ∀ x ∈ splG b d c t, x ∈ d ∨ x.length ≤ c.length + t.length := by
  intro t
  induction t with
  | nil =>
    intro d c x hx
    rcases List.mem_append.1 hx with h | h
    · exact .inl h
    · right; rw [List.mem_singleton.1 h]; omega
  | cons y t ih =>
    intro d c x hx
    rw [splG] at hx
    rw [List.length_cons]
    split at hx
    · rcases ih _ _ x hx with h | h
      · rcases List.mem_append.1 h with h | h
        · exact .inl h
        · right; rw [List.mem_singleton.1 h]; omega
      · right; rw [List.length_nil] at h; omega
    · rcases ih _ _ x hx with h | h
      · exact .inl h
      · right; rw [List.length_append, List.length_singleton] at h; omega
theorem spl_le {b : UInt8} {t x : Txt} (h : x ∈ spl b t) : x.length ≤ t.length := by
  rcases splG_le b t [] [] x h with h | h
  · simp at h
  · simpa using h
/-- what the two sides of a relation of q are -/
structure RelT (n : Nat) (q : Pres) (r : Rln) (a b : ByteArray) : Prop where
  z : a.size = 4
  b0 : bt a 0 = 32
  b1 : bt a 1 = 97 + (r.1 : Int)
  b2 : bt a 2 = 94
  l3 : (a.extract 3 4).data.toList = lhs q r
  b3n : r.2.1 = none → bt a 3 = 48 + q.r r.1
  b3s : ∀ i, r.2.1 = some i → bt a 3 = 97 + (i : Int)
  jn : r.1 < n
  rd : rdOk n b = true
  pb : pB (rdL n b) = true
  vp : vpL n (rdL n b) = r.2.2
theorem relT_of {q : Pres} (hV : ValidP q) {r : Rln} (h : GdR q r) {ss : List ByteArray} {t : Txt} (ht : t = 32 :: rlnT q r) (hs : ss.map (·.data.toList) = spl 61 t) : ∃ a b, ss = [a, b] ∧ RelT q.n q r a b := by
  have hn6 := hV.n6
  have hj := h.j
  have hrk := hV.rk r.1 hj
  rw [ht, spl_rln hV h] at hs
  obtain ⟨a, rest, rfl, ha, hs⟩ := List.map_eq_cons_iff.1 hs
  obtain ⟨b, rest, rfl, hb, hs⟩ := List.map_eq_cons_iff.1 hs
  obtain rfl := List.map_eq_nil_iff.1 hs
  refine ⟨a, b, rfl, ?_⟩
  obtain ⟨k1, k2, k3⟩ := rd_wtx hV h hb
  have hlen : (lhs q r).length = 1 := by
    obtain ⟨j, o, v⟩ := r
    cases o with
    | none =>
      have h2 : 2 ≤ q.r j ∧ q.r j ≤ 7 := hrk
      show (dg (q.r j)).length = 1
      rw [dg_small (by omega) (by omega)]; rfl
    | some i => rfl
  obtain ⟨y, hy⟩ : ∃ y, lhs q r = [y] := List.length_eq_one_iff.1 hlen
  have h0 : a.data.toList = [32, UInt8.ofNat (97 + r.1), 94, y] := by rw [ha, hy]; rfl
  have z : a.size = 4 := by rw [← data_len, h0]; rfl
  have e0 := bt_of (s := a) (l := []) h0
  have e1 := bt_of (s := a) (l := [32]) h0
  have e2 := bt_of (s := a) (l := [32, UInt8.ofNat (97 + r.1)]) h0
  have e3 := bt_of (s := a) (l := [32, UInt8.ofNat (97 + r.1), 94]) h0
  have e1' : (UInt8.ofNat (97 + r.1)).toNat = 97 + r.1 := by rw [UInt8.toNat_ofNat']; omega
  rw [e1'] at e1
  refine ⟨z, e0, by rw [show ([32] : Txt).length = 1 from rfl] at e1; rw [e1]; omega, e2, ?_, fun ho => ?_, fun i ho => ?_, hj, k1, k2, k3⟩
  · rw [Lib.extract_data, h0, hy]; rfl
  · obtain ⟨j, o, v⟩ := r
    obtain rfl : o = none := ho
    have e : dg (q.r j) = [y] := hy
    have h2 : 2 ≤ q.r j ∧ q.r j ≤ 7 := hrk
    rw [dg_small (by omega) (by omega)] at e
    have := (List.cons.inj e).1
    rw [show ([32, UInt8.ofNat (97 + j), 94] : Txt).length = 3 from rfl] at e3
    rw [e3, ← this, UInt8.toNat_ofNat']
    show _ = 48 + q.r j
    omega
  · obtain ⟨j, o, v⟩ := r
    obtain rfl : o = some i := ho
    have e : lt1 i = [y] := hy
    have hi := h.i i rfl
    have hi' : i < j := hi
    unfold lt1 at e
    have := (List.cons.inj e).1
    rw [show ([32, UInt8.ofNat (97 + j), 94] : Txt).length = 3 from rfl] at e3
    rw [e3, ← this, UInt8.toNat_ofNat']
    have hj' : j < q.n := hj
    omega
/-- no relation of a presentation with these orders has this text -/
def NoR (p : Pres) (t : Txt) : Prop := ∀ q r, ValidP q → q.orders = p.orders → GdR q r → t = 32 :: rlnT q r → False
def RelR (w : World) (n : Nat) (p : Pres) (t : Txt) (v1 v2 v3 : Value) (e : Ending) (w' : World) : Prop :=
  Below w.heap.size w w' ∧ ((e = .returned (.tuple #[.agg #[v1, v2, v3], .bool false]) ∧ NoR p t) ∨ ∃ u1 u2 u3 r, e = .returned (.tuple #[.agg #[u1, u2, u3], .bool true]) ∧ OP w' (win w.heap.size w'.heap.size) u1 u2 u3 (setR p r) ∧ InR n r ∧ ∀ q r', ValidP q → q.orders = p.orders → GdR q r' → t = 32 :: rlnT q r' → r' = r)
theorem nor_of {n : Nat} {p : Pres} {t : Txt} {ss : List ByteArray} (hn : p.orders.length = n) (hs : ss.map (·.data.toList) = spl 61 t) (h : ∀ q r a b, q.orders = p.orders → ss = [a, b] → RelT n q r a b → False) : NoR p t := fun q r hV ho hr ht => by
  obtain ⟨a, b, e, hR⟩ := relT_of hV hr ht hs
  have hqn : q.n = n := by unfold Pres.n; rw [ho, hn]
  rw [hqn] at hR
  exact h q r a b ho e hR
theorem op_out {w0 wx : World} {S : Nat → Prop} {b : Nat} {v1 v2 v3 : Value} {P : Pres} (h : OP wx S v1 v2 v3 P) (hS : ∀ k, S k → w0.heap.size ≤ k ∧ k ≠ b) (hB : Below w0.heap.size w0 wx) (hb : w0.heap.size ≤ b) :
    OP (((wx.setCell ⟨b, 0, none⟩ v1).setCell ⟨b, 1, none⟩ v2).setCell ⟨b, 2, none⟩ v3) (win w0.heap.size (((wx.setCell ⟨b, 0, none⟩ v1).setCell ⟨b, 1, none⟩ v2).setCell ⟨b, 2, none⟩ v3).heap.size) v1 v2 v3 P ∧ Below w0.heap.size w0 (((wx.setCell ⟨b, 0, none⟩ v1).setCell ⟨b, 1, none⟩ v2).setCell ⟨b, 2, none⟩ v3) :=
  ⟨OP.sub (OP.sets (OP.sets (OP.sets h (b := b) (fun hh => (hS b hh).2 rfl) 0 _) (b := b) (fun hh => (hS b hh).2 rfl) 1 _) (b := b) (fun hh => (hS b hh).2 rfl) 2 _) (fun k hk hh => ⟨(hS k hh).1, hk⟩),
    ((hB.setCell (p := ⟨b, 0, none⟩) hb _).setCell (p := ⟨b, 1, none⟩) hb _).setCell (p := ⟨b, 2, none⟩) hb _⟩
theorem lt_ne_dg {i : Nat} {o : Int} (hi : i ≤ 6) (h0 : 2 ≤ o) (h1 : o ≤ 7) (h : lt1 i = dg o) : False := by
  rw [dg_small (by omega) (by omega)] at h
  unfold lt1 at h
  have h2 := congrArg UInt8.toNat (List.cons.inj h).1
  rw [UInt8.toNat_ofNat', UInt8.toNat_ofNat'] at h2
  omega
--== spec.l07Relation
set_option maxHeartbeats 8000000 in
theorem s_l07Relation {n : Nat} {p : Pres} (hW : WS n p) (hn : n ≤ 6) (v1 v2 v3 : Value) (s : ByteArray) (w : World) (hp : RdP w v1 v2 v3 p) (hs : s.size ≤ 2000000) :
    Calls Tryz.prog 12 #[.agg #[v1, v2, v3], .string s] w (RelR w n p s.data.toList v1 v2 v3) := by
  obtain ⟨ao1, aq1, rfl, _, _⟩ := hp.1.formN hW.on
  obtain ⟨ao2, aq2, rfl, _, _⟩ := hp.2.1.formN hW.pl
  obtain ⟨ao3, aq3, rfl, _, _⟩ := hp.2.2.formN hW.cl
  have HWS := Lib.hid hW
  have g2 := below_allocs2 w (Obj.cells #[Value.slice ao1 n aq1, Value.slice ao2 n aq2, Value.slice ao3 n aq3] 26) (Obj.cells #[Value.slice none 0 0, Value.slice none 0 0, Value.slice none 0 0] 26)
  have xa := (Bx.new w (Value.slice ao1 n aq1) (Value.slice ao2 n aq2) (Value.slice ao3 n aq3)).old (Obj.cells #[Value.slice none 0 0, Value.slice none 0 0, Value.slice none 0 0] 26)
  have xb := Bx.new (w.alloc (Obj.cells #[Value.slice ao1 n aq1, Value.slice ao2 n aq2, Value.slice ao3 n aq3] 26)) (Value.slice none 0 0) (Value.slice none 0 0) (Value.slice none 0 0)
  rw [show (w.alloc (Obj.cells #[Value.slice ao1 n aq1, Value.slice ao2 n aq2, Value.slice ao3 n aq3] 26)).heap.size = w.heap.size + 1 by simp] at xb
  have HPd := Lib.hid (hp.below g2)
  have HG2 := Lib.hid g2
  have HSP : Hid (∀ wx, Calls Tryz.prog 9 #[.string s, .int .u8 61] wx (RetStrs wx (spl 61 s.data.toList))) := fun wx => s_l01Split s 61 wx (by omega)
  clear hW hp g2
  have HPB : Hid (w.heap.size ≤ w.heap.size + 1) := Nat.le_succ _
  go_enter Tryz.func12, Tryz.ntmps12
  go_wp2_with fail
  generalize (w.alloc (Obj.cells #[Value.slice ao1 n aq1, Value.slice ao2 n aq2, Value.slice ao3 n aq3] 26)).alloc (Obj.cells #[Value.slice none 0 0, Value.slice none 0 0, Value.slice none 0 0] 26) = w2 at *
  obtain ⟨pa, hpa⟩ : ∃ x, x = w.heap.size := ⟨_, rfl⟩
  generalize hpb : w.heap.size + 1 = pb at *
  rw [← hpa] at xa ⊢
  have hab : pa ≠ pb := by omega
  clear hpa hpb
  have HXA := Lib.hid xa
  have HXB := Lib.hid xb
  clear xa xb
  refine (HSP.out _).mono ?_
  rintro e w3 ⟨sv, ss, rfl, hSS, hss, hB3⟩
  have HSS := Lib.hid hss
  have hW3 := below_size HG2.out hB3
  have xa := HXA.out.below hB3 HXA.out.lt
  have xb := HXB.out.below hB3 HXB.out.lt
  have HXA3 := Lib.hid xa
  have HXB3 := Lib.hid xb
  have HB3 := Lib.hid hB3
  have HW3 := Lib.hid hW3
  have a0 := xa.c0
  have a1 := xa.c1
  have a2 := xa.c2
  have la := xa.lt
  clear hB3 hW3 xa xb hss
  by_cases h2 : ss.length = 2
  case neg =>
    have HNO : Hid (NoR p s.data.toList) := nor_of HWS.out.on HSS.out fun q r a b _ e _ => h2 (by rw [e]; rfl)
    obtain ⟨sa, sc, rfl, hsc⟩ := hSS.form
    have h2I : ((ss.length : Int) != 2) = true := by rw [bne_iff_ne]; omega
    clear hSS
    have x5 := HXB3.out
    have m0 := x5.c0
    have m1 := x5.c1
    have m2 := x5.c2
    have f0 := x5.fr 0
    have f1 := x5.fr 1
    have f2 := x5.fr 2
    have l5 := x5.lt
    have HBE := Lib.hid (HW3.out)
    go_wp2_with fail
    refine bodyPost_ret (v := .tuple #[.agg #[.slice ao1 n aq1, .slice ao2 n aq2, .slice ao3 n aq3], .bool false]) (by simp [results, Tryz.results12, go_sem, m0, m1, m2]) rfl ⟨?_, .inl ⟨rfl, HNO.out⟩⟩
    exact ((HBE.out.setCell (p := ⟨pb, 0, none⟩) HPB.out _).setCell (p := ⟨pb, 1, none⟩) HPB.out _).setCell (p := ⟨pb, 2, none⟩) HPB.out _
  match ss, h2 with
  | [a, b], _ =>
  obtain ⟨sa, sc, rfl, hsc⟩ := hSS.formN (n := 2) rfl
  obtain ⟨g, rfl, hgl, hgw, hca⟩ := hSS.at (j := 0) (s := a) rfl
  obtain ⟨g', e, _, _, hcb⟩ := hSS.at (j := 1) (s := b) rfl
  simp only [Option.some.injEq, Addr.mk.injEq] at e
  obtain ⟨rfl, _⟩ := e
  have hbs : b.size ≤ 100000000 := by
    have := spl_le (b := 61) (t := s.data.toList) (x := b.data.toList) (by rw [← HSS.out]; simp)
    rw [data_len, data_len] at this
    omega
  have hbt := get_bt a
  have hb0 := bt_nonneg a
  have hb1 := bt_le a
  clear hSS
  by_cases hz : a.size = 4
  case neg =>
    have HNO : Hid (NoR p s.data.toList) := nor_of HWS.out.on HSS.out fun q r a' b' _ e h => by
      simp only [List.cons.injEq] at e
      exact hz (by rw [e.1]; exact h.z)
    have hzI : ((a.size : Int) != 4) = true := by rw [bne_iff_ne]; omega
    have x5 := HXB3.out
    have m0 := x5.c0
    have m1 := x5.c1
    have m2 := x5.c2
    have f0 := x5.fr 0
    have f1 := x5.fr 1
    have f2 := x5.fr 2
    have l5 := x5.lt
    have HBE := Lib.hid (HW3.out)
    go_wp2_with fail
    refine bodyPost_ret (v := .tuple #[.agg #[.slice ao1 n aq1, .slice ao2 n aq2, .slice ao3 n aq3], .bool false]) (by simp [results, Tryz.results12, go_sem, m0, m1, m2]) rfl ⟨?_, .inl ⟨rfl, HNO.out⟩⟩
    exact ((HBE.out.setCell (p := ⟨pb, 0, none⟩) HPB.out _).setCell (p := ⟨pb, 1, none⟩) HPB.out _).setCell (p := ⟨pb, 2, none⟩) HPB.out _
  have hzI : ((a.size : Int) != 4) = false := by rw [hz]; rfl
  by_cases h0 : bt a 0 = 32
  case neg =>
    have HNO : Hid (NoR p s.data.toList) := nor_of HWS.out.on HSS.out fun q r a' b' _ e h => by
      simp only [List.cons.injEq] at e
      exact h0 (by rw [e.1]; exact h.b0)
    have h0I : (bt a 0 != 32) = true := by rw [bne_iff_ne]; exact h0
    have x5 := HXB3.out
    have m0 := x5.c0
    have m1 := x5.c1
    have m2 := x5.c2
    have f0 := x5.fr 0
    have f1 := x5.fr 1
    have f2 := x5.fr 2
    have l5 := x5.lt
    have HBE := Lib.hid (HW3.out)
    go_wp2_with fail
    refine bodyPost_ret (v := .tuple #[.agg #[.slice ao1 n aq1, .slice ao2 n aq2, .slice ao3 n aq3], .bool false]) (by simp [results, Tryz.results12, go_sem, m0, m1, m2]) rfl ⟨?_, .inl ⟨rfl, HNO.out⟩⟩
    exact ((HBE.out.setCell (p := ⟨pb, 0, none⟩) HPB.out _).setCell (p := ⟨pb, 1, none⟩) HPB.out _).setCell (p := ⟨pb, 2, none⟩) HPB.out _
  by_cases h2 : bt a 2 = 94
  case neg =>
    have HNO : Hid (NoR p s.data.toList) := nor_of HWS.out.on HSS.out fun q r a' b' _ e h => by
      simp only [List.cons.injEq] at e
      exact h2 (by rw [e.1]; exact h.b2)
    have h2I : (bt a 2 != 94) = true := by rw [bne_iff_ne]; exact h2
    have x5 := HXB3.out
    have m0 := x5.c0
    have m1 := x5.c1
    have m2 := x5.c2
    have f0 := x5.fr 0
    have f1 := x5.fr 1
    have f2 := x5.fr 2
    have l5 := x5.lt
    have HBE := Lib.hid (HW3.out)
    go_wp2_with fail
    refine bodyPost_ret (v := .tuple #[.agg #[.slice ao1 n aq1, .slice ao2 n aq2, .slice ao3 n aq3], .bool false]) (by simp [results, Tryz.results12, go_sem, m0, m1, m2]) rfl ⟨?_, .inl ⟨rfl, HNO.out⟩⟩
    exact ((HBE.out.setCell (p := ⟨pb, 0, none⟩) HPB.out _).setCell (p := ⟨pb, 1, none⟩) HPB.out _).setCell (p := ⟨pb, 2, none⟩) HPB.out _
  have HRP : Hid (∀ wx, Calls Tryz.prog 30 #[.int .i64 n, .string b] wx (RetIntsB wx (rdL n b) (rdOk n b))) := fun wx => s_l06Parse n b wx (by omega) (by omega) hbs
  have HLS := Lib.hid (rdL_lt (n := n) (s := b))
  have hll : (rdL n b).length ≤ 100000000 := Nat.le_trans rdL_len hbs
  have HRT : Hid (∀ q r a' b', q.orders = p.orders → [a, b] = [a', b'] → RelT n q r a' b' → rdOk n b = true ∧ pB (rdL n b) = true ∧ vpL n (rdL n b) = r.2.2 ∧ bt a 1 = 97 + (r.1 : Int) ∧ r.1 < n ∧ (r.2.1 = none → bt a 3 = 48 + q.r r.1) ∧ (∀ i, r.2.1 = some i → bt a 3 = 97 + (i : Int)) ∧ (a.extract 3 4).data.toList = lhs q r) := fun q r a' b' _ e h => by
    simp only [List.cons.injEq] at e
    obtain ⟨rfl, rfl, _⟩ := e
    exact ⟨h.rd, h.pb, h.vp, h.b1, h.jn, h.b3n, h.b3s, h.l3⟩
  generalize rdOk n b = ob at *
  go_wp2_with fail
  refine (HRP.out _).mono ?_
  rintro e w4 ⟨wv, rfl, hI4, hB4⟩
  have HB4 := Lib.hid (below_size HB3.out hB4)
  have HW4 := Lib.hid (below_size HW3.out hB4)
  have HXA4 := Lib.hid (HXA3.out.below hB4 HXA3.out.lt)
  have HXB4 := Lib.hid (HXB3.out.below hB4 HXB3.out.lt)
  have hca4 := below_cells hB4 _ _ hca
  have HI4 := Lib.hid hI4.rd
  obtain ⟨av, cv, rfl, _, _⟩ := hI4.rd.form
  clear hca hcb a0 a1 a2 la hI4 hB4
  have a0 := HXA4.out.c0
  have a1 := HXA4.out.c1
  have a2 := HXA4.out.c2
  have la := HXA4.out.lt
  by_cases hob : ob = true
  case neg =>
    obtain rfl : ob = false := by simpa using hob
    have HNO : Hid (NoR p s.data.toList) := nor_of HWS.out.on HSS.out fun q r a' b' ho e h => Bool.false_ne_true (HRT.out q r a' b' ho e h).1
    have x5 := HXB4.out
    have m0 := x5.c0
    have m1 := x5.c1
    have m2 := x5.c2
    have f0 := x5.fr 0
    have f1 := x5.fr 1
    have f2 := x5.fr 2
    have l5 := x5.lt
    have HBE := Lib.hid (HW4.out)
    go_wp2_with fail
    refine bodyPost_ret (v := .tuple #[.agg #[.slice ao1 n aq1, .slice ao2 n aq2, .slice ao3 n aq3], .bool false]) (by simp [results, Tryz.results12, go_sem, m0, m1, m2]) rfl ⟨?_, .inl ⟨rfl, HNO.out⟩⟩
    exact ((HBE.out.setCell (p := ⟨pb, 0, none⟩) HPB.out _).setCell (p := ⟨pb, 1, none⟩) HPB.out _).setCell (p := ⟨pb, 2, none⟩) HPB.out _
  subst hob
  have HVC : Hid (∀ wx, Rd wx (.slice av (rdL n b).length cv) (rdL n b) → Calls Tryz.prog 31 #[.int .i64 n, .slice av (rdL n b).length cv] wx (RetIntsB wx (vpL n (rdL n b)) (pB (rdL n b)))) := fun wx hr => s_l07VectorG n _ _ wx hr HLS.out (by omega) hll
  have HVL : Hid (pB (rdL n b) = true → (vpL n (rdL n b)).length = n) := fun h => by rw [vpL_yes h]; exact vecL_len _ _
  generalize vpL n (rdL n b) = V at *
  generalize pB (rdL n b) = pb' at *
  go_wp2_with fail
  refine (HVC.out _ HI4.out).mono ?_
  rintro e w5 ⟨v, rfl, hI5, hB5⟩
  have HB5 := Lib.hid (below_size HB4.out hB5)
  have HW5 := Lib.hid (below_size HW4.out hB5)
  have HXA5 := Lib.hid (HXA4.out.below hB5 HXA4.out.lt)
  have HXB5 := Lib.hid (HXB4.out.below hB5 HXB4.out.lt)
  have hca5 := below_cells hB5 _ _ hca4
  have HZ5 := Lib.hid hB5.size
  have HI5 := Lib.hid hI5
  obtain ⟨a9, n9, c9, rfl⟩ : ∃ a9 n9 c9, v = .slice a9 n9 c9 := by obtain ⟨a9, c9, e, _⟩ := hI5.form; exact ⟨a9, _, c9, e⟩
  clear hca4 a0 a1 a2 la hI5 hB5
  have a0 := HXA5.out.c0
  have a1 := HXA5.out.c1
  have a2 := HXA5.out.c2
  have la := HXA5.out.lt
  have hd0 := hb0 1
  have hd1 := hb1 1
  have hd2 := hb0 3
  have hd3 := hb1 3
  have hbt1 : ((a[1]'(by omega)).toNat : Int) = bt a 1 := hbt 1 (by omega)
  have hbt3 : ((a[3]'(by omega)).toNat : Int) = bt a 3 := hbt 3 (by omega)
  have hz1 : (1 : Int) < (a.size : Int) := by omega
  have hz3 : (3 : Int) < (a.size : Int) := by omega
  have W1 : IntKind.i64.wrap (bt a 1) = bt a 1 := IntWalk.i64_in _ (by omega)
  have W3 : IntKind.i64.wrap (bt a 3) = bt a 3 := IntWalk.i64_in _ (by omega)
  have W4 : IntKind.i64.wrap (bt a 1 - 97) = bt a 1 - 97 := IntWalk.i64_in _ (by omega)
  have W5 : IntKind.i64.wrap (bt a 3 - 97) = bt a 3 - 97 := IntWalk.i64_in _ (by omega)
  go_upto_region 9 with fail
  go_cut [12, 13] (fun u t wx => u = .int .i64 (bt a 1 - 97) ∧ t = .int .i64 (bt a 3 - 97) ∧ wx = w5.drew)
  case first =>
    go_region
    all_goals (go_wp2_with fail; go_meet; exact ⟨rfl, rfl, rfl⟩)
  case rest =>
    obtain ⟨rfl, rfl, rfl⟩ := hcut
    have hB6 : Below w5.heap.size w5 w5.drew := (Below.refl _ _).drew
    have HB6 := Lib.hid (below_size HB5.out hB6)
    have HW6 := Lib.hid (below_size HW5.out hB6)
    have HXA6 := Lib.hid (HXA5.out.below hB6 HXA5.out.lt)
    have HXB6 := Lib.hid (HXB5.out.below hB6 HXB5.out.lt)
    have hca6 := below_cells hB6 _ _ hca5
    have HI6 : Hid (Ints w5.drew w4.heap.size (.slice a9 n9 c9) V) := own_below HI5.out hB6
    have HZ6 : Hid (w5.heap.size ≤ w5.drew.heap.size) := hB6.size
    have HIL := Lib.hid (fun g hg => own_lt HI5.out (g := g) hg)
    clear hca5 a0 a1 a2 la hB6 W1 W3 W4 W5
    generalize w5.drew = w6 at *
    have a0 := HXA6.out.c0
    have a1 := HXA6.out.c1
    have a2 := HXA6.out.c2
    have la := HXA6.out.lt
    by_cases hpb : pb' = true
    case neg =>
      obtain rfl : pb' = false := by simpa using hpb
      have HNO : Hid (NoR p s.data.toList) := nor_of HWS.out.on HSS.out fun q r a' b' ho e h => Bool.false_ne_true (HRT.out q r a' b' ho e h).2.1
      have x5 := HXB6.out
      have m0 := x5.c0
      have m1 := x5.c1
      have m2 := x5.c2
      have f0 := x5.fr 0
      have f1 := x5.fr 1
      have f2 := x5.fr 2
      have l5 := x5.lt
      have HBE := Lib.hid (HW6.out)
      go_wp2_with fail
      refine bodyPost_ret (v := .tuple #[.agg #[.slice ao1 n aq1, .slice ao2 n aq2, .slice ao3 n aq3], .bool false]) (by simp [results, Tryz.results12, go_sem, m0, m1, m2]) rfl ⟨?_, .inl ⟨rfl, HNO.out⟩⟩
      exact ((HBE.out.setCell (p := ⟨pb, 0, none⟩) HPB.out _).setCell (p := ⟨pb, 1, none⟩) HPB.out _).setCell (p := ⟨pb, 2, none⟩) HPB.out _
    subst hpb
    obtain ⟨x, hx⟩ : ∃ x, bt a 1 - 97 = x := ⟨_, rfl⟩
    obtain ⟨y, hy⟩ : ∃ y, bt a 3 - 97 = y := ⟨_, rfl⟩
    have HX := Lib.hid hx
    have HY := Lib.hid hy
    rw [hx, hy]
    clear hx hy
    by_cases hx0 : 0 ≤ x
    case neg =>
      have HNO : Hid (NoR p s.data.toList) := nor_of HWS.out.on HSS.out fun q r a' b' ho e h => by
        have e1 := (HRT.out q r a' b' ho e h).2.2.2.1
        have := HX.out
        omega
      have hx1 : x < 0 := by omega
      have x5 := HXB6.out
      have m0 := x5.c0
      have m1 := x5.c1
      have m2 := x5.c2
      have f0 := x5.fr 0
      have f1 := x5.fr 1
      have f2 := x5.fr 2
      have l5 := x5.lt
      have HBE := Lib.hid (HW6.out)
      go_wp2_with fail
      refine bodyPost_ret (v := .tuple #[.agg #[.slice ao1 n aq1, .slice ao2 n aq2, .slice ao3 n aq3], .bool false]) (by simp [results, Tryz.results12, go_sem, m0, m1, m2]) rfl ⟨?_, .inl ⟨rfl, HNO.out⟩⟩
      exact ((HBE.out.setCell (p := ⟨pb, 0, none⟩) HPB.out _).setCell (p := ⟨pb, 1, none⟩) HPB.out _).setCell (p := ⟨pb, 2, none⟩) HPB.out _
    have hx1 : ¬ x < 0 := by omega
    by_cases hxn : x < n
    case neg =>
      have HNO : Hid (NoR p s.data.toList) := nor_of HWS.out.on HSS.out fun q r a' b' ho e h => by
        obtain ⟨_, _, _, e1, e2, _⟩ := HRT.out q r a' b' ho e h
        have := HX.out
        omega
      have hxn1 : (n : Int) ≤ x := by omega
      have x5 := HXB6.out
      have m0 := x5.c0
      have m1 := x5.c1
      have m2 := x5.c2
      have f0 := x5.fr 0
      have f1 := x5.fr 1
      have f2 := x5.fr 2
      have l5 := x5.lt
      have HBE := Lib.hid (HW6.out)
      go_wp2_with fail
      refine bodyPost_ret (v := .tuple #[.agg #[.slice ao1 n aq1, .slice ao2 n aq2, .slice ao3 n aq3], .bool false]) (by simp [results, Tryz.results12, go_sem, m0, m1, m2]) rfl ⟨?_, .inl ⟨rfl, HNO.out⟩⟩
      exact ((HBE.out.setCell (p := ⟨pb, 0, none⟩) HPB.out _).setCell (p := ⟨pb, 1, none⟩) HPB.out _).setCell (p := ⟨pb, 2, none⟩) HPB.out _
    obtain ⟨X, rfl⟩ : ∃ X : Nat, x = (X : Int) := ⟨x.toNat, by omega⟩
    have hX : X < n := by omega
    clear hx0 hx1
    have hxn1 : ¬ (n : Int) ≤ (X : Int) := by omega
    go_wp2_with fail
    refine (s_l07Own HWS.out hn _ _ _ _ (HPd.out.below HB6.out)).mono ?_
    rintro e w7 ⟨q1, q2, q3, rfl, hP7, hB7⟩
    obtain ⟨⟨q1, z1, rfl⟩, ⟨q2, z2, rfl⟩, ⟨q3, z3, rfl⟩⟩ := hP7.formsN HWS.out.on HWS.out.pl HWS.out.cl
    have HB7 := Lib.hid (below_size HB6.out hB7)
    have HW7 := Lib.hid (below_size HW6.out hB7)
    have HXA7 := Lib.hid (HXA6.out.below hB7 HXA6.out.lt)
    have HXB7 := Lib.hid (HXB6.out.below hB7 HXB6.out.lt)
    have hca7 := below_cells hB7 _ _ hca6
    have HI7 : Hid (Ints w7 w4.heap.size (.slice a9 n9 c9) V) := own_below HI6.out hB7
    have HP7 := Lib.hid hP7
    have HZ7 := Lib.hid hB7.size
    clear hca6 a0 a1 a2 la hP7 hB7
    have a0 := HXA7.out.c0
    have a1 := HXA7.out.c1
    have a2 := HXA7.out.c2
    have la := HXA7.out.lt
    go_upto_region 13 with fail
    have hB8 := below_alloc w7 (Obj.cells #[Value.slice q1 n z1, Value.slice q2 n z2, Value.slice q3 n z3] 26)
    have HXQ8 := Lib.hid (Bx.new w7 (Value.slice q1 n z1) (Value.slice q2 n z2) (Value.slice q3 n z3))
    have HB8 := Lib.hid (below_size HB7.out hB8)
    have HW8 := Lib.hid (below_size HW7.out hB8)
    have HXA8 := Lib.hid (HXA7.out.below hB8 HXA7.out.lt)
    have HXB8 := Lib.hid (HXB7.out.below hB8 HXB7.out.lt)
    have hca8 := below_cells hB8 _ _ hca7
    have HI8 : Hid (Ints (w7.alloc (Obj.cells #[Value.slice q1 n z1, Value.slice q2 n z2, Value.slice q3 n z3] 26)) w4.heap.size (.slice a9 n9 c9) V) := own_below HI7.out hB8
    have HP8 : Hid (OP (w7.alloc (Obj.cells #[Value.slice q1 n z1, Value.slice q2 n z2, Value.slice q3 n z3] 26)) (win w6.heap.size w7.heap.size) (.slice q1 n z1) (.slice q2 n z2) (.slice q3 n z3) p) := OP.below HP7.out hB8
    have HZ8 : Hid (w7.heap.size < (w7.alloc (Obj.cells #[Value.slice q1 n z1, Value.slice q2 n z2, Value.slice q3 n z3] 26)).heap.size) := by show _ < _; simp
    clear hca7 a0 a1 a2 la hB8
    generalize w7.alloc (Obj.cells #[Value.slice q1 n z1, Value.slice q2 n z2, Value.slice q3 n z3] 26) = w8 at *
    obtain ⟨qb, hqb⟩ : ∃ qb, qb = w7.heap.size := ⟨_, rfl⟩
    rw [← hqb] at HXQ8 HP8 HZ8 HZ7 ⊢
    clear hqb
    have hbd := primesB_at HWS.out.pr (getD_mem (xs := p.orders) (show X < p.orders.length by rw [HWS.out.on]; exact hX))
    obtain ⟨bo, oo, rfl, hco⟩ := (HPd.out.1.below HB8.out).at (show X < p.orders.length by rw [HWS.out.on]; exact hX)
    obtain ⟨o, ho⟩ : ∃ o, p.orders.getD X 0 = o := ⟨_, rfl⟩
    rw [ho] at hbd hco
    have HO := Lib.hid ho
    clear ho
    have a0 := HXA8.out.c0
    have lq := HXQ8.out.lt
    have lg : g < w8.heap.size := by have := HZ8.out; have := HB8.out.size; have := World.block_lt_of_cell? _ _ hca8; omega
    have hz4 : (3 : Int) ≤ (a.size : Int) := by omega
    have KEEP : Hid (∀ wx, Below w8.heap.size w8 wx → wx.cell? ⟨g, 0, none⟩ = some (.string a) ∧ wx.cell? ⟨pa, 0, none⟩ = some (.slice (some ⟨bo, oo, none⟩) n aq1) ∧ wx.cell? ⟨bo, oo + X, none⟩ = some (.int .i64 o)) := fun wx hb => ⟨below_cells hb _ _ hca8, below_cells hb _ _ a0, below_cells hb _ _ hco⟩
    obtain ⟨db, hdb⟩ : ∃ db, ((a.extract 3 4).data.toList == dg o) = db := ⟨_, rfl⟩
    have HDB := Lib.hid hdb
    clear hdb
    go_cut [98] (fun t wx => t = .bool db ∧ Below w8.heap.size w8 wx)
    case first =>
      go_region_held3 (fun wx => wx.cell? ⟨g, 0, none⟩ = some (.string a) ∧ wx.cell? ⟨pa, 0, none⟩ = some (.slice (some ⟨bo, oo, none⟩) n aq1) ∧ wx.cell? ⟨bo, oo + X, none⟩ = some (.int .i64 o))
        (first
          | exact KEEP.out _ (Below.refl _ _)
          | exact KEEP.out _ (Below.refl _ _).drew
          | exact KEEP.out _ hB9)
        (first
          | (go_at_call 33; with_reducible refine (s_l01Dec1 o _ (by omega) (by omega)).mono ?_; rintro e w9 ⟨d, rfl, hd, hB9'⟩; have hB9 := below_size (Below.refl w8.heap.size w8).drew hB9'; have hdb : ((a.extract 3 4).toList == d.toList) = db := (by rw [← HDB.out, ByteArray.toList_eq, ByteArray.toList_eq, hd])))
      all_goals (go_wp2_with fail; go_meet; exact ⟨rfl, hB9⟩)
    case rest =>
      obtain ⟨rfl, hB9⟩ := hcut
      have HW9 := Lib.hid (below_size HW8.out hB9)
      have HXA9 := Lib.hid (HXA8.out.below hB9 HXA8.out.lt)
      have HXB9 := Lib.hid (HXB8.out.below hB9 HXB8.out.lt)
      have HXQ9 := Lib.hid (HXQ8.out.below hB9 HXQ8.out.lt)
      have HI9 := Lib.hid (Ints.below HI8.out hB9)
      have HP9 := Lib.hid (OP.below (OP.sub (S' := fun k => win w6.heap.size qb k ∧ k < w8.heap.size) HP8.out (fun k hk hh => ⟨hh, hk⟩)) hB9)
      have HQZ : Hid (qb < wc.heap.size) := HXQ9.out.lt
      have HL4 : Hid (pb < w4.heap.size) := HXB4.out.lt
      have HO1 : Hid (O1 wc (fun k => w4.heap.size ≤ k ∧ k < w5.heap.size) (.slice a9 n9 c9) V) := ⟨HI9.out.mono (Nat.zero_le _), fun g hg => HIL.out g hg⟩
      have HSZ : Hid (w5.heap.size ≤ w6.heap.size ∧ w4.heap.size ≤ w6.heap.size ∧ w6.heap.size ≤ qb) := by
        have h1 := HZ5.out
        have h2 := HZ6.out
        have h3 := HZ7.out
        exact ⟨h2, by omega, h3⟩
      clear a0 lq lg hco hca8 hB9
      have HSET : Hid (∀ (q1' q2' q3' : Value) (P' : Pres) (wx : World), OP wx (fun k => (win w6.heap.size qb k ∧ k < w8.heap.size) ∨ (w4.heap.size ≤ k ∧ k < w5.heap.size)) q1' q2' q3' P' → Below w.heap.size w wx → OP (((wx.setCell ⟨pb, 0, none⟩ q1').setCell ⟨pb, 1, none⟩ q2').setCell ⟨pb, 2, none⟩ q3') (win w.heap.size (((wx.setCell ⟨pb, 0, none⟩ q1').setCell ⟨pb, 1, none⟩ q2').setCell ⟨pb, 2, none⟩ q3').heap.size) q1' q2' q3' P' ∧ Below w.heap.size w (((wx.setCell ⟨pb, 0, none⟩ q1').setCell ⟨pb, 1, none⟩ q2').setCell ⟨pb, 2, none⟩ q3')) := fun _ _ _ P' wx h hb => op_out h (fun k hk => by
        have h1 := HSZ.out
        have h2 := HL4.out
        have h3 := HW4.out.size
        rcases hk with ⟨⟨hk, _⟩, _⟩ | ⟨hk, _⟩ <;> exact ⟨by omega, by omega⟩) hb HPB.out
      by_cases hdt : (a.extract 3 4).data.toList = dg o
      · obtain rfl : db = true := by rw [← HDB.out]; exact beq_iff_eq.2 hdt
        have HU : Hid (∀ q r', ValidP q → q.orders = p.orders → GdR q r' → s.data.toList = 32 :: rlnT q r' → r' = (X, none, V)) := fun q r' hV ho hr ht => by
          obtain ⟨a', b', e, h⟩ := relT_of hV hr ht HSS.out
          have hqn : q.n = n := by unfold Pres.n; rw [ho, HWS.out.on]
          rw [hqn] at h
          obtain ⟨_, _, e1, e2, e3, e4, e5, e6⟩ := HRT.out q r' a' b' ho e h
          obtain ⟨j, jo, jv⟩ := r'
          have hj : j = X := by have h1 := HX.out; have h2 : bt a 1 = 97 + (j : Int) := e2; omega
          cases jo with
          | none => rw [hj, e1]
          | some i =>
            exfalso
            have hi := hr.i i rfl
            have hi' : i < j := hi
            exact lt_ne_dg (i := i) (by omega) hbd.1 hbd.2 (e6.symm.trans hdt)
        obtain ⟨gp, cap, e, ⟨rx, hr1⟩, hr2, hSg, hOP⟩ := op_setPw HP9.out (j := X) (by rw [HWS.out.pl]; exact hX) HO1.out (fun k hk hh => by have h1 := HSZ.out; have h2 := hk.2; have h3 := hh.1.1; omega)
        simp only [Value.slice.injEq] at e
        obtain ⟨rfl, hnn, rfl⟩ := e
        clear hnn
        have hne : qb ≠ gp := by have := hSg.1.2; omega
        have hnp : pb ≠ gp := by have h1 := hSg.1.1; have h2 := HSZ.out; have h3 := HL4.out; omega
        have k1 := HXQ9.out.c1
        have lq := HXQ9.out.lt
        have xq := HXQ9.out.other hne X (.slice a9 n9 c9)
        have xb := HXB9.out.other hnp X (.slice a9 n9 c9)
        have hbw : Below w.heap.size w (wc.setCell ⟨gp, X, none⟩ (.slice a9 n9 c9)) := HW9.out.setCell (p := ⟨gp, X, none⟩) (by have h1 := hSg.1.1; have h2 := HSZ.out; have h3 := HW4.out.size; show _ ≤ gp; omega) _
        have HF := Lib.hid (HSET.out _ _ _ _ _ hOP hbw)
        have n0 := xq.c0
        have n1 := xq.c1
        have n2 := xq.c2
        have m0 := xb.c0
        have m1 := xb.c1
        have m2 := xb.c2
        have f0 := xb.fr 0
        have f1 := xb.fr 1
        have f2 := xb.fr 2
        have l5 := xb.lt
        have l6 := xq.lt
        clear hSg hOP hdt hbw xq xb
        go_wp2_with fail
        refine bodyPost_ret (v := .tuple #[.agg #[.slice q1 n z1, .slice (some ⟨gp, 0, none⟩) n z2, .slice q3 n z3], .bool true]) (by simp [results, Tryz.results12, go_sem, m0, m1, m2]) rfl ⟨HF.out.2, .inr ⟨_, _, _, (X, none, V), rfl, HF.out.1, ⟨hX, HVL.out trivial⟩, HU.out⟩⟩
      · obtain rfl : db = false := by rw [← HDB.out]; exact beq_eq_false_iff_ne.2 hdt
        have a0 := HXA9.out.c0
        have a1 := HXA9.out.c1
        have a2 := HXA9.out.c2
        have la := HXA9.out.lt
        have HNN : Hid (∀ q r a' b', q.orders = p.orders → [a, b] = [a', b'] → RelT n q r a' b' → ∃ i, r.2.1 = some i ∧ y = (i : Int) ∧ r.1 = X) := fun q r a' b' ho e h => by
          obtain ⟨_, _, e1, e2, e3, e4, e5, e6⟩ := HRT.out q r a' b' ho e h
          obtain ⟨j, jo, jv⟩ := r
          have hj : j = X := by have h1 := HX.out; have h2 : bt a 1 = 97 + (j : Int) := e2; omega
          cases jo with
          | none =>
            exfalso
            apply hdt
            rw [e6]
            show dg (q.r j) = dg o
            rw [hj, ← HO.out]
            show dg (q.orders.getD X 0) = _
            rw [ho]
          | some i => exact ⟨i, rfl, by have h1 := HY.out; have h2 := e5 i rfl; omega, hj⟩
        by_cases hy0 : 0 ≤ y
        case neg =>
          have HNO : Hid (NoR p s.data.toList) := nor_of HWS.out.on HSS.out fun q r a' b' ho e h => by
            obtain ⟨i, _, h2, _⟩ := HNN.out q r a' b' ho e h
            omega
          have hy1 : y < 0 := by omega
          have x5 := HXB9.out
          have m0 := x5.c0
          have m1 := x5.c1
          have m2 := x5.c2
          have f0 := x5.fr 0
          have f1 := x5.fr 1
          have f2 := x5.fr 2
          have l5 := x5.lt
          have HBE := Lib.hid (HW9.out)
          go_wp2_with fail
          refine bodyPost_ret (v := .tuple #[.agg #[.slice (some ⟨bo, oo, none⟩) n aq1, .slice ao2 n aq2, .slice ao3 n aq3], .bool false]) (by simp [results, Tryz.results12, go_sem, m0, m1, m2]) rfl ⟨?_, .inl ⟨rfl, HNO.out⟩⟩
          exact ((HBE.out.setCell (p := ⟨pb, 0, none⟩) HPB.out _).setCell (p := ⟨pb, 1, none⟩) HPB.out _).setCell (p := ⟨pb, 2, none⟩) HPB.out _
        have hy1 : ¬ y < 0 := by omega
        by_cases hyx : y < X
        case neg =>
          have HNO : Hid (NoR p s.data.toList) := fun q r hV ho hr ht => by
            obtain ⟨a', b', e, h⟩ := relT_of hV hr ht HSS.out
            have hqn : q.n = n := by unfold Pres.n; rw [ho, HWS.out.on]
            rw [hqn] at h
            obtain ⟨i, h1, h2, h3⟩ := HNN.out q r a' b' ho e h
            have := hr.i i h1
            omega
          have hyx1 : (X : Int) ≤ y := by omega
          have x5 := HXB9.out
          have m0 := x5.c0
          have m1 := x5.c1
          have m2 := x5.c2
          have f0 := x5.fr 0
          have f1 := x5.fr 1
          have f2 := x5.fr 2
          have l5 := x5.lt
          have HBE := Lib.hid (HW9.out)
          go_wp2_with fail
          refine bodyPost_ret (v := .tuple #[.agg #[.slice (some ⟨bo, oo, none⟩) n aq1, .slice ao2 n aq2, .slice ao3 n aq3], .bool false]) (by simp [results, Tryz.results12, go_sem, m0, m1, m2]) rfl ⟨?_, .inl ⟨rfl, HNO.out⟩⟩
          exact ((HBE.out.setCell (p := ⟨pb, 0, none⟩) HPB.out _).setCell (p := ⟨pb, 1, none⟩) HPB.out _).setCell (p := ⟨pb, 2, none⟩) HPB.out _
        have hyx1 : ¬ (X : Int) ≤ y := by omega
        obtain ⟨Y, rfl⟩ : ∃ Y : Nat, y = (Y : Int) := ⟨y.toNat, by omega⟩
        have hYX : Y < X := by omega
        clear hy0 hy1
        have HU : Hid (∀ q r', ValidP q → q.orders = p.orders → GdR q r' → s.data.toList = 32 :: rlnT q r' → r' = (X, some Y, V)) := fun q r' hV ho hr ht => by
          obtain ⟨a', b', e, h⟩ := relT_of hV hr ht HSS.out
          have hqn : q.n = n := by unfold Pres.n; rw [ho, HWS.out.on]
          rw [hqn] at h
          have e1 := (HRT.out q r' a' b' ho e h).2.2.1
          obtain ⟨i, h1, h2, h3⟩ := HNN.out q r' a' b' ho e h
          obtain ⟨j, jo, jv⟩ := r'
          obtain rfl : j = X := h3
          obtain rfl : jo = some i := h1
          have hi : i = Y := by omega
          rw [hi, e1]
        obtain ⟨gc, cap, g2, cap2, e, hc2, ⟨rx, hr1⟩, hr2, hSg, hSg2, hgl1, hgl2, hOP⟩ := op_setCj HP9.out (i := Y) (j := X - Y - 1) (by rw [HWS.out.cl]; omega) (by rw [HWS.out.rl Y (by omega)]; omega) HO1.out (fun k hk hh => by have h1 := HSZ.out; have h2 := hk.2; have h3 := hh.1.1; omega)
        rw [HWS.out.rl Y (by omega)] at hc2
        simp only [Value.slice.injEq] at e
        obtain ⟨rfl, hnn, rfl⟩ := e
        clear hnn
        have hne : qb ≠ g2 := by have := hSg2.1.2; omega
        have hnp : pb ≠ g2 := by have h1 := hSg2.1.1; have h2 := HSZ.out; have h3 := HL4.out; omega
        have k2 := HXQ9.out.c2
        have lq := HXQ9.out.lt
        have xq := HXQ9.out.other hne (X - Y - 1) (.slice a9 n9 c9)
        have xb := HXB9.out.other hnp (X - Y - 1) (.slice a9 n9 c9)
        have hbw : Below w.heap.size w (wc.setCell ⟨g2, X - Y - 1, none⟩ (.slice a9 n9 c9)) := HW9.out.setCell (p := ⟨g2, X - Y - 1, none⟩) (by have h1 := hSg2.1.1; have h2 := HSZ.out; have h3 := HW4.out.size; show _ ≤ g2; omega) _
        have HF := Lib.hid (HSET.out _ _ _ _ _ hOP hbw)
        obtain ⟨Z, hZ⟩ : ∃ Z, X - Y - 1 = Z := ⟨_, rfl⟩
        have HSR : Hid (setR p (X, some Y, V) = ⟨p.orders, p.powers, p.conj.set Y ((p.conj.getD Y []).set Z V)⟩) := by show _ = _; rw [← hZ]; rfl
        rw [hZ] at hr1 hr2 xq xb HF
        rw [← HSR.out] at HF
        have n0 := xq.c0
        have n1 := xq.c1
        have n2 := xq.c2
        have m0 := xb.c0
        have m1 := xb.c1
        have m2 := xb.c2
        have f0 := xb.fr 0
        have f1 := xb.fr 1
        have f2 := xb.fr 2
        have l5 := xb.lt
        have l6 := xq.lt
        have hYI : (Y : Int) < (X : Int) := by omega
        have W1 : IntKind.i64.wrap ((X : Int) - (Y : Int) - 1) = (Z : Int) := by rw [IntWalk.i64_in _ (by omega)]; omega
        have W2 : (X : Int) - (Y : Int) - 1 = (Z : Int) := by omega
        have hZn : Z < n - (Y + 1) := by omega
        have hYn : (Y : Int) < (n : Int) := by omega
        clear hSg hSg2 hOP hdt hbw xq xb hZ a0 a1 a2 la
        go_wp2_with fail
        refine bodyPost_ret (v := .tuple #[.agg #[.slice q1 n z1, .slice q2 n z2, .slice (some ⟨gc, 0, none⟩) n z3], .bool true]) (by simp [results, Tryz.results12, go_sem, m0, m1, m2]) rfl ⟨HF.out.2, .inr ⟨_, _, _, (X, some Y, V), rfl, HF.out.1, ⟨hYX, hX, HVL.out trivial⟩, HU.out⟩⟩
--== end
end Go.Proofs.YtgcmhkihonadmaaGreatDoor
