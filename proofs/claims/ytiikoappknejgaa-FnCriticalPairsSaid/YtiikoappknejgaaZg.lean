/-
  The reference's reader of one relation.
  The reference's ParsePresentation alone.
  Presentations that a draw builds beside a source that moves on, by shapes alone.
  The written-out groups and the Heisenberg groups of the draws, by shapes alone.
  The Heisenberg groups of the draws, by shapes alone.
-/
import Derived.Test.YtiikoappknejgaaZf
namespace Go.Proofs.Ytiikoappknejgaa
set_option linter.unusedVariables false
set_option linter.unusedSimpArgs false
set_option maxRecDepth 100000
open Go.RowKit Go.PlainAid
attribute [local go_sem ↓] Go.wp_at_zero Go.wp_at_succ

theorem bt_of {s : ByteArray} {l r : Txt} {x : UInt8} (h : s.data.toList = l ++ x :: r) : bt s l.length = (x.toNat : Int) := by
  have hz : l.length < s.size := by rw [← data_len, h]; simp
  obtain ⟨y, e, hy⟩ := drop_at hz
  rw [h, List.drop_left] at e
  rw [(List.cons.inj e).1]
  exact hy
theorem splG_le (b : UInt8) : ∀ (t : Txt) (d : List Txt) (c : Txt), ∀ x ∈ splG b d c t, x ∈ d ∨ x.length ≤ c.length + t.length := by
  intro t
  induction t with
  | nil =>
    intro d c x hx
    rcases List.mem_append.1 hx with h | h
    · exact .inl h
    · right; rw [List.mem_singleton.1 h]; omega
  | cons y t ih =>
    intro d c x hx
    rw [splG] at hx
    rw [List.length_cons]
    split at hx
    · rcases ih _ _ x hx with h | h
      · rcases List.mem_append.1 h with h | h
        · exact .inl h
        · right; rw [List.mem_singleton.1 h]; omega
      · right; rw [List.length_nil] at h; omega
    · rcases ih _ _ x hx with h | h
      · exact .inl h
      · right; rw [List.length_append, List.length_singleton] at h; omega
theorem spl_le {b : UInt8} {t x : Txt} (h : x ∈ spl b t) : x.length ≤ t.length := by
  rcases splG_le b t [] [] x h with h | h
  · simp at h
  · simpa using h
/-- what the two sides of a relation of q are -/
structure RelT (n : Nat) (q : Pres) (r : Rln) (a b : ByteArray) : Prop where
  z : a.size = 4
  b0 : bt a 0 = 32
  b1 : bt a 1 = 97 + (r.1 : Int)
  b2 : bt a 2 = 94
  l3 : (a.extract 3 4).data.toList = lhs q r
  b3n : r.2.1 = none → bt a 3 = 48 + q.r r.1
  b3s : ∀ i, r.2.1 = some i → bt a 3 = 97 + (i : Int)
  jn : r.1 < n
  rd : rdOk n b = true
  pb : pB (rdL n b) = true
  vp : vpL n (rdL n b) = r.2.2
theorem relT_of {q : Pres} (hV : ValidP q) {r : Rln} (h : GdR q r) {ss : List ByteArray} {t : Txt} (ht : t = 32 :: rlnT q r) (hs : ss.map (·.data.toList) = spl 61 t) : ∃ a b, ss = [a, b] ∧ RelT q.n q r a b := by
  have hn6 := hV.n6
  have hj := h.j
  have hrk := hV.rk r.1 hj
  rw [ht, spl_rln hV h] at hs
  obtain ⟨a, rest, rfl, ha, hs⟩ := List.map_eq_cons_iff.1 hs
  obtain ⟨b, rest, rfl, hb, hs⟩ := List.map_eq_cons_iff.1 hs
  obtain rfl := List.map_eq_nil_iff.1 hs
  refine ⟨a, b, rfl, ?_⟩
  obtain ⟨k1, k2, k3⟩ := rd_wtx hV h hb
  have hlen : (lhs q r).length = 1 := by
    obtain ⟨j, o, v⟩ := r
    cases o with
    | none =>
      have h2 : 2 ≤ q.r j ∧ q.r j ≤ 7 := hrk
      show (dg (q.r j)).length = 1
      rw [dg_small (by omega) (by omega)]; rfl
    | some i => rfl
  obtain ⟨y, hy⟩ : ∃ y, lhs q r = [y] := List.length_eq_one_iff.1 hlen
  have h0 : a.data.toList = [32, UInt8.ofNat (97 + r.1), 94, y] := by rw [ha, hy]; rfl
  have z : a.size = 4 := by rw [← data_len, h0]; rfl
  have e0 := bt_of (s := a) (l := []) h0
  have e1 := bt_of (s := a) (l := [32]) h0
  have e2 := bt_of (s := a) (l := [32, UInt8.ofNat (97 + r.1)]) h0
  have e3 := bt_of (s := a) (l := [32, UInt8.ofNat (97 + r.1), 94]) h0
  have e1' : (UInt8.ofNat (97 + r.1)).toNat = 97 + r.1 := by rw [UInt8.toNat_ofNat']; omega
  rw [e1'] at e1
  refine ⟨z, e0, by rw [show ([32] : Txt).length = 1 from rfl] at e1; rw [e1]; omega, e2, ?_, fun ho => ?_, fun i ho => ?_, hj, k1, k2, k3⟩
  · rw [Lib.extract_data, h0, hy]; rfl
  · obtain ⟨j, o, v⟩ := r
    obtain rfl : o = none := ho
    have e : dg (q.r j) = [y] := hy
    have h2 : 2 ≤ q.r j ∧ q.r j ≤ 7 := hrk
    rw [dg_small (by omega) (by omega)] at e
    have := (List.cons.inj e).1
    rw [show ([32, UInt8.ofNat (97 + j), 94] : Txt).length = 3 from rfl] at e3
    rw [e3, ← this, UInt8.toNat_ofNat']
    show _ = 48 + q.r j
    omega
  · obtain ⟨j, o, v⟩ := r
    obtain rfl : o = some i := ho
    have e : lt1 i = [y] := hy
    have hi := h.i i rfl
    have hi' : i < j := hi
    unfold lt1 at e
    have := (List.cons.inj e).1
    rw [show ([32, UInt8.ofNat (97 + j), 94] : Txt).length = 3 from rfl] at e3
    rw [e3, ← this, UInt8.toNat_ofNat']
    have hj' : j < q.n := hj
    omega
/-- no relation of a presentation with these orders has this text -/
def NoR (p : Pres) (t : Txt) : Prop := ∀ q r, ValidP q → q.orders = p.orders → GdR q r → t = 32 :: rlnT q r → False
def RelR (w : World) (n : Nat) (p : Pres) (t : Txt) (v1 v2 v3 : Value) (e : Ending) (w' : World) : Prop :=
  Below w.heap.size w w' ∧ ((e = .returned (.tuple #[.agg #[v1, v2, v3], .bool false]) ∧ NoR p t) ∨ ∃ u1 u2 u3 r, e = .returned (.tuple #[.agg #[u1, u2, u3], .bool true]) ∧ OP w' (win w.heap.size w'.heap.size) u1 u2 u3 (setR p r) ∧ InR n r ∧ ∀ q r', ValidP q → q.orders = p.orders → GdR q r' → t = 32 :: rlnT q r' → r' = r)
theorem nor_of {n : Nat} {p : Pres} {t : Txt} {ss : List ByteArray} (hn : p.orders.length = n) (hs : ss.map (·.data.toList) = spl 61 t) (h : ∀ q r a b, q.orders = p.orders → ss = [a, b] → RelT n q r a b → False) : NoR p t := fun q r hV ho hr ht => by
  obtain ⟨a, b, e, hR⟩ := relT_of hV hr ht hs
  have hqn : q.n = n := by unfold Pres.n; rw [ho, hn]
  rw [hqn] at hR
  exact h q r a b ho e hR
theorem op_out {w0 wx : World} {S : Nat → Prop} {b : Nat} {v1 v2 v3 : Value} {P : Pres} (h : OP wx S v1 v2 v3 P) (hS : ∀ k, S k → w0.heap.size ≤ k ∧ k ≠ b) (hB : Below w0.heap.size w0 wx) (hb : w0.heap.size ≤ b) :
    OP (((wx.setCell ⟨b, 0, none⟩ v1).setCell ⟨b, 1, none⟩ v2).setCell ⟨b, 2, none⟩ v3) (win w0.heap.size (((wx.setCell ⟨b, 0, none⟩ v1).setCell ⟨b, 1, none⟩ v2).setCell ⟨b, 2, none⟩ v3).heap.size) v1 v2 v3 P ∧ Below w0.heap.size w0 (((wx.setCell ⟨b, 0, none⟩ v1).setCell ⟨b, 1, none⟩ v2).setCell ⟨b, 2, none⟩ v3) :=
  ⟨OP.sub (OP.sets (OP.sets (OP.sets h (b := b) (fun hh => (hS b hh).2 rfl) 0 _) (b := b) (fun hh => (hS b hh).2 rfl) 1 _) (b := b) (fun hh => (hS b hh).2 rfl) 2 _) (fun k hk hh => ⟨(hS k hh).1, hk⟩),
    ((hB.setCell (p := ⟨b, 0, none⟩) hb _).setCell (p := ⟨b, 1, none⟩) hb _).setCell (p := ⟨b, 2, none⟩) hb _⟩
theorem lt_ne_dg {i : Nat} {o : Int} (hi : i ≤ 6) (h0 : 2 ≤ o) (h1 : o ≤ 7) (h : lt1 i = dg o) : False := by
  rw [dg_small (by omega) (by omega)] at h
  unfold lt1 at h
  have h2 := congrArg UInt8.toNat (List.cons.inj h).1
  rw [UInt8.toNat_ofNat', UInt8.toNat_ofNat'] at h2
  omega
--== spec.l07Relation
set_option maxHeartbeats 8000000 in
theorem s_l07Relation {n : Nat} {p : Pres} (hW : WS n p) (hn : n ≤ 6) (v1 v2 v3 : Value) (s : ByteArray) (w : World) (hp : RdP w v1 v2 v3 p) (hs : s.size ≤ 2000000) :
    Calls Try.prog 87 #[.agg #[v1, v2, v3], .string s] w (RelR w n p s.data.toList v1 v2 v3) := by
  obtain ⟨ao1, aq1, rfl, _, _⟩ := hp.1.formN hW.on
  obtain ⟨ao2, aq2, rfl, _, _⟩ := hp.2.1.formN hW.pl
  obtain ⟨ao3, aq3, rfl, _, _⟩ := hp.2.2.formN hW.cl
  have HWS := Lib.hid hW
  have g2 := below_allocs2 w (Obj.cells #[Value.slice ao1 n aq1, Value.slice ao2 n aq2, Value.slice ao3 n aq3] 28) (Obj.cells #[Value.slice none 0 0, Value.slice none 0 0, Value.slice none 0 0] 28)
  have xa := (Bx.new w (Value.slice ao1 n aq1) (Value.slice ao2 n aq2) (Value.slice ao3 n aq3)).old (Obj.cells #[Value.slice none 0 0, Value.slice none 0 0, Value.slice none 0 0] 28)
  have xb := Bx.new (w.alloc (Obj.cells #[Value.slice ao1 n aq1, Value.slice ao2 n aq2, Value.slice ao3 n aq3] 28)) (Value.slice none 0 0) (Value.slice none 0 0) (Value.slice none 0 0)
  rw [show (w.alloc (Obj.cells #[Value.slice ao1 n aq1, Value.slice ao2 n aq2, Value.slice ao3 n aq3] 28)).heap.size = w.heap.size + 1 by simp] at xb
  have HPd := Lib.hid (hp.below g2)
  have HG2 := Lib.hid g2
  have HSP : Hid (∀ wx, Calls Try.prog 85 #[.string s, .int .u8 61] wx (RetStrs wx (spl 61 s.data.toList))) := fun wx => s_l01Split s 61 wx (by omega)
  clear hW hp g2
  have HPB : Hid (w.heap.size ≤ w.heap.size + 1) := Nat.le_succ _
  go_enter Try.func87, Try.ntmps87
  go_wp2_with fail
  generalize (w.alloc (Obj.cells #[Value.slice ao1 n aq1, Value.slice ao2 n aq2, Value.slice ao3 n aq3] 28)).alloc (Obj.cells #[Value.slice none 0 0, Value.slice none 0 0, Value.slice none 0 0] 28) = w2 at *
  obtain ⟨pa, hpa⟩ : ∃ x, x = w.heap.size := ⟨_, rfl⟩
  generalize hpb : w.heap.size + 1 = pb at *
  rw [← hpa] at xa ⊢
  have hab : pa ≠ pb := by omega
  clear hpa hpb
  have HXA := Lib.hid xa
  have HXB := Lib.hid xb
  clear xa xb
  refine (HSP.out _).mono ?_
  rintro e w3 ⟨sv, ss, rfl, hSS, hss, hB3⟩
  have HSS := Lib.hid hss
  have hW3 := below_size HG2.out hB3
  have xa := HXA.out.below hB3 HXA.out.lt
  have xb := HXB.out.below hB3 HXB.out.lt
  have HXA3 := Lib.hid xa
  have HXB3 := Lib.hid xb
  have HB3 := Lib.hid hB3
  have HW3 := Lib.hid hW3
  have a0 := xa.c0
  have a1 := xa.c1
  have a2 := xa.c2
  have la := xa.lt
  clear hB3 hW3 xa xb hss
  by_cases h2 : ss.length = 2
  case neg =>
    have HNO : Hid (NoR p s.data.toList) := nor_of HWS.out.on HSS.out fun q r a b _ e _ => h2 (by rw [e]; rfl)
    obtain ⟨sa, sc, rfl, hsc⟩ := hSS.form
    have h2I : ((ss.length : Int) != 2) = true := by rw [bne_iff_ne]; omega
    clear hSS
    have x5 := HXB3.out
    have m0 := x5.c0
    have m1 := x5.c1
    have m2 := x5.c2
    have f0 := x5.fr 0
    have f1 := x5.fr 1
    have f2 := x5.fr 2
    have l5 := x5.lt
    have HBE := Lib.hid (HW3.out)
    go_wp2_with fail
    refine bodyPost_ret (v := .tuple #[.agg #[.slice ao1 n aq1, .slice ao2 n aq2, .slice ao3 n aq3], .bool false]) (by simp [results, Try.results87, go_sem, m0, m1, m2]) rfl ⟨?_, .inl ⟨rfl, HNO.out⟩⟩
    exact ((HBE.out.setCell (p := ⟨pb, 0, none⟩) HPB.out _).setCell (p := ⟨pb, 1, none⟩) HPB.out _).setCell (p := ⟨pb, 2, none⟩) HPB.out _
  match ss, h2 with
  | [a, b], _ =>
  obtain ⟨sa, sc, rfl, hsc⟩ := hSS.formN (n := 2) rfl
  obtain ⟨g, rfl, hgl, hgw, hca⟩ := hSS.at (j := 0) (s := a) rfl
  obtain ⟨g', e, _, _, hcb⟩ := hSS.at (j := 1) (s := b) rfl
  simp only [Option.some.injEq, Addr.mk.injEq] at e
  obtain ⟨rfl, _⟩ := e
  have hbs : b.size ≤ 100000000 := by
    have := spl_le (b := 61) (t := s.data.toList) (x := b.data.toList) (by rw [← HSS.out]; simp)
    rw [data_len, data_len] at this
    omega
  have hbt := get_bt a
  have hb0 := bt_nonneg a
  have hb1 := bt_le a
  clear hSS
  by_cases hz : a.size = 4
  case neg =>
    have HNO : Hid (NoR p s.data.toList) := nor_of HWS.out.on HSS.out fun q r a' b' _ e h => by
      simp only [List.cons.injEq] at e
      exact hz (by rw [e.1]; exact h.z)
    have hzI : ((a.size : Int) != 4) = true := by rw [bne_iff_ne]; omega
    have x5 := HXB3.out
    have m0 := x5.c0
    have m1 := x5.c1
    have m2 := x5.c2
    have f0 := x5.fr 0
    have f1 := x5.fr 1
    have f2 := x5.fr 2
    have l5 := x5.lt
    have HBE := Lib.hid (HW3.out)
    go_wp2_with fail
    refine bodyPost_ret (v := .tuple #[.agg #[.slice ao1 n aq1, .slice ao2 n aq2, .slice ao3 n aq3], .bool false]) (by simp [results, Try.results87, go_sem, m0, m1, m2]) rfl ⟨?_, .inl ⟨rfl, HNO.out⟩⟩
    exact ((HBE.out.setCell (p := ⟨pb, 0, none⟩) HPB.out _).setCell (p := ⟨pb, 1, none⟩) HPB.out _).setCell (p := ⟨pb, 2, none⟩) HPB.out _
  have hzI : ((a.size : Int) != 4) = false := by rw [hz]; rfl
  by_cases h0 : bt a 0 = 32
  case neg =>
    have HNO : Hid (NoR p s.data.toList) := nor_of HWS.out.on HSS.out fun q r a' b' _ e h => by
      simp only [List.cons.injEq] at e
      exact h0 (by rw [e.1]; exact h.b0)
    have h0I : (bt a 0 != 32) = true := by rw [bne_iff_ne]; exact h0
    have x5 := HXB3.out
    have m0 := x5.c0
    have m1 := x5.c1
    have m2 := x5.c2
    have f0 := x5.fr 0
    have f1 := x5.fr 1
    have f2 := x5.fr 2
    have l5 := x5.lt
    have HBE := Lib.hid (HW3.out)
    go_wp2_with fail
    refine bodyPost_ret (v := .tuple #[.agg #[.slice ao1 n aq1, .slice ao2 n aq2, .slice ao3 n aq3], .bool false]) (by simp [results, Try.results87, go_sem, m0, m1, m2]) rfl ⟨?_, .inl ⟨rfl, HNO.out⟩⟩
    exact ((HBE.out.setCell (p := ⟨pb, 0, none⟩) HPB.out _).setCell (p := ⟨pb, 1, none⟩) HPB.out _).setCell (p := ⟨pb, 2, none⟩) HPB.out _
  by_cases h2 : bt a 2 = 94
  case neg =>
    have HNO : Hid (NoR p s.data.toList) := nor_of HWS.out.on HSS.out fun q r a' b' _ e h => by
      simp only [List.cons.injEq] at e
      exact h2 (by rw [e.1]; exact h.b2)
    have h2I : (bt a 2 != 94) = true := by rw [bne_iff_ne]; exact h2
    have x5 := HXB3.out
    have m0 := x5.c0
    have m1 := x5.c1
    have m2 := x5.c2
    have f0 := x5.fr 0
    have f1 := x5.fr 1
    have f2 := x5.fr 2
    have l5 := x5.lt
    have HBE := Lib.hid (HW3.out)
    go_wp2_with fail
    refine bodyPost_ret (v := .tuple #[.agg #[.slice ao1 n aq1, .slice ao2 n aq2, .slice ao3 n aq3], .bool false]) (by simp [results, Try.results87, go_sem, m0, m1, m2]) rfl ⟨?_, .inl ⟨rfl, HNO.out⟩⟩
    exact ((HBE.out.setCell (p := ⟨pb, 0, none⟩) HPB.out _).setCell (p := ⟨pb, 1, none⟩) HPB.out _).setCell (p := ⟨pb, 2, none⟩) HPB.out _
  have HRP : Hid (∀ wx, Calls Try.prog 90 #[.int .i64 n, .string b] wx (RetIntsB wx (rdL n b) (rdOk n b))) := fun wx => s_l06Parse n b wx (by omega) (by omega) hbs
  have HLS := Lib.hid (rdL_lt (n := n) (s := b))
  have hll : (rdL n b).length ≤ 100000000 := Nat.le_trans rdL_len hbs
  have HRT : Hid (∀ q r a' b', q.orders = p.orders → [a, b] = [a', b'] → RelT n q r a' b' → rdOk n b = true ∧ pB (rdL n b) = true ∧ vpL n (rdL n b) = r.2.2 ∧ bt a 1 = 97 + (r.1 : Int) ∧ r.1 < n ∧ (r.2.1 = none → bt a 3 = 48 + q.r r.1) ∧ (∀ i, r.2.1 = some i → bt a 3 = 97 + (i : Int)) ∧ (a.extract 3 4).data.toList = lhs q r) := fun q r a' b' _ e h => by
    simp only [List.cons.injEq] at e
    obtain ⟨rfl, rfl, _⟩ := e
    exact ⟨h.rd, h.pb, h.vp, h.b1, h.jn, h.b3n, h.b3s, h.l3⟩
  generalize rdOk n b = ob at *
  go_wp2_with fail
  refine (HRP.out _).mono ?_
  rintro e w4 ⟨wv, rfl, hI4, hB4⟩
  have HB4 := Lib.hid (below_size HB3.out hB4)
  have HW4 := Lib.hid (below_size HW3.out hB4)
  have HXA4 := Lib.hid (HXA3.out.below hB4 HXA3.out.lt)
  have HXB4 := Lib.hid (HXB3.out.below hB4 HXB3.out.lt)
  have hca4 := below_cells hB4 _ _ hca
  have HI4 := Lib.hid hI4.rd
  obtain ⟨av, cv, rfl, _, _⟩ := hI4.rd.form
  clear hca hcb a0 a1 a2 la hI4 hB4
  have a0 := HXA4.out.c0
  have a1 := HXA4.out.c1
  have a2 := HXA4.out.c2
  have la := HXA4.out.lt
  by_cases hob : ob = true
  case neg =>
    obtain rfl : ob = false := by simpa using hob
    have HNO : Hid (NoR p s.data.toList) := nor_of HWS.out.on HSS.out fun q r a' b' ho e h => Bool.false_ne_true (HRT.out q r a' b' ho e h).1
    have x5 := HXB4.out
    have m0 := x5.c0
    have m1 := x5.c1
    have m2 := x5.c2
    have f0 := x5.fr 0
    have f1 := x5.fr 1
    have f2 := x5.fr 2
    have l5 := x5.lt
    have HBE := Lib.hid (HW4.out)
    go_wp2_with fail
    refine bodyPost_ret (v := .tuple #[.agg #[.slice ao1 n aq1, .slice ao2 n aq2, .slice ao3 n aq3], .bool false]) (by simp [results, Try.results87, go_sem, m0, m1, m2]) rfl ⟨?_, .inl ⟨rfl, HNO.out⟩⟩
    exact ((HBE.out.setCell (p := ⟨pb, 0, none⟩) HPB.out _).setCell (p := ⟨pb, 1, none⟩) HPB.out _).setCell (p := ⟨pb, 2, none⟩) HPB.out _
  subst hob
  have HVC : Hid (∀ wx, Rd wx (.slice av (rdL n b).length cv) (rdL n b) → Calls Try.prog 54 #[.int .i64 n, .slice av (rdL n b).length cv] wx (RetIntsB wx (vpL n (rdL n b)) (pB (rdL n b)))) := fun wx hr => s_l07VectorG n _ _ wx hr HLS.out (by omega) hll
  have HVL : Hid (pB (rdL n b) = true → (vpL n (rdL n b)).length = n) := fun h => by rw [vpL_yes h]; exact vecL_len _ _
  generalize vpL n (rdL n b) = V at *
  generalize pB (rdL n b) = pb' at *
  go_wp2_with fail
  refine (HVC.out _ HI4.out).mono ?_
  rintro e w5 ⟨v, rfl, hI5, hB5⟩
  have HB5 := Lib.hid (below_size HB4.out hB5)
  have HW5 := Lib.hid (below_size HW4.out hB5)
  have HXA5 := Lib.hid (HXA4.out.below hB5 HXA4.out.lt)
  have HXB5 := Lib.hid (HXB4.out.below hB5 HXB4.out.lt)
  have hca5 := below_cells hB5 _ _ hca4
  have HZ5 := Lib.hid hB5.size
  have HI5 := Lib.hid hI5
  obtain ⟨a9, n9, c9, rfl⟩ : ∃ a9 n9 c9, v = .slice a9 n9 c9 := by obtain ⟨a9, c9, e, _⟩ := hI5.form; exact ⟨a9, _, c9, e⟩
  clear hca4 a0 a1 a2 la hI5 hB5
  have a0 := HXA5.out.c0
  have a1 := HXA5.out.c1
  have a2 := HXA5.out.c2
  have la := HXA5.out.lt
  have hd0 := hb0 1
  have hd1 := hb1 1
  have hd2 := hb0 3
  have hd3 := hb1 3
  have hbt1 : ((a[1]'(by omega)).toNat : Int) = bt a 1 := hbt 1 (by omega)
  have hbt3 : ((a[3]'(by omega)).toNat : Int) = bt a 3 := hbt 3 (by omega)
  have hz1 : (1 : Int) < (a.size : Int) := by omega
  have hz3 : (3 : Int) < (a.size : Int) := by omega
  have W1 : IntKind.i64.wrap (bt a 1) = bt a 1 := IntWalk.i64_in _ (by omega)
  have W3 : IntKind.i64.wrap (bt a 3) = bt a 3 := IntWalk.i64_in _ (by omega)
  have W4 : IntKind.i64.wrap (bt a 1 - 97) = bt a 1 - 97 := IntWalk.i64_in _ (by omega)
  have W5 : IntKind.i64.wrap (bt a 3 - 97) = bt a 3 - 97 := IntWalk.i64_in _ (by omega)
  go_upto_region 9 with fail
  go_cut [12, 13] (fun u t wx => u = .int .i64 (bt a 1 - 97) ∧ t = .int .i64 (bt a 3 - 97) ∧ wx = w5.drew)
  case first =>
    go_region
    all_goals (go_wp2_with fail; go_meet; exact ⟨rfl, rfl, rfl⟩)
  case rest =>
    obtain ⟨rfl, rfl, rfl⟩ := hcut
    have hB6 : Below w5.heap.size w5 w5.drew := (Below.refl _ _).drew
    have HB6 := Lib.hid (below_size HB5.out hB6)
    have HW6 := Lib.hid (below_size HW5.out hB6)
    have HXA6 := Lib.hid (HXA5.out.below hB6 HXA5.out.lt)
    have HXB6 := Lib.hid (HXB5.out.below hB6 HXB5.out.lt)
    have hca6 := below_cells hB6 _ _ hca5
    have HI6 : Hid (Ints w5.drew w4.heap.size (.slice a9 n9 c9) V) := own_below HI5.out hB6
    have HZ6 : Hid (w5.heap.size ≤ w5.drew.heap.size) := hB6.size
    have HIL := Lib.hid (fun g hg => own_lt HI5.out (g := g) hg)
    clear hca5 a0 a1 a2 la hB6 W1 W3 W4 W5
    generalize w5.drew = w6 at *
    have a0 := HXA6.out.c0
    have a1 := HXA6.out.c1
    have a2 := HXA6.out.c2
    have la := HXA6.out.lt
    by_cases hpb : pb' = true
    case neg =>
      obtain rfl : pb' = false := by simpa using hpb
      have HNO : Hid (NoR p s.data.toList) := nor_of HWS.out.on HSS.out fun q r a' b' ho e h => Bool.false_ne_true (HRT.out q r a' b' ho e h).2.1
      have x5 := HXB6.out
      have m0 := x5.c0
      have m1 := x5.c1
      have m2 := x5.c2
      have f0 := x5.fr 0
      have f1 := x5.fr 1
      have f2 := x5.fr 2
      have l5 := x5.lt
      have HBE := Lib.hid (HW6.out)
      go_wp2_with fail
      refine bodyPost_ret (v := .tuple #[.agg #[.slice ao1 n aq1, .slice ao2 n aq2, .slice ao3 n aq3], .bool false]) (by simp [results, Try.results87, go_sem, m0, m1, m2]) rfl ⟨?_, .inl ⟨rfl, HNO.out⟩⟩
      exact ((HBE.out.setCell (p := ⟨pb, 0, none⟩) HPB.out _).setCell (p := ⟨pb, 1, none⟩) HPB.out _).setCell (p := ⟨pb, 2, none⟩) HPB.out _
    subst hpb
    obtain ⟨x, hx⟩ : ∃ x, bt a 1 - 97 = x := ⟨_, rfl⟩
    obtain ⟨y, hy⟩ : ∃ y, bt a 3 - 97 = y := ⟨_, rfl⟩
    have HX := Lib.hid hx
    have HY := Lib.hid hy
    rw [hx, hy]
    clear hx hy
    by_cases hx0 : 0 ≤ x
    case neg =>
      have HNO : Hid (NoR p s.data.toList) := nor_of HWS.out.on HSS.out fun q r a' b' ho e h => by
        have e1 := (HRT.out q r a' b' ho e h).2.2.2.1
        have := HX.out
        omega
      have hx1 : x < 0 := by omega
      have x5 := HXB6.out
      have m0 := x5.c0
      have m1 := x5.c1
      have m2 := x5.c2
      have f0 := x5.fr 0
      have f1 := x5.fr 1
      have f2 := x5.fr 2
      have l5 := x5.lt
      have HBE := Lib.hid (HW6.out)
      go_wp2_with fail
      refine bodyPost_ret (v := .tuple #[.agg #[.slice ao1 n aq1, .slice ao2 n aq2, .slice ao3 n aq3], .bool false]) (by simp [results, Try.results87, go_sem, m0, m1, m2]) rfl ⟨?_, .inl ⟨rfl, HNO.out⟩⟩
      exact ((HBE.out.setCell (p := ⟨pb, 0, none⟩) HPB.out _).setCell (p := ⟨pb, 1, none⟩) HPB.out _).setCell (p := ⟨pb, 2, none⟩) HPB.out _
    have hx1 : ¬ x < 0 := by omega
    by_cases hxn : x < n
    case neg =>
      have HNO : Hid (NoR p s.data.toList) := nor_of HWS.out.on HSS.out fun q r a' b' ho e h => by
        obtain ⟨_, _, _, e1, e2, _⟩ := HRT.out q r a' b' ho e h
        have := HX.out
        omega
      have hxn1 : (n : Int) ≤ x := by omega
      have x5 := HXB6.out
      have m0 := x5.c0
      have m1 := x5.c1
      have m2 := x5.c2
      have f0 := x5.fr 0
      have f1 := x5.fr 1
      have f2 := x5.fr 2
      have l5 := x5.lt
      have HBE := Lib.hid (HW6.out)
      go_wp2_with fail
      refine bodyPost_ret (v := .tuple #[.agg #[.slice ao1 n aq1, .slice ao2 n aq2, .slice ao3 n aq3], .bool false]) (by simp [results, Try.results87, go_sem, m0, m1, m2]) rfl ⟨?_, .inl ⟨rfl, HNO.out⟩⟩
      exact ((HBE.out.setCell (p := ⟨pb, 0, none⟩) HPB.out _).setCell (p := ⟨pb, 1, none⟩) HPB.out _).setCell (p := ⟨pb, 2, none⟩) HPB.out _
    obtain ⟨X, rfl⟩ : ∃ X : Nat, x = (X : Int) := ⟨x.toNat, by omega⟩
    have hX : X < n := by omega
    clear hx0 hx1
    have hxn1 : ¬ (n : Int) ≤ (X : Int) := by omega
    go_wp2_with fail
    refine (s_l07Own HWS.out hn _ _ _ _ (HPd.out.below HB6.out)).mono ?_
    rintro e w7 ⟨q1, q2, q3, rfl, hP7, hB7⟩
    obtain ⟨⟨q1, z1, rfl⟩, ⟨q2, z2, rfl⟩, ⟨q3, z3, rfl⟩⟩ := hP7.formsN HWS.out.on HWS.out.pl HWS.out.cl
    have HB7 := Lib.hid (below_size HB6.out hB7)
    have HW7 := Lib.hid (below_size HW6.out hB7)
    have HXA7 := Lib.hid (HXA6.out.below hB7 HXA6.out.lt)
    have HXB7 := Lib.hid (HXB6.out.below hB7 HXB6.out.lt)
    have hca7 := below_cells hB7 _ _ hca6
    have HI7 : Hid (Ints w7 w4.heap.size (.slice a9 n9 c9) V) := own_below HI6.out hB7
    have HP7 := Lib.hid hP7
    have HZ7 := Lib.hid hB7.size
    clear hca6 a0 a1 a2 la hP7 hB7
    have a0 := HXA7.out.c0
    have a1 := HXA7.out.c1
    have a2 := HXA7.out.c2
    have la := HXA7.out.lt
    go_upto_region 13 with fail
    have hB8 := below_alloc w7 (Obj.cells #[Value.slice q1 n z1, Value.slice q2 n z2, Value.slice q3 n z3] 28)
    have HXQ8 := Lib.hid (Bx.new w7 (Value.slice q1 n z1) (Value.slice q2 n z2) (Value.slice q3 n z3))
    have HB8 := Lib.hid (below_size HB7.out hB8)
    have HW8 := Lib.hid (below_size HW7.out hB8)
    have HXA8 := Lib.hid (HXA7.out.below hB8 HXA7.out.lt)
    have HXB8 := Lib.hid (HXB7.out.below hB8 HXB7.out.lt)
    have hca8 := below_cells hB8 _ _ hca7
    have HI8 : Hid (Ints (w7.alloc (Obj.cells #[Value.slice q1 n z1, Value.slice q2 n z2, Value.slice q3 n z3] 28)) w4.heap.size (.slice a9 n9 c9) V) := own_below HI7.out hB8
    have HP8 : Hid (OP (w7.alloc (Obj.cells #[Value.slice q1 n z1, Value.slice q2 n z2, Value.slice q3 n z3] 28)) (win w6.heap.size w7.heap.size) (.slice q1 n z1) (.slice q2 n z2) (.slice q3 n z3) p) := OP.below HP7.out hB8
    have HZ8 : Hid (w7.heap.size < (w7.alloc (Obj.cells #[Value.slice q1 n z1, Value.slice q2 n z2, Value.slice q3 n z3] 28)).heap.size) := by show _ < _; simp
    clear hca7 a0 a1 a2 la hB8
    generalize w7.alloc (Obj.cells #[Value.slice q1 n z1, Value.slice q2 n z2, Value.slice q3 n z3] 28) = w8 at *
    obtain ⟨qb, hqb⟩ : ∃ qb, qb = w7.heap.size := ⟨_, rfl⟩
    rw [← hqb] at HXQ8 HP8 HZ8 HZ7 ⊢
    clear hqb
    have hbd := primesB_at HWS.out.pr (getD_mem (xs := p.orders) (show X < p.orders.length by rw [HWS.out.on]; exact hX))
    obtain ⟨bo, oo, rfl, hco⟩ := (HPd.out.1.below HB8.out).at (show X < p.orders.length by rw [HWS.out.on]; exact hX)
    obtain ⟨o, ho⟩ : ∃ o, p.orders.getD X 0 = o := ⟨_, rfl⟩
    rw [ho] at hbd hco
    have HO := Lib.hid ho
    clear ho
    have a0 := HXA8.out.c0
    have lq := HXQ8.out.lt
    have lg : g < w8.heap.size := by have := HZ8.out; have := HB8.out.size; have := World.block_lt_of_cell? _ _ hca8; omega
    have hz4 : (3 : Int) ≤ (a.size : Int) := by omega
    have KEEP : Hid (∀ wx, Below w8.heap.size w8 wx → wx.cell? ⟨g, 0, none⟩ = some (.string a) ∧ wx.cell? ⟨pa, 0, none⟩ = some (.slice (some ⟨bo, oo, none⟩) n aq1) ∧ wx.cell? ⟨bo, oo + X, none⟩ = some (.int .i64 o)) := fun wx hb => ⟨below_cells hb _ _ hca8, below_cells hb _ _ a0, below_cells hb _ _ hco⟩
    obtain ⟨db, hdb⟩ : ∃ db, ((a.extract 3 4).data.toList == dg o) = db := ⟨_, rfl⟩
    have HDB := Lib.hid hdb
    clear hdb
    go_cut [98] (fun t wx => t = .bool db ∧ Below w8.heap.size w8 wx)
    case first =>
      go_region_held3 (fun wx => wx.cell? ⟨g, 0, none⟩ = some (.string a) ∧ wx.cell? ⟨pa, 0, none⟩ = some (.slice (some ⟨bo, oo, none⟩) n aq1) ∧ wx.cell? ⟨bo, oo + X, none⟩ = some (.int .i64 o))
        (first
          | exact KEEP.out _ (Below.refl _ _)
          | exact KEEP.out _ (Below.refl _ _).drew
          | exact KEEP.out _ hB9)
        (first
          | (go_at_call 91; with_reducible refine (s_l01Dec1 o _ (by omega) (by omega)).mono ?_; rintro e w9 ⟨d, rfl, hd, hB9'⟩; have hB9 := below_size (Below.refl w8.heap.size w8).drew hB9'; have hdb : ((a.extract 3 4).toList == d.toList) = db := (by rw [← HDB.out, ByteArray.toList_eq, ByteArray.toList_eq, hd])))
      all_goals (go_wp2_with fail; go_meet; exact ⟨rfl, hB9⟩)
    case rest =>
      obtain ⟨rfl, hB9⟩ := hcut
      have HW9 := Lib.hid (below_size HW8.out hB9)
      have HXA9 := Lib.hid (HXA8.out.below hB9 HXA8.out.lt)
      have HXB9 := Lib.hid (HXB8.out.below hB9 HXB8.out.lt)
      have HXQ9 := Lib.hid (HXQ8.out.below hB9 HXQ8.out.lt)
      have HI9 := Lib.hid (Ints.below HI8.out hB9)
      have HP9 := Lib.hid (OP.below (OP.sub (S' := fun k => win w6.heap.size qb k ∧ k < w8.heap.size) HP8.out (fun k hk hh => ⟨hh, hk⟩)) hB9)
      have HQZ : Hid (qb < wc.heap.size) := HXQ9.out.lt
      have HL4 : Hid (pb < w4.heap.size) := HXB4.out.lt
      have HO1 : Hid (O1 wc (fun k => w4.heap.size ≤ k ∧ k < w5.heap.size) (.slice a9 n9 c9) V) := ⟨HI9.out.mono (Nat.zero_le _), fun g hg => HIL.out g hg⟩
      have HSZ : Hid (w5.heap.size ≤ w6.heap.size ∧ w4.heap.size ≤ w6.heap.size ∧ w6.heap.size ≤ qb) := by
        have h1 := HZ5.out
        have h2 := HZ6.out
        have h3 := HZ7.out
        exact ⟨h2, by omega, h3⟩
      clear a0 lq lg hco hca8 hB9
      have HSET : Hid (∀ (q1' q2' q3' : Value) (P' : Pres) (wx : World), OP wx (fun k => (win w6.heap.size qb k ∧ k < w8.heap.size) ∨ (w4.heap.size ≤ k ∧ k < w5.heap.size)) q1' q2' q3' P' → Below w.heap.size w wx → OP (((wx.setCell ⟨pb, 0, none⟩ q1').setCell ⟨pb, 1, none⟩ q2').setCell ⟨pb, 2, none⟩ q3') (win w.heap.size (((wx.setCell ⟨pb, 0, none⟩ q1').setCell ⟨pb, 1, none⟩ q2').setCell ⟨pb, 2, none⟩ q3').heap.size) q1' q2' q3' P' ∧ Below w.heap.size w (((wx.setCell ⟨pb, 0, none⟩ q1').setCell ⟨pb, 1, none⟩ q2').setCell ⟨pb, 2, none⟩ q3')) := fun _ _ _ P' wx h hb => op_out h (fun k hk => by
        have h1 := HSZ.out
        have h2 := HL4.out
        have h3 := HW4.out.size
        rcases hk with ⟨⟨hk, _⟩, _⟩ | ⟨hk, _⟩ <;> exact ⟨by omega, by omega⟩) hb HPB.out
      by_cases hdt : (a.extract 3 4).data.toList = dg o
      · obtain rfl : db = true := by rw [← HDB.out]; exact beq_iff_eq.2 hdt
        have HU : Hid (∀ q r', ValidP q → q.orders = p.orders → GdR q r' → s.data.toList = 32 :: rlnT q r' → r' = (X, none, V)) := fun q r' hV ho hr ht => by
          obtain ⟨a', b', e, h⟩ := relT_of hV hr ht HSS.out
          have hqn : q.n = n := by unfold Pres.n; rw [ho, HWS.out.on]
          rw [hqn] at h
          obtain ⟨_, _, e1, e2, e3, e4, e5, e6⟩ := HRT.out q r' a' b' ho e h
          obtain ⟨j, jo, jv⟩ := r'
          have hj : j = X := by have h1 := HX.out; have h2 : bt a 1 = 97 + (j : Int) := e2; omega
          cases jo with
          | none => rw [hj, e1]
          | some i =>
            exfalso
            have hi := hr.i i rfl
            have hi' : i < j := hi
            exact lt_ne_dg (i := i) (by omega) hbd.1 hbd.2 (e6.symm.trans hdt)
        obtain ⟨gp, cap, e, ⟨rx, hr1⟩, hr2, hSg, hOP⟩ := op_setPw HP9.out (j := X) (by rw [HWS.out.pl]; exact hX) HO1.out (fun k hk hh => by have h1 := HSZ.out; have h2 := hk.2; have h3 := hh.1.1; omega)
        simp only [Value.slice.injEq] at e
        obtain ⟨rfl, hnn, rfl⟩ := e
        clear hnn
        have hne : qb ≠ gp := by have := hSg.1.2; omega
        have hnp : pb ≠ gp := by have h1 := hSg.1.1; have h2 := HSZ.out; have h3 := HL4.out; omega
        have k1 := HXQ9.out.c1
        have lq := HXQ9.out.lt
        have xq := HXQ9.out.other hne X (.slice a9 n9 c9)
        have xb := HXB9.out.other hnp X (.slice a9 n9 c9)
        have hbw : Below w.heap.size w (wc.setCell ⟨gp, X, none⟩ (.slice a9 n9 c9)) := HW9.out.setCell (p := ⟨gp, X, none⟩) (by have h1 := hSg.1.1; have h2 := HSZ.out; have h3 := HW4.out.size; show _ ≤ gp; omega) _
        have HF := Lib.hid (HSET.out _ _ _ _ _ hOP hbw)
        have n0 := xq.c0
        have n1 := xq.c1
        have n2 := xq.c2
        have m0 := xb.c0
        have m1 := xb.c1
        have m2 := xb.c2
        have f0 := xb.fr 0
        have f1 := xb.fr 1
        have f2 := xb.fr 2
        have l5 := xb.lt
        have l6 := xq.lt
        clear hSg hOP hdt hbw xq xb
        go_wp2_with fail
        refine bodyPost_ret (v := .tuple #[.agg #[.slice q1 n z1, .slice (some ⟨gp, 0, none⟩) n z2, .slice q3 n z3], .bool true]) (by simp [results, Try.results87, go_sem, m0, m1, m2]) rfl ⟨HF.out.2, .inr ⟨_, _, _, (X, none, V), rfl, HF.out.1, ⟨hX, HVL.out trivial⟩, HU.out⟩⟩
      · obtain rfl : db = false := by rw [← HDB.out]; exact beq_eq_false_iff_ne.2 hdt
        have a0 := HXA9.out.c0
        have a1 := HXA9.out.c1
        have a2 := HXA9.out.c2
        have la := HXA9.out.lt
        have HNN : Hid (∀ q r a' b', q.orders = p.orders → [a, b] = [a', b'] → RelT n q r a' b' → ∃ i, r.2.1 = some i ∧ y = (i : Int) ∧ r.1 = X) := fun q r a' b' ho e h => by
          obtain ⟨_, _, e1, e2, e3, e4, e5, e6⟩ := HRT.out q r a' b' ho e h
          obtain ⟨j, jo, jv⟩ := r
          have hj : j = X := by have h1 := HX.out; have h2 : bt a 1 = 97 + (j : Int) := e2; omega
          cases jo with
          | none =>
            exfalso
            apply hdt
            rw [e6]
            show dg (q.r j) = dg o
            rw [hj, ← HO.out]
            show dg (q.orders.getD X 0) = _
            rw [ho]
          | some i => exact ⟨i, rfl, by have h1 := HY.out; have h2 := e5 i rfl; omega, hj⟩
        by_cases hy0 : 0 ≤ y
        case neg =>
          have HNO : Hid (NoR p s.data.toList) := nor_of HWS.out.on HSS.out fun q r a' b' ho e h => by
            obtain ⟨i, _, h2, _⟩ := HNN.out q r a' b' ho e h
            omega
          have hy1 : y < 0 := by omega
          have x5 := HXB9.out
          have m0 := x5.c0
          have m1 := x5.c1
          have m2 := x5.c2
          have f0 := x5.fr 0
          have f1 := x5.fr 1
          have f2 := x5.fr 2
          have l5 := x5.lt
          have HBE := Lib.hid (HW9.out)
          go_wp2_with fail
          refine bodyPost_ret (v := .tuple #[.agg #[.slice (some ⟨bo, oo, none⟩) n aq1, .slice ao2 n aq2, .slice ao3 n aq3], .bool false]) (by simp [results, Try.results87, go_sem, m0, m1, m2]) rfl ⟨?_, .inl ⟨rfl, HNO.out⟩⟩
          exact ((HBE.out.setCell (p := ⟨pb, 0, none⟩) HPB.out _).setCell (p := ⟨pb, 1, none⟩) HPB.out _).setCell (p := ⟨pb, 2, none⟩) HPB.out _
        have hy1 : ¬ y < 0 := by omega
        by_cases hyx : y < X
        case neg =>
          have HNO : Hid (NoR p s.data.toList) := fun q r hV ho hr ht => by
            obtain ⟨a', b', e, h⟩ := relT_of hV hr ht HSS.out
            have hqn : q.n = n := by unfold Pres.n; rw [ho, HWS.out.on]
            rw [hqn] at h
            obtain ⟨i, h1, h2, h3⟩ := HNN.out q r a' b' ho e h
            have := hr.i i h1
            omega
          have hyx1 : (X : Int) ≤ y := by omega
          have x5 := HXB9.out
          have m0 := x5.c0
          have m1 := x5.c1
          have m2 := x5.c2
          have f0 := x5.fr 0
          have f1 := x5.fr 1
          have f2 := x5.fr 2
          have l5 := x5.lt
          have HBE := Lib.hid (HW9.out)
          go_wp2_with fail
          refine bodyPost_ret (v := .tuple #[.agg #[.slice (some ⟨bo, oo, none⟩) n aq1, .slice ao2 n aq2, .slice ao3 n aq3], .bool false]) (by simp [results, Try.results87, go_sem, m0, m1, m2]) rfl ⟨?_, .inl ⟨rfl, HNO.out⟩⟩
          exact ((HBE.out.setCell (p := ⟨pb, 0, none⟩) HPB.out _).setCell (p := ⟨pb, 1, none⟩) HPB.out _).setCell (p := ⟨pb, 2, none⟩) HPB.out _
        have hyx1 : ¬ (X : Int) ≤ y := by omega
        obtain ⟨Y, rfl⟩ : ∃ Y : Nat, y = (Y : Int) := ⟨y.toNat, by omega⟩
        have hYX : Y < X := by omega
        clear hy0 hy1
        have HU : Hid (∀ q r', ValidP q → q.orders = p.orders → GdR q r' → s.data.toList = 32 :: rlnT q r' → r' = (X, some Y, V)) := fun q r' hV ho hr ht => by
          obtain ⟨a', b', e, h⟩ := relT_of hV hr ht HSS.out
          have hqn : q.n = n := by unfold Pres.n; rw [ho, HWS.out.on]
          rw [hqn] at h
          have e1 := (HRT.out q r' a' b' ho e h).2.2.1
          obtain ⟨i, h1, h2, h3⟩ := HNN.out q r' a' b' ho e h
          obtain ⟨j, jo, jv⟩ := r'
          obtain rfl : j = X := h3
          obtain rfl : jo = some i := h1
          have hi : i = Y := by omega
          rw [hi, e1]
        obtain ⟨gc, cap, g2, cap2, e, hc2, ⟨rx, hr1⟩, hr2, hSg, hSg2, hgl1, hgl2, hOP⟩ := op_setCj HP9.out (i := Y) (j := X - Y - 1) (by rw [HWS.out.cl]; omega) (by rw [HWS.out.rl Y (by omega)]; omega) HO1.out (fun k hk hh => by have h1 := HSZ.out; have h2 := hk.2; have h3 := hh.1.1; omega)
        rw [HWS.out.rl Y (by omega)] at hc2
        simp only [Value.slice.injEq] at e
        obtain ⟨rfl, hnn, rfl⟩ := e
        clear hnn
        have hne : qb ≠ g2 := by have := hSg2.1.2; omega
        have hnp : pb ≠ g2 := by have h1 := hSg2.1.1; have h2 := HSZ.out; have h3 := HL4.out; omega
        have k2 := HXQ9.out.c2
        have lq := HXQ9.out.lt
        have xq := HXQ9.out.other hne (X - Y - 1) (.slice a9 n9 c9)
        have xb := HXB9.out.other hnp (X - Y - 1) (.slice a9 n9 c9)
        have hbw : Below w.heap.size w (wc.setCell ⟨g2, X - Y - 1, none⟩ (.slice a9 n9 c9)) := HW9.out.setCell (p := ⟨g2, X - Y - 1, none⟩) (by have h1 := hSg2.1.1; have h2 := HSZ.out; have h3 := HW4.out.size; show _ ≤ g2; omega) _
        have HF := Lib.hid (HSET.out _ _ _ _ _ hOP hbw)
        obtain ⟨Z, hZ⟩ : ∃ Z, X - Y - 1 = Z := ⟨_, rfl⟩
        have HSR : Hid (setR p (X, some Y, V) = ⟨p.orders, p.powers, p.conj.set Y ((p.conj.getD Y []).set Z V)⟩) := by show _ = _; rw [← hZ]; rfl
        rw [hZ] at hr1 hr2 xq xb HF
        rw [← HSR.out] at HF
        have n0 := xq.c0
        have n1 := xq.c1
        have n2 := xq.c2
        have m0 := xb.c0
        have m1 := xb.c1
        have m2 := xb.c2
        have f0 := xb.fr 0
        have f1 := xb.fr 1
        have f2 := xb.fr 2
        have l5 := xb.lt
        have l6 := xq.lt
        have hYI : (Y : Int) < (X : Int) := by omega
        have W1 : IntKind.i64.wrap ((X : Int) - (Y : Int) - 1) = (Z : Int) := by rw [IntWalk.i64_in _ (by omega)]; omega
        have W2 : (X : Int) - (Y : Int) - 1 = (Z : Int) := by omega
        have hZn : Z < n - (Y + 1) := by omega
        have hYn : (Y : Int) < (n : Int) := by omega
        clear hSg hSg2 hOP hdt hbw xq xb hZ a0 a1 a2 la
        go_wp2_with fail
        refine bodyPost_ret (v := .tuple #[.agg #[.slice q1 n z1, .slice q2 n z2, .slice (some ⟨gc, 0, none⟩) n z3], .bool true]) (by simp [results, Try.results87, go_sem, m0, m1, m2]) rfl ⟨HF.out.2, .inr ⟨_, _, _, (X, some Y, V), rfl, HF.out.1, ⟨hYX, hX, HVL.out trivial⟩, HU.out⟩⟩
--== end
end Go.Proofs.Ytiikoappknejgaa
namespace Go.Proofs.Ytiikoappknejgaa
set_option linter.unusedVariables false
set_option linter.unusedSimpArgs false
set_option maxRecDepth 100000
open Go.RowKit Go.PlainAid
attribute [local go_sem ↓] Go.wp_at_zero Go.wp_at_succ

--== plain
theorem BOpen.outD {w0 w wx : World} {b2 b4 : Nat} {P : Pres} {a1 c1 a2 n2 c2 a3 n3 c3} (h : BOpen w b2 b4 P a1 c1 a2 n2 c2 a3 n3 c3 wx) (hw : Below w0.heap.size w0 w) (hb2 : w0.heap.size ≤ b2) {n : Nat} (hn : P.orders.length = n) :
    OP (((wx.setCell ⟨b2, 0, none⟩ (.slice a1 n c1)).setCell ⟨b2, 1, none⟩ (.slice a2 n2 c2)).setCell ⟨b2, 2, none⟩ (.slice a3 n3 c3)) (win w0.heap.size (((wx.setCell ⟨b2, 0, none⟩ (.slice a1 n c1)).setCell ⟨b2, 1, none⟩ (.slice a2 n2 c2)).setCell ⟨b2, 2, none⟩ (.slice a3 n3 c3)).heap.size) (.slice a1 n c1) (.slice a2 n2 c2) (.slice a3 n3 c3) P ∧
      Below w0.heap.size w0 (((wx.setCell ⟨b2, 0, none⟩ (.slice a1 n c1)).setCell ⟨b2, 1, none⟩ (.slice a2 n2 c2)).setCell ⟨b2, 2, none⟩ (.slice a3 n3 c3)) := by
  subst hn
  have hs := hw.size
  exact ⟨OP.sub (OP.sets (OP.sets (OP.sets h.op (b := b2) (fun hh => hh.2.1 rfl) 0 _) (b := b2) (fun hh => hh.2.1 rfl) 1 _) (b := b2) (fun hh => hh.2.1 rfl) 2 _) (fun k hk hh => ⟨Nat.le_trans hs hh.1, hk⟩),
    (((below_size hw h.be).setCell (p := ⟨b2, 0, none⟩) hb2 _).setCell (p := ⟨b2, 1, none⟩) hb2 _).setCell (p := ⟨b2, 2, none⟩) hb2 _⟩
def ParP (t : Txt) (p : Pres) : Prop := ValidP p ∧ ptx p = t ∧ ∀ q, ValidP q → ptx q = t → q = p
def NoP (t : Txt) : Prop := ∀ q, ValidP q → ptx q = t → False
open Classical in
/-- the presentation that a text is, or the empty one -/
noncomputable def parX (t : Txt) : Pres := if h : ∃ p, ParP t p then h.choose else noP
open Classical in
noncomputable def parC (t : Txt) : Int := if ∃ p, ParP t p then 0 else 6
theorem par_yes {t : Txt} {p : Pres} (h : ParP t p) : parX t = p ∧ parC t = 0 := by
  have he : ∃ p, ParP t p := ⟨p, h⟩
  have hc := he.choose_spec
  refine ⟨?_, if_pos he⟩
  unfold parX
  rw [dif_pos he]
  exact h.2.2 _ hc.1 hc.2.1
theorem par_no {t : Txt} (h : NoP t) : parX t = noP ∧ parC t = 6 := by
  have he : ¬ ∃ p, ParP t p := fun ⟨p, hp⟩ => h p hp.1 hp.2.1
  exact ⟨dif_neg he, if_neg he⟩
theorem parX_ok (t : Txt) : parX t = okP (parC t) (parX t) := by
  by_cases he : ∃ p, ParP t p
  · obtain ⟨p, hp⟩ := he
    rw [(par_yes hp).2, okP_zero]
  · have h6 : parC t = 6 := if_neg he
    rw [h6, okP_ne _ (by omega)]
    exact dif_neg he
theorem len_ParsePresentation (t : Txt) : psize (parX t) ≤ 1000000000 := by
  by_cases he : ∃ p, ParP t p
  · obtain ⟨p, hp⟩ := he
    rw [(par_yes hp).1]; exact valid_size hp.1
  · have h6 : parX t = noP := dif_neg he
    rw [h6]; exact psize_bd (by simp [noP]) (by simp [noP]) (by simp [noP]) (fun x hx => by simp [noP] at hx) (fun y hy => by simp [noP] at hy)
theorem splG_len (b : UInt8) : ∀ (t : Txt) (d : List Txt) (c : Txt), d.length < (splG b d c t).length ∧ (splG b d c t).length ≤ d.length + t.length + 1 := by
  intro t
  induction t with
  | nil => intro d c; simp [splG]
  | cons y t ih =>
    intro d c
    rw [splG, List.length_cons]
    split
    · have := ih (d ++ [c]) []
      rw [List.length_append, List.length_singleton] at this
      omega
    · have := ih d (c ++ [y])
      omega
theorem spl_len (b : UInt8) (t : Txt) : 0 < (spl b t).length ∧ (spl b t).length ≤ t.length + 1 := by
  have := splG_len b t [] []
  unfold spl
  rw [List.length_nil] at this
  omega
theorem part0S {ss : List ByteArray} {t : Txt} (h : ss.map (·.data.toList) = spl 59 t) (h0 : 0 < ss.length) {q : Pres} (hV : ValidP q) (ht : ptx q = t) : (ss[0]).data.toList = ordT q := by
  rw [← ht, spl_ptx hV] at h
  cases ss with
  | nil => simp at h0
  | cons a r => exact (List.cons.inj h).1
theorem part_atS {ss : List ByteArray} {t : Txt} (h : ss.map (·.data.toList) = spl 59 t) {q : Pres} (hV : ValidP q) (ht : ptx q = t) {j : Nat} (hj : j + 1 < ss.length) : ∃ r, (ss[j + 1]).data.toList = 32 :: rlnT q r ∧ GdR q r ∧ (rlns q).take (j + 1) = (rlns q).take j ++ [r] := by
  rw [← ht, spl_ptx hV] at h
  have e : (ss.map (·.data.toList))[j + 1]? = ((rlns q).map fun r => 32 :: rlnT q r)[j]? := by rw [h]; rfl
  have hl := congrArg List.length h
  simp only [List.length_map, List.length_cons] at hl
  have hj' : j < (rlns q).length := by omega
  rw [List.getElem?_map, List.getElem?_eq_getElem hj, List.getElem?_map, List.getElem?_eq_getElem hj'] at e
  exact ⟨(rlns q)[j], Option.some.inj e, gd_rlns hV (List.getElem_mem hj'), by rw [List.take_add_one, List.getElem?_eq_getElem hj']; rfl⟩
theorem valid_psS {P : Pres} {t : Txt} {ss : List ByteArray} {m : Nat} (hm : ss.length = m + 1) (h : ss.map (·.data.toList) = spl 59 t) (hQ : ∀ q, ValidP q → ptx q = t → P = setA (triv q.orders) ((rlns q).take m)) : ∀ q, ValidP q → ptx q = t → q = P := fun q hV ht => by
  have hq := hQ q hV ht
  rw [← ht, spl_ptx hV] at h
  have hl := congrArg List.length h
  simp only [List.length_map, List.length_cons] at hl
  rw [hq, List.take_of_length_le (by omega), setA_all hV]
theorem part_leS {ss : List ByteArray} {t : Txt} {b : UInt8} (h : ss.map (·.data.toList) = spl b t) {x : ByteArray} (hx : x ∈ ss) : x.size ≤ t.length := by
  have h1 : x.data.toList ∈ spl b t := by rw [← h]; exact List.mem_map_of_mem hx
  have := spl_le h1
  rw [data_len] at this
  exact this
/-- what the reader of a relation answers, its slices open -/
theorem RelR.open {w w' : World} {n : Nat} {p : Pres} {t : Txt} {a1 a2 a3 : Option Addr} {c1 c2 c3 : Nat} {e : Ending} (h : RelR w n p t (.slice a1 n c1) (.slice a2 n c2) (.slice a3 n c3) e w') (hW : WS n p) :
    ∃ b1 d1 b2 d2 b3 d3 ok, e = .returned (.tuple #[.agg #[.slice b1 n d1, .slice b2 n d2, .slice b3 n d3], .bool ok]) ∧ Below w.heap.size w w' ∧
      ((ok = false ∧ NoR p t) ∨ (ok = true ∧ ∃ r, OP w' (win w.heap.size w'.heap.size) (.slice b1 n d1) (.slice b2 n d2) (.slice b3 n d3) (setR p r) ∧ InR n r ∧ ∀ q r', ValidP q → q.orders = p.orders → GdR q r' → t = 32 :: rlnT q r' → r' = r)) := by
  obtain ⟨hB, ⟨rfl, hN⟩ | ⟨u1, u2, u3, r, rfl, hO, hR, hU⟩⟩ := h
  · exact ⟨_, _, _, _, _, _, _, rfl, hB, .inl ⟨rfl, hN⟩⟩
  · have hW2 := ws_set hW hR
    obtain ⟨⟨b1, d1, rfl⟩, ⟨b2, d2, rfl⟩, ⟨b3, d3, rfl⟩⟩ := hO.formsN hW2.on hW2.pl hW2.cl
    exact ⟨_, _, _, _, _, _, _, rfl, hB, .inr ⟨rfl, r, hO, hR, hU⟩⟩
--== spec.ParsePresentation
set_option maxHeartbeats 4000000 in
theorem s_ParsePresentation (s : ByteArray) (w : World) (hs : s.size ≤ 2000000) :
    Calls Try.prog 83 #[.string s] w (RetP2 w (parX s.data.toList) (parC s.data.toList)) := by
  have g0 := below_alloc w (Obj.cells #[Value.slice none 0 0, Value.slice none 0 0, Value.slice none 0 0] 28)
  have HX0 := Lib.hid (Bx.new w (Value.slice none 0 0) (Value.slice none 0 0) (Value.slice none 0 0))
  have HSP : Hid (∀ wx, Calls Try.prog 85 #[.string s, .int .u8 59] wx (RetStrs wx (spl 59 s.data.toList))) := fun wx => s_l01Split s 59 wx (by omega)
  have HG0 := Lib.hid g0
  have HNOP : Hid (NoP s.data.toList → ∀ wx, Below w.heap.size w wx → RetP2 w (parX s.data.toList) (parC s.data.toList) (.returned (.tuple #[.agg #[.slice none 0 0, .slice none 0 0, .slice none 0 0], .int .i64 6])) (((wx.setCell ⟨w.heap.size, 0, none⟩ (.slice none 0 0)).setCell ⟨w.heap.size, 1, none⟩ (.slice none 0 0)).setCell ⟨w.heap.size, 2, none⟩ (.slice none 0 0))) := fun hN wx hB => by
    obtain ⟨e1, e2⟩ := par_no hN
    have hO := op_out (b := w.heap.size) (OP.none wx (fun _ => False)) (fun k hk => hk.elim) hB (Nat.le_refl _)
    exact ⟨_, _, _, by rw [e2], by rw [e1]; exact hO.1, hO.2⟩
  clear g0
  go_enter Try.func83, Try.ntmps83
  go_wp2_with fail
  generalize w.alloc (Obj.cells #[Value.slice none 0 0, Value.slice none 0 0, Value.slice none 0 0] 28) = w1 at *
  refine (HSP.out _).mono ?_
  rintro e w2 ⟨sv, ss, rfl, hSS, hss, hB2⟩
  obtain ⟨m, hm⟩ : ∃ m, ss.length = m + 1 := ⟨ss.length - 1, by have := (spl_len 59 s.data.toList).1; rw [← strs_lenS hss] at this; omega⟩
  have hmb : m ≤ 2000000 := by have := (spl_len 59 s.data.toList).2; rw [← strs_lenS hss, data_len] at this; omega
  obtain ⟨sa, sc, rfl, hsc⟩ := hSS.formN hm
  obtain ⟨g, rfl, hgl, hgw, hc0⟩ := hSS.at (j := 0) (s := ss[0]) (by simp)
  obtain ⟨x0, hx0⟩ : ∃ x, ss[0] = x := ⟨_, rfl⟩
  rw [hx0] at hc0
  have hx0s : x0.size ≤ 2000000 := by
    have := part_leS hss (x := x0) (by rw [← hx0]; exact List.getElem_mem (by omega))
    rw [data_len] at this
    omega
  have HX0T : Hid (∀ q, ValidP q → ptx q = s.data.toList → x0.data.toList = ordT q) := fun q hV ht => by
    rw [← hx0]; exact part0S hss (by omega) hV ht
  have HSS := Lib.hid hss
  have HW2 := Lib.hid (below_size HG0.out hB2)
  have HX2 := Lib.hid (HX0.out.below hB2 HX0.out.lt)
  have HLL := Lib.hid hSS
  have HM := Lib.hid hm
  have HS := Lib.hid hs
  clear hss hB2 hSS hx0 hm hsc hs
  go_wp2_with fail
  refine (s_l07Orders x0 _ hx0s).mono ?_
  rintro e w3 ⟨v, os, ok, rfl, hI3, hB3, hok, hQ⟩
  obtain ⟨n, hn⟩ : ∃ n, os.length = n := ⟨_, rfl⟩
  obtain ⟨oa, oc, rfl, _, _⟩ := hI3.rd.formN hn
  have HI3 := Lib.hid hI3.rd
  have HW3 := Lib.hid (below_size HW2.out hB3)
  have HB3 := Lib.hid hB3
  have HX3 := Lib.hid (HX2.out.below hB3 HX2.out.lt)
  have HQ := Lib.hid hQ
  have HN := Lib.hid hn
  clear hc0 hI3 hB3 hQ hn
  by_cases hokt : ok = true
  case neg =>
    obtain rfl : ok = false := by simpa using hokt
    have HNO : Hid (NoP s.data.toList) := fun q hV ht => Bool.false_ne_true (HQ.out q hV (HX0T.out q hV ht)).1
    have m0 := HX3.out.c0
    have m1 := HX3.out.c1
    have m2 := HX3.out.c2
    have f0 := HX3.out.fr 0
    have f1 := HX3.out.fr 1
    have f2 := HX3.out.fr 2
    have l3 := HX3.out.lt
    clear hok hokt
    go_wp2_with fail
    exact bodyPost_ret (v := .tuple #[.agg #[.slice none 0 0, .slice none 0 0, .slice none 0 0], .int .i64 6]) (by simp [results, Try.results83, go_sem, m0, m1, m2]) rfl (HNOP.out HNO.out _ HW3.out)
  subst hokt
  obtain ⟨h6, hpr⟩ := hok rfl
  have h6n : n ≤ 6 := by rw [← HN.out]; exact h6
  have HOS : Hid (∀ q, ValidP q → ptx q = s.data.toList → os = q.orders) := fun q hV ht => (HQ.out q hV (HX0T.out q hV ht)).2
  have HWS0 : Hid (WS n (triv os)) := by have := ws_triv hpr; rw [HN.out] at this; exact this
  clear hok h6 hpr
  go_wp2_with fail
  refine (s_l07Trivial _ os _ HI3.out (by rw [HN.out]; omega)).mono ?_
  rintro e w4 ⟨v1, v2, v3, rfl, hP4, hB4⟩
  obtain ⟨⟨d1, e1, rfl⟩, ⟨d2, e2, rfl⟩, ⟨d3, e3, rfl⟩⟩ := hP4.formsN HWS0.out.on HWS0.out.pl HWS0.out.cl
  have HLW : Hid (w.heap.size < w2.heap.size) := HX2.out.lt
  have HZ3 := Lib.hid HB3.out.size
  have hI0 : BInv w2 w.heap.size w4.heap.size (triv os) (w4.alloc (.cells #[.slice d1 n e1, .slice d2 n e2, .slice d3 n e3] 28)) :=
    BInv.mk2 (w := w2) (HX3.out.below hB4 HX3.out.lt) hP4 (fun k hk => by have h1 := hk.1; have := HZ3.out; have := HLW.out; exact ⟨by omega, by omega⟩) (below_size HB3.out hB4)
  have HI0 := Lib.hid hI0
  have HL4 : Hid (w2.heap.size ≤ w4.heap.size ∧ w.heap.size < w4.heap.size) := by have h1 := HB3.out.size; have h2 := hB4.size; have h3 := HLW.out; exact ⟨by omega, by omega⟩
  clear hI0 hP4 hB4
  go_wp2_with fail
  generalize w4.alloc (.cells #[.slice d1 n e1, .slice d2 n e2, .slice d3 n e3] 28) = w5 at *
  generalize w4.heap.size = b4 at *
  go_loopw [8] (fun i wr => ∃ (j : Nat) (P : Pres), j ≤ m ∧ i = .int .i64 ((j : Int) + 1) ∧ BInv w2 w.heap.size b4 P wr ∧ Hid (WS n P) ∧ Hid (P.orders = os) ∧ Hid (∀ q, ValidP q → ptx q = s.data.toList → P = setA (triv q.orders) ((rlns q).take j))) (fun i _ => m + 1 - (intOf i).toNat)
  case atStart => exact ⟨0, _, Nat.zero_le _, rfl, HI0.out, HWS0, rfl, fun q hV ht => by rw [HOS.out q hV ht]; rfl⟩
  case round =>
    clear HI0 HWS0
    obtain ⟨j, P, hj, rfl, hI, HWS, HPO, HPQ⟩ := hrel
    obtain ⟨p1, o1, p2, c2, p3, c3, hBO⟩ := hI.open HWS.out.pl HWS.out.cl
    have HBO := Lib.hid hBO
    have HW := Lib.hid hBO.be
    have m0 := hBO.x4.c0
    have m1 := hBO.x4.c1
    have m2 := hBO.x4.c2
    rw [HWS.out.on] at m0
    have l4 := hBO.x4.lt
    have HR := hBO.op.rd
    rw [HWS.out.on] at HR
    have HRd := Lib.hid HR
    clear HR hI hBO
    by_cases hlt : j < m
    · have hjs : j + 1 < ss.length := by have := HM.out; omega
      obtain ⟨x, hx⟩ : ∃ x, ss[j + 1] = x := ⟨_, rfl⟩
      obtain ⟨g', e, _, _, hc⟩ := HLL.out.at (j := j + 1) (s := ss[j + 1]) (by simp)
      simp only [Option.some.injEq, Addr.mk.injEq] at e
      obtain ⟨rfl, _⟩ := e
      rw [hx] at hc
      have hc' := below_cells HW.out _ _ hc
      have hxs : x.size ≤ 2000000 := by
        have := part_leS HSS.out (x := x) (by rw [← hx]; exact List.getElem_mem hjs)
        rw [data_len] at this
        have := HS.out
        omega
      have HPR : Hid (∀ q, ValidP q → ptx q = s.data.toList → ∃ r, x.data.toList = 32 :: rlnT q r ∧ GdR q r ∧ (rlns q).take (j + 1) = (rlns q).take j ++ [r]) := fun q hV ht => by
        rw [← hx]; exact part_atS HSS.out hV ht hjs
      have HRL := Lib.hid (s_l07Relation HWS.out h6n _ _ _ x wr.drew HRd.out hxs)
      have hg2 := World.block_lt_of_cell? _ _ hc'
      have hltI : (j : Int) + 1 < (m : Int) + 1 := by omega
      have hj0 : (0 : Int) ≤ (j : Int) + 1 := by omega
      clear hx hc hjs
      go_upto_region 9 with fail
      go_cut [6] (fun u wx => ∃ b1 k1 b2 k2 b3 k3 ok w3, u = .bool ok ∧ wx = ((w3.setCell ⟨b4, 0, none⟩ (.slice b1 n k1)).setCell ⟨b4, 1, none⟩ (.slice b2 n k2)).setCell ⟨b4, 2, none⟩ (.slice b3 n k3) ∧ Below wr.heap.size wr w3 ∧
          ((ok = false ∧ NoR P x.data.toList) ∨ (ok = true ∧ ∃ r, OP w3 (win wr.heap.size w3.heap.size) (.slice b1 n k1) (.slice b2 n k2) (.slice b3 n k3) (setR P r) ∧ InR n r ∧ ∀ q r', ValidP q → q.orders = P.orders → GdR q r' → x.data.toList = 32 :: rlnT q r' → r' = r)))
      case first =>
        go_region_law (go_simp; go_at_call 87; go_must (refine HRL.out.mono ?_); rintro e w3 hr; obtain ⟨b1, k1, b2, k2, b3, k3, ok, rfl, hB3, hor⟩ := hr.open HWS.out; have x3 := HBO.out.x4.below (below_size (Below.refl _ _).drew hB3) HBO.out.x4.lt; have n0 := x3.c0; have n1 := x3.c1; have n2 := x3.c2; have f0 := x3.fr 0; have f1 := x3.fr 1; have f2 := x3.fr 2; have l3 := x3.lt)
        all_goals (go_wp2_with fail; go_meet; exact ⟨_, _, _, _, _, _, _, _, rfl, rfl, below_size (Below.refl _ _).drew hB3, hor⟩)
      case rest =>
        obtain ⟨b1, k1, b2, k2, b3, k3, ok, w3, rfl, rfl, hB3, hor⟩ := hcut
        have HX23 := HBO.out.x2.below hB3 HBO.out.x2.lt
        have HX43 := HBO.out.x4.below hB3 HBO.out.x4.lt
        have hB3w := below_size HBO.out.be hB3
        have hne : w.heap.size ≠ b4 := by have := HL4.out.2; omega
        clear m0 m1 m2 hc'
        rcases hor with ⟨rfl, hno⟩ | ⟨rfl, r, hO, hR, hU⟩
        · have HNO : Hid (NoP s.data.toList) := fun q hV ht => by
            obtain ⟨r, h1, h2, _⟩ := HPR.out q hV ht
            exact hno q r hV (by rw [HPO.out, HOS.out q hV ht]) h2 h1
          have x5 := ((HX23.other hne 0 (.slice b1 n k1)).other hne 1 (.slice b2 n k2)).other hne 2 (.slice b3 n k3)
          have HBE := Lib.hid (set3 (below_size HW2.out hB3w) (b := b4) (by have := HL4.out.2; omega) (.slice b1 n k1) (.slice b2 n k2) (.slice b3 n k3))
          have m0 := x5.c0
          have m1 := x5.c1
          have m2 := x5.c2
          have f0 := x5.fr 0
          have f1 := x5.fr 1
          have f2 := x5.fr 2
          have l5 := x5.lt
          clear x5 HX23 HX43 hB3w hno hB3
          generalize ((w3.setCell ⟨b4, 0, none⟩ (.slice b1 n k1)).setCell ⟨b4, 1, none⟩ (.slice b2 n k2)).setCell ⟨b4, 2, none⟩ (.slice b3 n k3) = w9 at *
          go_wp2_with fail
          exact bodyPost_ret (v := .tuple #[.agg #[.slice none 0 0, .slice none 0 0, .slice none 0 0], .int .i64 6]) (by simp [results, Try.results83, go_sem, m0, m1, m2]) rfl (HNOP.out HNO.out _ HBE.out)
        · have hwz := HBO.out.be.size
          have HINV := Lib.hid (BInv.mk1 (w := w2) (b2 := w.heap.size) HX23 HX43 hO (fun k hk => by have h1 := hk.1; have h2 := HBO.out.x2.lt; have h3 := HBO.out.x4.lt; exact ⟨by omega, by omega, by omega⟩) hB3w HL4.out.1 hne)
          have HNW : Hid (WS n (setR P r)) := ws_set HWS.out hR
          have HNO : Hid ((setR P r).orders = os) := by
            show (setR P r).orders = os
            rw [← HPO.out]
            obtain ⟨rj, ro, rv⟩ := r
            cases ro <;> rfl
          have HNQ : Hid (∀ q, ValidP q → ptx q = s.data.toList → setR P r = setA (triv q.orders) ((rlns q).take (j + 1))) := fun q hV ht => by
            obtain ⟨r', h1, h2, h3⟩ := HPR.out q hV ht
            have := hU q r' hV (by rw [HPO.out, HOS.out q hV ht]) h2 h1
            subst this
            rw [h3, setA_snoc, ← HPQ.out q hV ht]
          clear HX23 HX43 hB3w hO hR hU hB3 hwz
          generalize ((w3.setCell ⟨b4, 0, none⟩ (.slice b1 n k1)).setCell ⟨b4, 1, none⟩ (.slice b2 n k2)).setCell ⟨b4, 2, none⟩ (.slice b3 n k3) = w9 at *
          go_wp2_with fail
          go_roundw
          case rel => exact ⟨j + 1, _, by omega, by go_num, HINV.out, HNW, HNO, HNQ⟩
          case measure => simp [intOf]; omega
    · obtain rfl : j = m := by omega
      have HALL : Hid (∀ q, ValidP q → ptx q = s.data.toList → q = P) := valid_psS HM.out HSS.out HPQ.out
      clear hj hlt
      go_wp2_with fail
      refine (s_IsPresentation _ _ _ P _ HRd.out).mono ?_
      rintro e w6 ⟨rfl, hB6⟩
      have HBO6 := Lib.hid (HBO.out.below hB6)
      clear hB6 m0 m1 m2
      have m0 := HBO6.out.x4.c0
      have m1 := HBO6.out.x4.c1
      have m2 := HBO6.out.x4.c2
      rw [HWS.out.on] at m0
      by_cases hv : validB P = true
      case neg =>
        have hv' : validB P = false := by simpa using hv
        have HNO : Hid (NoP s.data.toList) := fun q hV ht => by
          have e := HALL.out q hV ht
          rw [e] at hV
          exact hv (validB_true.2 hV)
        rw [hv']
        clear hv hv' m0 m1 m2
        have x5 := HBO6.out.x2
        have m0 := x5.c0
        have m1 := x5.c1
        have m2 := x5.c2
        have f0 := x5.fr 0
        have f1 := x5.fr 1
        have f2 := x5.fr 2
        have l5 := x5.lt
        have HBE := Lib.hid (below_size HW2.out HBO6.out.be)
        go_wp2_with fail
        exact bodyPost_ret (v := .tuple #[.agg #[.slice none 0 0, .slice none 0 0, .slice none 0 0], .int .i64 6]) (by simp [results, Try.results83, go_sem, m0, m1, m2]) rfl (HNOP.out HNO.out _ HBE.out)
      have HV := Lib.hid (validB_true.1 hv)
      rw [hv]
      clear hv
      have HR6 := HBO6.out.op.rd
      rw [HWS.out.on] at HR6
      have HR6d := Lib.hid HR6
      clear HR6
      go_wp2_with fail
      refine (s_l07Text HV.out _ _ _ _ HR6d.out).mono ?_
      rintro e w7 ⟨s2, rfl, hs2, hB7⟩
      have HBO7 := Lib.hid (HBO6.out.below hB7)
      have HS2 := Lib.hid hs2
      clear hs2 hB7 m0 m1 m2
      have x5 := HBO7.out.x2
      have m0 := x5.c0
      have m1 := x5.c1
      have m2 := x5.c2
      have f0 := x5.fr 0
      have f1 := x5.fr 1
      have f2 := x5.fr 2
      have l5 := x5.lt
      by_cases hss : s2.data.toList = s.data.toList
      · have hst : (s2.toList == s.toList) = true := by rw [ByteArray.toList_eq, ByteArray.toList_eq, hss]; exact beq_self_eq_true _
        have hse : s2 = s := ba_ext hss
        have HPP : Hid (ParP s.data.toList P) := ⟨HV.out, by rw [← HS2.out, hss], HALL.out⟩
        have HE := Lib.hid (par_yes HPP.out)
        have n0 := HBO7.out.x4.c0
        have n1 := HBO7.out.x4.c1
        have n2 := HBO7.out.x4.c2
        rw [HWS.out.on] at n0
        have HOUT := Lib.hid (HBO7.out.outD HW2.out (Nat.le_refl _) HWS.out.on)
        go_wp2_with fail
        refine bodyPost_ret (v := .tuple #[.agg #[.slice p1 n o1, .slice p2 n c2, .slice p3 n c3], .int .i64 0]) (by simp [results, Try.results83, go_sem, m0, m1, m2]) rfl ⟨_, _, _, by rw [HE.out.2], by rw [HE.out.1]; exact HOUT.out.1, HOUT.out.2⟩
      · have hst : (s2.toList == s.toList) = false := by rw [ByteArray.toList_eq, ByteArray.toList_eq]; simpa using hss
        have hse : ¬ s2 = s := fun e => hss (by rw [e])
        have HNO : Hid (NoP s.data.toList) := fun q hV ht => by
          have e := HALL.out q hV ht
          rw [e] at ht
          exact hss (HS2.out.trans ht)
        have HBE := Lib.hid (below_size HW2.out HBO7.out.be)
        go_wp2_with fail
        exact bodyPost_ret (v := .tuple #[.agg #[.slice none 0 0, .slice none 0 0, .slice none 0 0], .int .i64 6]) (by simp [results, Try.results83, go_sem, m0, m1, m2]) rfl (HNOP.out HNO.out _ HBE.out)
--== end
end Go.Proofs.Ytiikoappknejgaa
namespace Go.Proofs.Ytiikoappknejgaa
set_option linter.unusedVariables false
set_option linter.unusedSimpArgs false
set_option maxRecDepth 100000
open Go.RowKit
attribute [local go_sem ↓] Go.wp_at_zero Go.wp_at_succ

--== plain
theorem ws_valid {p : Pres} (h : ValidP p) : WS p.n p where
  on := rfl
  pr := (ordB_true h.ord).1
  pl := h.pl
  cl := h.cl
  rl i hi := by have := h.clen i hi; omega
  pv i hi := (h.valid.pow i hi).len
  cv i k hi hk := (tailB_true ((rowB_true (h.row i hi)).2.2 k (by have := h.clen i hi; omega))).1
/-- box b2 is empty yet, box b4 holds a presentation of n levels; all lie from block N on -/
def BY (N b2 b4 n : Nat) (wx : World) : Prop :=
  N ≤ b2 ∧ N ≤ b4 ∧ b2 ≠ b4 ∧ ∃ P v1 v2 v3, WS n P ∧ Bx wx b2 (.slice none 0 0) (.slice none 0 0) (.slice none 0 0) ∧ Bx wx b4 v1 v2 v3 ∧ OP wx (fun k => N ≤ k ∧ k ≠ b2 ∧ k ≠ b4) v1 v2 v3 P
theorem BY.mk {N b2 n : Nat} {wx : World} {S : Nat → Prop} {v1 v2 v3 : Value} {P : Pres} (X2 : Bx wx b2 (.slice none 0 0) (.slice none 0 0) (.slice none 0 0)) (h : OP wx S v1 v2 v3 P) (hS : ∀ k, S k → k < wx.heap.size → N ≤ k ∧ k ≠ b2) (hW : WS n P) (h2 : N ≤ b2) :
    BY N b2 wx.heap.size n (wx.alloc (.cells #[v1, v2, v3] 28)) := by
  have l2 := X2.lt
  exact ⟨h2, by omega, by omega, P, v1, v2, v3, hW, X2.old _, Bx.new wx _ _ _, OP.sub (OP.below (OP.sub (S' := fun k => S k ∧ k < wx.heap.size) h fun k hk hs => ⟨hs, hk⟩) (below_alloc wx _)) fun k _ hk => ⟨(hS k hk.1 hk.2).1, (hS k hk.1 hk.2).2, by have := hk.2; omega⟩⟩
theorem BY.set {N b2 b4 n : Nat} {wx : World} {S : Nat → Prop} {u1 u2 u3 v1 v2 v3 : Value} {P : Pres} (X2 : Bx wx b2 (.slice none 0 0) (.slice none 0 0) (.slice none 0 0)) (X4 : Bx wx b4 u1 u2 u3) (h : OP wx S v1 v2 v3 P) (hS : ∀ k, S k → k < wx.heap.size → N ≤ k ∧ k ≠ b2 ∧ k ≠ b4) (hW : WS n P) (h2 : N ≤ b2) (h4 : N ≤ b4) (hne : b2 ≠ b4) :
    BY N b2 b4 n (((wx.setCell ⟨b4, 0, none⟩ v1).setCell ⟨b4, 1, none⟩ v2).setCell ⟨b4, 2, none⟩ v3) := by
  have h' := OP.sub (S' := fun k => N ≤ k ∧ k ≠ b2 ∧ k ≠ b4) h fun k hk hs => hS k hs hk
  have n4 : ¬ (fun k => N ≤ k ∧ k ≠ b2 ∧ k ≠ b4) b4 := fun h => h.2.2 rfl
  exact ⟨h2, h4, hne, P, v1, v2, v3, hW, ((X2.other hne 0 _).other hne 1 _).other hne 2 _, ((X4.set0 _).set1 _).set2 _, OP.sets (OP.sets (OP.sets h' n4 0 _) n4 1 _) n4 2 _⟩
theorem BY.step {N b2 b4 n b : Nat} {wx wy : World} (h : BY N b2 b4 n wx) (hc : ChgS (fun k => k = b) wx wy) (hb : b < N) : BY N b2 b4 n wy := by
  obtain ⟨h2, h4, hne, P, v1, v2, v3, hW, X2, X4, hO⟩ := h
  exact ⟨h2, h4, hne, P, v1, v2, v3, hW, X2.chg hc (by omega), X4.chg hc (by omega), OP.chg hO hc fun k hk e => by have := hk.1; omega⟩
theorem BY.pow {N b2 b4 n b i : Nat} {wx : World} (h : BY N b2 b4 n wx) (hb : b < N) (hi : i < n) :
    ∃ a1 c1 g c2 a3 c3, N ≤ g ∧ ∀ w3, ChgS (fun k => k = b) wx w3 → Bx w3 b4 (.slice a1 n c1) (.slice (some ⟨g, 0, none⟩) n c2) (.slice a3 n c3) ∧ (∃ r, w3.cell? ⟨g, i, none⟩ = some r) ∧ w3.frozen? ⟨g, i, none⟩ = false ∧
      ∀ u row, row.length = n → Ints w3 wx.heap.size u row → BY N b2 b4 n (w3.setCell ⟨g, i, none⟩ u) := by
  obtain ⟨h2, h4, hne, P, v1, v2, v3, hW, X2, X4, hO⟩ := h
  obtain ⟨⟨a1, c1, rfl⟩, ⟨a2, c2, rfl⟩, ⟨a3, c3, rfl⟩⟩ := hO.formsN hW.on hW.pl hW.cl
  have h0 := OP.sub (S' := fun k => (N ≤ k ∧ k ≠ b2 ∧ k ≠ b4) ∧ k < wx.heap.size) hO fun k hk hh => ⟨hh, hk⟩
  have hpl := hW.pl
  obtain ⟨g, cap, e0, ⟨r, hr⟩, hfz, hSg, _⟩ := op_setPw h0 (j := i) (by omega) (T := fun _ => False) (y := .slice none 0 0) (d := []) (local_O1.nil _ _) (fun k hk => hk.elim)
  simp only [Value.slice.injEq] at e0
  obtain ⟨rfl, _, rfl⟩ := e0
  have l2 := X2.lt
  have l4 := X4.lt
  refine ⟨a1, c1, g, c2, a3, c3, hSg.1.1, fun w3 hc => ?_⟩
  have hg := hc.at hSg.2 (by have := hSg.1.1; omega)
  refine ⟨X4.chg hc (by omega), ⟨r, (hg.1 i).trans hr⟩, (hg.2 i).trans hfz, fun u row hl hI => ?_⟩
  have hop := OP.chg h0 hc fun k hk e => by have := hk.1.1; omega
  obtain ⟨g', cap', e', _, _, _, hP⟩ := op_setPw hop (j := i) (by omega) (T := fun k => wx.heap.size ≤ k) ⟨hI.mono (Nat.zero_le _), fun g hg => (hI.lt g hg).1⟩ (fun k hk hh => by have h1 : wx.heap.size ≤ k := hk; have h2 := hh.2; omega)
  simp only [Value.slice.injEq, Option.some.injEq, Addr.mk.injEq] at e'
  obtain ⟨⟨rfl, _⟩, _, _⟩ := e'
  refine ⟨h2, h4, hne, _, _, _, _, ws_stP hW hi hl, (X2.chg hc (by omega)).other (Ne.symm hSg.1.2.1) i _, (X4.chg hc (by omega)).other (Ne.symm hSg.1.2.2) i _, OP.sub hP fun k hk hh => ?_⟩
  rcases hh with ⟨hh, _⟩ | hh
  · exact hh
  · have hh' : wx.heap.size ≤ k := hh
    exact ⟨by have := hSg.1.1; omega, by omega, by omega⟩
theorem BY.cnj {N b2 b4 n b i j : Nat} {wx : World} (h : BY N b2 b4 n wx) (hb : b < N) (hi : i < n) (hj : j < n - (i + 1)) :
    ∃ a1 c1 a2 c2 g c3 g2 q2, N ≤ g2 ∧ ∀ w3, ChgS (fun k => k = b) wx w3 → Bx w3 b4 (.slice a1 n c1) (.slice a2 n c2) (.slice (some ⟨g, 0, none⟩) n c3) ∧ w3.cell? ⟨g, i, none⟩ = some (.slice (some ⟨g2, 0, none⟩) (n - (i + 1)) q2) ∧ (∃ r, w3.cell? ⟨g2, j, none⟩ = some r) ∧ w3.frozen? ⟨g2, j, none⟩ = false ∧
      ∀ u row, row.length = n → Ints w3 wx.heap.size u row → BY N b2 b4 n (w3.setCell ⟨g2, j, none⟩ u) := by
  obtain ⟨h2, h4, hne, P, v1, v2, v3, hW, X2, X4, hO⟩ := h
  obtain ⟨⟨a1, c1, rfl⟩, ⟨a2, c2, rfl⟩, ⟨a3, c3, rfl⟩⟩ := hO.formsN hW.on hW.pl hW.cl
  have h0 := OP.sub (S' := fun k => (N ≤ k ∧ k ≠ b2 ∧ k ≠ b4) ∧ k < wx.heap.size) hO fun k hk hh => ⟨hh, hk⟩
  have hcl := hW.cl
  have hrl := hW.rl i hi
  obtain ⟨g, cap, g2, cap2, e0, hcell, ⟨r, hr⟩, hfz, hSg, hSg2, hg, hg2, _⟩ := op_setCj h0 (i := i) (j := j) (by omega) (by omega) (T := fun _ => False) (y := .slice none 0 0) (d := []) (local_O1.nil _ _) (fun k hk => hk.elim)
  simp only [Value.slice.injEq] at e0
  obtain ⟨rfl, _, rfl⟩ := e0
  have l2 := X2.lt
  have l4 := X4.lt
  rw [hrl] at hcell
  refine ⟨a1, c1, a2, c2, g, c3, g2, cap2, hSg2.1.1, fun w3 hc => ?_⟩
  have hga := hc.at hg (by have := hSg.1.1; omega)
  have hgb := hc.at hg2 (by have := hSg2.1.1; omega)
  have hcell3 := (hga.1 i).trans hcell
  refine ⟨X4.chg hc (by omega), hcell3, ⟨r, (hgb.1 j).trans hr⟩, (hgb.2 j).trans hfz, fun u row hl hI => ?_⟩
  have hop := OP.chg h0 hc fun k hk e => by have := hk.1.1; omega
  obtain ⟨g', cap', g2', cap2', e', hcell', _, _, _, _, _, _, hP⟩ := op_setCj hop (i := i) (j := j) (by omega) (by omega) (T := fun k => wx.heap.size ≤ k) ⟨hI.mono (Nat.zero_le _), fun g hg => (hI.lt g hg).1⟩ (fun k hk hh => by have h1 : wx.heap.size ≤ k := hk; have h2 := hh.2; omega)
  simp only [Value.slice.injEq, Option.some.injEq, Addr.mk.injEq] at e'
  obtain ⟨⟨rfl, _⟩, _, _⟩ := e'
  rw [hcell3] at hcell'
  simp only [Option.some.injEq, Value.slice.injEq, Addr.mk.injEq] at hcell'
  obtain ⟨⟨rfl, _⟩, _, _⟩ := hcell'
  refine ⟨h2, h4, hne, _, _, _, _, ws_stC hW hj hl, (X2.chg hc (by omega)).other (Ne.symm hSg2.1.2.1) j _, (X4.chg hc (by omega)).other (Ne.symm hSg2.1.2.2) j _, OP.sub hP fun k hk hh => ?_⟩
  rcases hh with ⟨hh, _⟩ | hh
  · exact hh
  · have hh' : wx.heap.size ≤ k := hh
    exact ⟨by have := hSg.1.1; omega, by omega, by omega⟩
theorem op_putCj {w : World} {S : Nat → Prop} {v1 v2 v3 : Value} {p : Pres} (h : OP w S v1 v2 v3 p) {i k j : Nat} (hi : i < p.conj.length) (hk : k < (p.conj.getD i []).length) (hj : j < ((p.conj.getD i []).getD k []).length) :
    ∃ g cap g2 cap2 g3 cap3, v3 = .slice (some ⟨g, 0, none⟩) p.conj.length cap ∧ w.cell? ⟨g, i, none⟩ = some (.slice (some ⟨g2, 0, none⟩) (p.conj.getD i []).length cap2) ∧ w.cell? ⟨g2, k, none⟩ = some (.slice (some ⟨g3, 0, none⟩) ((p.conj.getD i []).getD k []).length cap3) ∧ (∃ r, w.cell? ⟨g3, j, none⟩ = some r) ∧ w.frozen? ⟨g3, j, none⟩ = false ∧ S g3 ∧
      ∀ y : Int, OP (w.setCell ⟨g3, j, none⟩ (.int .i64 y)) S v1 v2 v3 ⟨p.orders, p.powers, p.conj.set i ((p.conj.getD i []).set k (((p.conj.getD i []).getD k []).set j y))⟩ := by
  obtain ⟨A, B, C, h1, h2, h3, s1, s2, s3, d1, d2, d3⟩ := h
  obtain ⟨g, cap, r, T, rfl, hcell, ho, hT, hput⟩ := ON.focus local_O2 h3 i hi
  obtain ⟨g2, cap2, r2, T2, rfl, hcell2, ho2, hT2, hput2⟩ := ON.focus local_O1 ho k hk
  obtain ⟨g3, cap3, rfl, _, _, _, _, hc3, hf3⟩ := ho2.1.open (by omega)
  have hTg : T2 g3 := ho2.2 g3 rfl
  refine ⟨g, cap, g2, cap2, g3, cap3, rfl, hcell, hcell2, ⟨_, hc3 j hj⟩, hf3 j, s3 g3 (hT g3 (hT2 g3 hTg)), fun y => ?_⟩
  obtain ⟨hs1, hs2⟩ := ho2.1.set rfl j y
  have hC := ChgS.of_chg hs2
  exact ⟨A, B, C, local_O1.chg h1 hC (fun k hk e => d2 k hk (e ▸ hT g3 (hT2 g3 hTg))), local_O2.chg h2 hC (fun k hk e => d3 k hk (e ▸ hT g3 (hT2 g3 hTg))), hput _ _ (hC.sub fun k hk => hk ▸ hT2 g3 hTg) (hput2 _ _ (hC.sub fun k hk => hk ▸ hTg) ⟨hs1, ho2.2⟩), s1, s2, s3, d1, d2, d3⟩
theorem BY.fin {N b2 b4 n : Nat} {wx : World} (h : BY N b2 b4 n wx) :
    ∃ a1 c1 a2 c2 a3 c3, Bx wx b4 (.slice a1 n c1) (.slice a2 n c2) (.slice a3 n c3) ∧ Bx wx b2 (.slice none 0 0) (.slice none 0 0) (.slice none 0 0) ∧
      ∃ P, WS n P ∧ OP (((wx.setCell ⟨b2, 0, none⟩ (.slice a1 n c1)).setCell ⟨b2, 1, none⟩ (.slice a2 n c2)).setCell ⟨b2, 2, none⟩ (.slice a3 n c3)) (win N (((wx.setCell ⟨b2, 0, none⟩ (.slice a1 n c1)).setCell ⟨b2, 1, none⟩ (.slice a2 n c2)).setCell ⟨b2, 2, none⟩ (.slice a3 n c3)).heap.size) (.slice a1 n c1) (.slice a2 n c2) (.slice a3 n c3) P := by
  obtain ⟨h2, h4, hne, P, v1, v2, v3, hW, X2, X4, hO⟩ := h
  obtain ⟨⟨a1, c1, rfl⟩, ⟨a2, c2, rfl⟩, ⟨a3, c3, rfl⟩⟩ := hO.formsN hW.on hW.pl hW.cl
  exact ⟨a1, c1, a2, c2, a3, c3, X4, X2, P, hW, OP.sub (OP.sets (OP.sets (OP.sets hO (b := b2) (fun hh => hh.2.1 rfl) 0 _) (b := b2) (fun hh => hh.2.1 rfl) 1 _) (b := b2) (fun hh => hh.2.1 rfl) 2 _) fun k hk hh => ⟨hh.1, hk⟩⟩
/-- what a draw of a presentation leaves -/
def DrP (C : Pres → Prop) (w0 : World) (vc : Value) (nc b : Nat) (w : World) (e : Ending) (w' : World) : Prop :=
  ∃ p v1 v2 v3, C p ∧ e = .returned (.agg #[v1, v2, v3]) ∧ OP w' (win w.heap.size w'.heap.size) v1 v2 v3 p ∧ Src w0 vc nc b w' ∧ Chg b (b + 1) w w'
def WS6 (p : Pres) : Prop := ∃ n, n ≤ 6 ∧ WS n p
theorem set3B {B : Nat} {w w1 : World} (h : Below B w w1) {b : Nat} (hb : B ≤ b) (x y z : Value) : Below B w (((w1.setCell ⟨b, 0, none⟩ x).setCell ⟨b, 1, none⟩ y).setCell ⟨b, 2, none⟩ z) :=
  ((h.setCell (p := ⟨b, 0, none⟩) hb x).setCell (p := ⟨b, 1, none⟩) hb y).setCell (p := ⟨b, 2, none⟩) hb z
--== spec.l07Table
set_option maxHeartbeats 4000000 in
theorem par_cases (t : Txt) : (∃ p, ValidP p ∧ parX t = p ∧ parC t = 0) ∨ parC t = 6 := by
  by_cases he : ∃ p, ParP t p
  · obtain ⟨p, hp⟩ := he
    exact .inl ⟨p, hp.1, (par_yes hp).1, (par_yes hp).2⟩
  · exact .inr (if_neg he)
--== end
end Go.Proofs.Ytiikoappknejgaa
namespace Go.Proofs.Ytiikoappknejgaa
set_option linter.unusedVariables false
set_option linter.unusedSimpArgs false
set_option maxRecDepth 100000
open Go.RowKit
attribute [local go_sem ↓] Go.wp_at_zero Go.wp_at_succ

--== spec.l07Table
set_option maxHeartbeats 8000000 in
theorem s_l07Table (k : Nat) (w : World) (hk : k < 10) : Calls Try.prog 76 #[.int .i64 k] w (RetW w) := by
  have g0 := below_alloc w (Obj.cells #[Value.slice none 0 0, Value.slice none 0 0, Value.slice none 0 0] 28)
  have x0 := Bx.new w (Value.slice none 0 0) (Value.slice none 0 0) (Value.slice none 0 0)
  have HSP : Hid (∀ (s : ByteArray) (wx : World), s.size ≤ 2000000 → Calls Try.prog 83 #[.string s] wx (fun e w' => ∃ t : Txt, RetP2 wx (parX t) (parC t) e w')) := fun s wx hs => (s_ParsePresentation s wx hs).mono fun e w' h => ⟨_, h⟩
  have HLIT : Hid (∀ wx : World, Rd (wx.alloc (.cells #[.int .i64 2] 2)) (.slice (some ⟨wx.heap.size, 0, none⟩) 1 1) [2]) := fun wx => Rd.litI wx [2] (by simp)
  have HTR : Hid (∀ (v : Value) (wx : World), Rd wx v [2] → Calls Try.prog 67 #[v] wx (RetP wx (triv [2]))) := fun v wx h => s_l07Trivial v [2] wx h (by simp)
  rcases (show k = 0 ∨ k = 1 ∨ k = 2 ∨ k = 3 ∨ k = 4 ∨ k = 5 ∨ k = 6 ∨ k = 7 ∨ k = 8 ∨ k = 9 by omega) with rfl | rfl | rfl | rfl | rfl | rfl | rfl | rfl | rfl | rfl
  all_goals
    go_enter Try.func76, Try.ntmps76
    go_wp2_with fail
    refine (HSP.out _ _ (by decide)).mono ?_
    rintro e w2 ⟨t, v1, v2, v3, rfl, hP, hB⟩
    have x2 := Bx.below (Bx.old x0 _) hB (by simp; omega)
    have g2 := below_size (ballocD g0 _) hB
    obtain ⟨⟨a1, c1, rfl⟩, ⟨a2, c2, rfl⟩, ⟨a3, c3, rfl⟩⟩ := hP.forms
    rcases par_cases t with ⟨p, hV, e1, e2⟩ | e6
    · rw [e1] at hP
      rw [e1, e2]
      have hBY := BY.mk (N := w.heap.size) x2 hP (fun k hk _ => by have h1 := hk.1; simp at h1; exact ⟨by omega, by omega⟩) (ws_valid hV) (Nat.le_refl _)
      have hBL := ballocD g2 (Obj.cells #[Value.slice a1 p.orders.length c1, Value.slice a2 p.powers.length c2, Value.slice a3 p.conj.length c3] 28)
      have h6 := hV.n6
      obtain ⟨b1, d1, b2, d2, b3, d3, x4, y2, P, hW, hO⟩ := hBY.fin
      have n0 := x4.c0
      have n1 := x4.c1
      have n2 := x4.c2
      have q0 := y2.c0
      have q1 := y2.c1
      have q2 := y2.c2
      have f0 := y2.fr 0
      have f1 := y2.fr 1
      have f2 := y2.fr 2
      have HR := Lib.hid (And.intro hO (set3B hBL (Nat.le_refl _) (Value.slice b1 p.n d1) (Value.slice b2 p.n d2) (Value.slice b3 p.n d3)))
      clear x4 y2 hO hBL hBY hP hB x2 g2 g0 x0
      go_wp2_with fail
      refine bodyPost_ret (v := .agg #[Value.slice b1 p.n d1, Value.slice b2 p.n d2, Value.slice b3 p.n d3]) (by simp [results, Try.results76, go_sem, q0, q1, q2]) rfl ?_
      exact ⟨p.n, P, h6, hW, _, _, _, rfl, HR.out.1, HR.out.2⟩
    · rw [e6]
      have x3 := x2.old (Obj.cells #[Value.slice a1 (parX t).orders.length c1, Value.slice a2 (parX t).powers.length c2, Value.slice a3 (parX t).conj.length c3] 28)
      have y3 := Bx.new w2 (Value.slice a1 (parX t).orders.length c1) (Value.slice a2 (parX t).powers.length c2) (Value.slice a3 (parX t).conj.length c3)
      have g3 := ballocD g2 (Obj.cells #[Value.slice a1 (parX t).orders.length c1, Value.slice a2 (parX t).powers.length c2, Value.slice a3 (parX t).conj.length c3] 28)
      have hlit := HLIT.out (w2.alloc (Obj.cells #[Value.slice a1 (parX t).orders.length c1, Value.slice a2 (parX t).powers.length c2, Value.slice a3 (parX t).conj.length c3] 28))
      have z3 : (w2.alloc (Obj.cells #[Value.slice a1 (parX t).orders.length c1, Value.slice a2 (parX t).powers.length c2, Value.slice a3 (parX t).conj.length c3] 28)).heap.size = w2.heap.size + 1 := by simp
      have hsz := g2.size
      have hlx := x2.lt
      clear hP hB x2 g2 g0 x0
      go_wp2_with fail
      generalize w2.alloc (Obj.cells #[Value.slice a1 (parX t).orders.length c1, Value.slice a2 (parX t).powers.length c2, Value.slice a3 (parX t).conj.length c3] 28) = w3 at *
      rw [← z3]
      refine (HTR.out _ _ hlit).mono ?_
      rintro e w5 ⟨u1, u2, u3, rfl, hP5, hB5⟩
      have x5 := (x3.old (.cells #[.int .i64 2] 2)).below hB5 (by simp; omega)
      have y5 := (y3.old (.cells #[.int .i64 2] 2)).below hB5 (by simp; omega)
      have g5 := below_size (ballocD g3 (.cells #[.int .i64 2] 2)) hB5
      have hW2 : WS 1 (triv [2]) := ws_triv (os := [2]) (by decide)
      obtain ⟨⟨d1, e1, rfl⟩, ⟨d2, e2, rfl⟩, ⟨d3, e3, rfl⟩⟩ := hP5.formsN hW2.on hW2.pl hW2.cl
      have hBY := BY.set (N := w.heap.size) x5 y5 hP5 (fun k hk _ => by have h1 := hk.1; simp at h1; exact ⟨by omega, by omega, by omega⟩) hW2 (Nat.le_refl _) (by omega) (by omega)
      have hBL := set3B g5 (b := w2.heap.size) (by omega) (Value.slice d1 1 e1) (Value.slice d2 1 e2) (Value.slice d3 1 e3)
      obtain ⟨b1, d1', b2, d2', b3, d3', x4, y2, P, hW, hO⟩ := hBY.fin
      have k0 := y5.fr 0
      have k1 := y5.fr 1
      have k2 := y5.fr 2
      have p0 := y5.c0
      have p1 := y5.c1
      have p2 := y5.c2
      have n0 := x4.c0
      have n1 := x4.c1
      have n2 := x4.c2
      have q0 := y2.c0
      have q1 := y2.c1
      have q2 := y2.c2
      have f0 := y2.fr 0
      have f1 := y2.fr 1
      have f2 := y2.fr 2
      have HR := Lib.hid (And.intro hO (set3B hBL (Nat.le_refl _) (Value.slice b1 1 d1') (Value.slice b2 1 d2') (Value.slice b3 1 d3')))
      clear x4 y2 hO hBL hBY hP5 hB5 x5 y5 g5 x3 y3 g3 hlit
      go_wp2_with fail
      refine bodyPost_ret (v := .agg #[Value.slice b1 1 d1', Value.slice b2 1 d2', Value.slice b3 1 d3']) (by simp [results, Try.results76, go_sem, q0, q1, q2]) rfl ?_
      exact ⟨1, P, by omega, hW, _, _, _, rfl, HR.out.1, HR.out.2⟩
--== end
end Go.Proofs.Ytiikoappknejgaa
namespace Go.Proofs.Ytiikoappknejgaa
set_option linter.unusedVariables false
set_option linter.unusedSimpArgs false
set_option maxRecDepth 100000
open Go.RowKit
attribute [local go_sem ↓] Go.wp_at_zero Go.wp_at_succ

--== plain
theorem ints_lit3 (w : World) (x y z : Int) : Ints (w.alloc (.cells #[.int .i64 x, .int .i64 y, .int .i64 z] 2)) w.heap.size (.slice (some ⟨w.heap.size, 0, none⟩) 3 3) [x, y, z] :=
  ⟨rfl, .inr ⟨w.heap.size, 3, #[.int .i64 x, .int .i64 y, .int .i64 z], rfl, Nat.le_refl _, heap_alloc_new w _, Nat.le_refl _, by simp [maxLen], rfl, rfl⟩⟩
theorem Chg.undrew {lo hi : Nat} {w w' : World} (h : Chg lo hi w.drew w') : Chg lo hi w w' := ⟨h.os, h.tape, h.output, h.size, h.block⟩
/-- where a draw stands: the presentation in its box, the source, what has changed -/
def ST (w0 : World) (vc : Value) (nc b : Nat) (w : World) (b2 b4 n : Nat) (wx : World) : Prop := BY w.heap.size b2 b4 n wx ∧ Src w0 vc nc b wx ∧ Chg b (b + 1) w wx
theorem chgS_of {b : Nat} {w w' : World} (h : Chg b (b + 1) w w') : ChgS (fun k => k = b) w w' := ChgS.of_chg h
theorem ST.keep {w0 w wx wy : World} {vc : Value} {nc b b2 b4 n : Nat} (h : ST w0 vc nc b w b2 b4 n wx) (hs : Src w0 vc nc b wy) (hc : Chg b (b + 1) wx wy) (hb : b < w.heap.size) : ST w0 vc nc b w b2 b4 n wy :=
  ⟨h.1.step (chgS_of hc) hb, hs, h.2.2.tr hc⟩
/-- a whole row of powers is put: the entries of it are made behind a number that is drawn -/
theorem ST.pow3 {w0 w wr : World} {vc : Value} {nc b b2 b4 i : Nat} (h : ST w0 vc nc b w b2 b4 3 wr) (hb : b < w.heap.size) (h0 : w0.heap.size ≤ w.heap.size) (hi : i < 3) :
    ∃ a1 c1 g c2 a3 c3, Bx wr b4 (.slice a1 3 c1) (.slice (some ⟨g, 0, none⟩) 3 c2) (.slice a3 3 c3) ∧ ∀ (w3 : World) (x y z : Int), Src w0 vc nc b w3 → Chg b (b + 1) wr w3 → Bx w3 b4 (.slice a1 3 c1) (.slice (some ⟨g, 0, none⟩) 3 c2) (.slice a3 3 c3) ∧
      Bx (w3.alloc (.cells #[.int .i64 x, .int .i64 y, .int .i64 z] 2)) b4 (.slice a1 3 c1) (.slice (some ⟨g, 0, none⟩) 3 c2) (.slice a3 3 c3) ∧ (∃ r, (w3.alloc (.cells #[.int .i64 x, .int .i64 y, .int .i64 z] 2)).cell? ⟨g, i, none⟩ = some r) ∧ (w3.alloc (.cells #[.int .i64 x, .int .i64 y, .int .i64 z] 2)).frozen? ⟨g, i, none⟩ = false ∧
      ST w0 vc nc b w b2 b4 3 ((w3.alloc (.cells #[.int .i64 x, .int .i64 y, .int .i64 z] 2)).setCell ⟨g, i, none⟩ (.slice (some ⟨w3.heap.size, 0, none⟩) 3 3)) := by
  obtain ⟨hY, hS, hC⟩ := h
  obtain ⟨a1, c1, g, c2, a3, c3, hg, hset⟩ := hY.pow hb hi
  refine ⟨a1, c1, g, c2, a3, c3, (hset wr (ChgS.refl _ _)).1, fun w3 x y z hs hc => ?_⟩
  have hx := chgS_of hc
  have hx2 := hx.then (ChgS.of_below (fun k => k = b) (below_alloc w3 (.cells #[.int .i64 x, .int .i64 y, .int .i64 z] 2)))
  obtain ⟨hB, hr, hf, hput⟩ := hset _ hx2
  have hz := hC.size
  have hz3 := hc.size
  have hbw : Below w.heap.size w3 ((w3.alloc (.cells #[.int .i64 x, .int .i64 y, .int .i64 z] 2)).setCell ⟨g, i, none⟩ (.slice (some ⟨w3.heap.size, 0, none⟩) 3 3)) := ((below_alloc w3 _).mono (by omega)).setCell (p := ⟨g, i, none⟩) hg _
  exact ⟨(hset w3 hx).1, hB, hr, hf, hput _ [x, y, z] rfl ((ints_lit3 w3 x y z).mono hz3), hs.belowB hbw hb h0, (hC.tr hc).belB hbw⟩
theorem ST.fin {w0 w wx : World} {vc : Value} {nc b b2 b4 n : Nat} (h : ST w0 vc nc b w b2 b4 n wx) (hb : b < w.heap.size) (h0 : w0.heap.size ≤ w.heap.size) :
    ∃ a1 c1 a2 c2 a3 c3, Bx wx b4 (.slice a1 n c1) (.slice a2 n c2) (.slice a3 n c3) ∧ Bx wx b2 (.slice none 0 0) (.slice none 0 0) (.slice none 0 0) ∧
      ∀ C : Pres → Prop, (∀ P, WS n P → C P) → DrP C w0 vc nc b w (.returned (.agg #[.slice a1 n c1, .slice a2 n c2, .slice a3 n c3])) (((wx.setCell ⟨b2, 0, none⟩ (.slice a1 n c1)).setCell ⟨b2, 1, none⟩ (.slice a2 n c2)).setCell ⟨b2, 2, none⟩ (.slice a3 n c3)) := by
  obtain ⟨hY, hS, hC⟩ := h
  have hY2 := hY.1
  obtain ⟨a1, c1, a2, c2, a3, c3, x4, x2, P, hW, hO⟩ := hY.fin
  have hbl := set3B ((Below.refl wx.heap.size wx).mono hC.size) hY2 (Value.slice a1 n c1) (Value.slice a2 n c2) (Value.slice a3 n c3)
  exact ⟨a1, c1, a2, c2, a3, c3, x4, x2, fun C hc => ⟨P, _, _, _, hc P hW, rfl, hO, hS.belowB hbl hb h0, hC.belB hbl⟩⟩
--== spec.l07Heisenberg
set_option maxHeartbeats 8000000 in
theorem s_l07Heisenberg {w0 : World} {vc : Value} {nc b : Nat} (q : Int) (w : World) (h : Src w0 vc nc b w) (hq : primeB q = true) : Calls Try.prog 74 #[.pointer (some ⟨b, 0, none⟩), .int .i64 q] w (DrP WS6 w0 vc nc b w) := by
  have hq2 : 2 ≤ q ∧ q ≤ 7 := primesB_at (os := [q]) (by simp [primesB, hq]) (List.mem_singleton.2 rfl)
  obtain ⟨hqa, hqb⟩ := hq2
  have g0 := below_alloc w (Obj.cells #[Value.slice none 0 0, Value.slice none 0 0, Value.slice none 0 0] 28)
  have x0 := Bx.new w (Value.slice none 0 0) (Value.slice none 0 0) (Value.slice none 0 0)
  have z0 : (w.alloc (Obj.cells #[Value.slice none 0 0, Value.slice none 0 0, Value.slice none 0 0] 28)).heap.size = w.heap.size + 1 := by simp
  have hlit := Rd.litI (w.alloc (Obj.cells #[Value.slice none 0 0, Value.slice none 0 0, Value.slice none 0 0] 28)) [q, q, q] (by simp)
  have HTR : Hid (∀ (v : Value) (wx : World), Rd wx v [q, q, q] → Calls Try.prog 67 #[v] wx (RetP wx (triv [q, q, q]))) := fun v wx h => s_l07Trivial v [q, q, q] wx h (by simp)
  have HW3 : Hid (WS 3 (triv [q, q, q])) := ws_triv (os := [q, q, q]) (by simp [primesB, hq])
  have hbl := h.lt
  have hw0 : w0.heap.size ≤ w.heap.size := h.be.size
  have HS := Lib.hid h
  clear h
  go_enter Try.func74, Try.ntmps74
  go_wp2_with fail
  generalize w.alloc (Obj.cells #[Value.slice none 0 0, Value.slice none 0 0, Value.slice none 0 0] 28) = w1 at *
  rw [← z0]
  refine (HTR.out _ _ hlit).mono ?_
  rintro e w2 ⟨v1, v2, v3, rfl, hP, hB⟩
  obtain ⟨⟨a1, c1, rfl⟩, ⟨a2, c2, rfl⟩, ⟨a3, c3, rfl⟩⟩ := hP.formsN HW3.out.on HW3.out.pl HW3.out.cl
  have x2 := (x0.old (.cells (([q, q, q] : List Int).map (Value.int .i64)).toArray 2)).below hB (by simp; omega)
  have g2 := below_size (ballocD g0 _) hB
  have hY := BY.mk (N := w.heap.size) x2 hP (fun k hk _ => by have h1 := hk.1; simp at h1; exact ⟨by omega, by omega⟩) HW3.out (Nat.le_refl _)
  have g3 := ballocD g2 (Obj.cells #[Value.slice a1 3 c1, Value.slice a2 3 c2, Value.slice a3 3 c3] 28)
  have hST : ST w0 vc nc b w w.heap.size w2.heap.size 3 (w2.alloc (Obj.cells #[Value.slice a1 3 c1, Value.slice a2 3 c2, Value.slice a3 3 c3] 28)) := ⟨hY, HS.out.below g3, Chg.of_below g3 _ _⟩
  obtain ⟨k1, l1, k2, l2, g7, l3, g8, q8, hg8, hset⟩ := hY.cnj (i := 0) (j := 0) hbl (by omega) (by omega)
  have hx2 := ChgS.of_below (fun k => k = b) (below_alloc (w2.alloc (Obj.cells #[Value.slice a1 3 c1, Value.slice a2 3 c2, Value.slice a3 3 c3] 28)) (.cells #[.int .i64 0, .int .i64 1, .int .i64 1] 2))
  obtain ⟨xx, m3, ⟨rr, m4⟩, mf, hput⟩ := hset _ hx2
  have m2 := xx.c2
  have hz : w.heap.size ≤ w2.heap.size := g2.size
  have hY2 := hput _ [0, 1, 1] rfl (ints_lit3 _ 0 1 1)
  have hbw : Below w.heap.size w _ := (ballocD g3 (.cells #[.int .i64 0, .int .i64 1, .int .i64 1] 2)).setCell (p := ⟨g8, 0, none⟩) hg8 (Value.slice (some ⟨(w2.alloc (Obj.cells #[Value.slice a1 3 c1, Value.slice a2 3 c2, Value.slice a3 3 c3] 28)).heap.size, 0, none⟩) 3 3)
  have hST2 : ST w0 vc nc b w w.heap.size w2.heap.size 3 _ := ⟨hY2, HS.out.below hbw, Chg.of_below hbw _ _⟩
  rw [show (w2.alloc (Obj.cells #[Value.slice a1 3 c1, Value.slice a2 3 c2, Value.slice a3 3 c3] 28)).heap.size = w2.heap.size + 1 by simp] at hST2
  have hm2 := (hset _ (ChgS.refl _ _)).1.c2
  have hm3 := (hset _ (ChgS.refl _ _)).2.1
  clear hST hY hset hx2 xx hput hY2 hbw g3 g2 x2 x0 g0 hP hB hlit
  go_wp2_with fail
  generalize ((w2.alloc (Obj.cells #[Value.slice a1 3 c1, Value.slice a2 3 c2, Value.slice a3 3 c3] 28)).alloc (Obj.cells #[Value.int IntKind.i64 0, Value.int IntKind.i64 1, Value.int IntKind.i64 1] 2)).setCell ⟨g8, 0, none⟩ (Value.slice (some ⟨w2.heap.size + 1, 0, none⟩) 3 3) = w4 at *
  clear m3 m4 mf m2 hm2 hm3
  generalize w2.heap.size = b4 at *
  have HNX : Hid (∀ wx, Src w0 vc nc b wx → Calls Try.prog 36 #[.pointer (some ⟨b, 0, none⟩), .int .i64 q] wx (Nxt w0 vc nc b wx q)) := fun wx h => s_l01Next wx h q (by omega) (by omega)
  refine (s_l01Next w4 hST2.2.1 2 (by omega) (by omega)).mono ?_
  rintro e w5 ⟨r, rfl, r0, r1, hS5, hC5⟩
  have hST := hST2.keep hS5 hC5 hbl
  clear hST2 hC5
  by_cases hr : r = 0
  · subst hr
    obtain ⟨p1, e1, g, e2, p3, e3, xx, hset⟩ := hST.pow3 hbl hw0 (i := 0) (by omega)
    have m1 := xx.c1
    have HSET := Lib.hid hset
    have HS5 := Lib.hid hS5
    clear xx hset hS5 hST
    go_upto_region 4 with (fail)
    go_cut [] (fun wx => ST w0 vc nc b w w.heap.size b4 3 wx)
    case first =>
      go_region_law (go_simp; go_at_call 36; go_must (refine (HNX.out _ (HS5.out.below ((Below.refl _ _).drew))).mono ?_); rintro e w6 ⟨r6, rfl, _, _, hS6, hC6⟩; obtain ⟨y1, y2, ⟨rr, y3⟩, y4, y5⟩ := HSET.out w6 0 0 r6 hS6 hC6.undrew; have n1 := y1.c1; have n2 := y2.c1; have hq := Lib.hid y5)
      all_goals (go_wp2_with fail; go_meet; exact hq.out)
    case rest =>
      have hST := hcut
      clear hcut m1 HSET HS5
      have hS5 := hST.2.1
      obtain ⟨p1, e1, g, e2, p3, e3, xx, hset⟩ := hST.pow3 hbl hw0 (i := 1) (by omega)
      have m1 := xx.c1
      have HSET := Lib.hid hset
      have HS5 := Lib.hid hS5
      clear xx hset hS5 hST
      go_upto_region 5 with (fail)
      go_cut [] (fun wx => ST w0 vc nc b w w.heap.size b4 3 wx)
      case first =>
        go_region_law (go_simp; go_at_call 36; go_must (refine (HNX.out _ (HS5.out.below ((Below.refl _ _).drew))).mono ?_); rintro e w6 ⟨r6, rfl, _, _, hS6, hC6⟩; obtain ⟨y1, y2, ⟨rr, y3⟩, y4, y5⟩ := HSET.out w6 0 0 r6 hS6 hC6.undrew; have n1 := y1.c1; have n2 := y2.c1; have hq := Lib.hid y5)
        all_goals (go_wp2_with fail; go_meet; exact hq.out)
      case rest =>
        have hST := hcut
        clear hcut m1 HSET HS5
        obtain ⟨b1, d1, b2, d2, b3, d3, x4, y2, hF⟩ := hST.fin hbl hw0
        have HF := Lib.hid hF
        have n0 := x4.c0
        have n1 := x4.c1
        have n2 := x4.c2
        have q0 := y2.c0
        have q1 := y2.c1
        have q2 := y2.c2
        have f0 := y2.fr 0
        have f1 := y2.fr 1
        have f2 := y2.fr 2
        clear x4 y2 hF hST
        go_wp2_with fail
        exact bodyPost_ret (v := .agg #[Value.slice b1 3 d1, Value.slice b2 3 d2, Value.slice b3 3 d3]) (by simp [results, Try.results74, go_sem, q0, q1, q2]) rfl (HF.out WS6 fun P hW => ⟨3, by omega, hW⟩)
  · clear hS5
    obtain ⟨b1, d1, b2, d2, b3, d3, x4, y2, hF⟩ := hST.fin hbl hw0
    have HF := Lib.hid hF
    have n0 := x4.c0
    have n1 := x4.c1
    have n2 := x4.c2
    have q0 := y2.c0
    have q1 := y2.c1
    have q2 := y2.c2
    have f0 := y2.fr 0
    have f1 := y2.fr 1
    have f2 := y2.fr 2
    clear x4 y2 hF hST
    go_wp2_with fail
    exact bodyPost_ret (v := .agg #[Value.slice b1 3 d1, Value.slice b2 3 d2, Value.slice b3 3 d3]) (by simp [results, Try.results74, go_sem, q0, q1, q2]) rfl (HF.out WS6 fun P hW => ⟨3, by omega, hW⟩)
--== end
end Go.Proofs.Ytiikoappknejgaa
