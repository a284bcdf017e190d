/-
  TailPresentation.
-/
import Derived.Test.YtbhjbfgkohgiiaaTaj
import Derived.Test.YtbhjbfgkohgiiaaTak
import Derived.Test.YtbhjbfgkohgiiaaTaz
import Derived.Test.YtbhjbfgkohgiiaaRp2
import Derived.Test.YtbhjbfgkohgiiaaSiz
namespace Go.Proofs.Ytbhjbfgkohgiiaa
set_option linter.unusedVariables false
set_option linter.unusedSimpArgs false
set_option maxRecDepth 100000
open Go.RowKit

--== both
theorem tlP_end (p : Pres) : tlP p p.n (p.n - p.n) = tlP p p.n 0 := by rw [Nat.sub_self]
--== impl.tailOf
theorem i_tailOf_all {p : Pres} (hV : ValidP p) (f : Nat) (hf : f ≤ p.n) (vp : Value) (w : World) (hp : PtrP w vp p) :
    Calls Try.prog 66 #[vp, .int .i64 f] w (RetP w (tlP p f (p.n - f))) := by
  by_cases h : f < p.n
  · exact i_tailOf hV f h vp w hp
  · obtain rfl : f = p.n := by omega
    rw [tlP_end]
    exact i_tailOf_end hV vp w hp
--== spec.l08Tail
theorem s_l08Tail_all {p : Pres} (hV : ValidP p) (f : Nat) (hf : f ≤ p.n) (v1 v2 v3 : Value) (w : World) (hp : RdP w v1 v2 v3 p) :
    Calls Try.prog 62 #[.agg #[v1, v2, v3], .int .i64 f] w (RetP w (tlP p f (p.n - f))) := by
  by_cases h : f < p.n
  · exact s_l08Tail hV f h v1 v2 v3 w hp
  · obtain rfl : f = p.n := by omega
    rw [tlP_end]
    exact s_l08Tail_end hV v1 v2 v3 w hp
--== impl.TailPresentation
set_option maxHeartbeats 4000000 in
theorem i_TailPresentation (v1 v2 v3 : Value) (p : Pres) (f : Int) (w : World) (hp : RdP w v1 v2 v3 p) (bf : -9223372036854775808 ≤ f ∧ f ≤ 9223372036854775807) :
    Calls Try.prog 18 #[.agg #[v1, v2, v3], .int .i64 f] w (RetP2 w (tailX p f) (tailK p f)) := by
  have HP := Lib.hid hp
  obtain ⟨ao1, cap1, rfl, _, _⟩ := hp.1.form
  obtain ⟨ao2, cap2, rfl, _, _⟩ := hp.2.1.form
  obtain ⟨ao3, cap3, rfl, _, _⟩ := hp.2.2.form
  have g0 := below_alloc w (Obj.cells #[Value.slice ao1 p.orders.length cap1, Value.slice ao2 p.powers.length cap2, Value.slice ao3 p.conj.length cap3] 28)
  have g1 := ball g0 (Obj.cells #[Value.slice none 0 0, Value.slice none 0 0, Value.slice none 0 0] 28)
  have b0 := (Bx.new w (Value.slice ao1 p.orders.length cap1) (Value.slice ao2 p.powers.length cap2) (Value.slice ao3 p.conj.length cap3)).old (Obj.cells #[Value.slice none 0 0, Value.slice none 0 0, Value.slice none 0 0] 28)
  have x0 := Bx.new (w.alloc (Obj.cells #[Value.slice ao1 p.orders.length cap1, Value.slice ao2 p.powers.length cap2, Value.slice ao3 p.conj.length cap3] 28)) (Value.slice none 0 0) (Value.slice none 0 0) (Value.slice none 0 0)
  have hsz : (w.alloc (Obj.cells #[Value.slice ao1 p.orders.length cap1, Value.slice ao2 p.powers.length cap2, Value.slice ao3 p.conj.length cap3] 28)).heap.size = w.heap.size + 1 := by simp
  rw [hsz] at x0
  clear hp hsz g0
  by_cases hV : validB p = true
  case neg =>
    have hV' : validB p = false := by simpa using hV
    have HK := Lib.hid (tailK_1 (f := f) hV')
    have HX : Hid (tailX p f = noP) := by show _ = _; unfold tailX; rw [HK.out]; rfl
    clear hV
    go_enter Try.func18, Try.ntmps18
    go_wp2_with fail
    refine (i_IsPresentation _ _ _ p _ (HP.out.below g1)).mono ?_
    rintro e w1 ⟨rfl, hb⟩
    have g2 := below_size g1 hb
    have x1 := x0.below hb x0.lt
    have b1 := b0.below hb b0.lt
    have n0 := b1.c0
    have n1 := b1.c1
    have n2 := b1.c2
    rw [hV']
    clear hb b0 g1
    clear hV'
    have p0 := x1.c0
    have p1 := x1.c1
    have p2 := x1.c2
    have q0 := x1.fr 0
    have q1 := x1.fr 1
    have q2 := x1.fr 2
    have hW' := set3 (b := w.heap.size + 1) g2 (by omega) (Value.slice none 0 0) (Value.slice none 0 0) (Value.slice none 0 0)
    go_wp2_with fail
    refine bodyPost_ret (v := .tuple #[.agg #[Value.slice none 0 0, Value.slice none 0 0, Value.slice none 0 0], .int .i64 1]) (by simp [results, Try.results18, go_sem, p0, p1, p2]) rfl ?_
    rw [HK.out, HX.out]
    exact ⟨_, _, _, rfl, OP.none _ _, hW'⟩
  have HVd := Lib.hid (validB_true.1 hV)
  have hn6 := HVd.out.n6
  have HN : Hid (p.orders.length = p.n) := rfl
  by_cases hi : inB f 0 p.n = true
  case neg =>
    have hi' : inB f 0 p.n = false := by simpa using hi
    have HK := Lib.hid (tailK_2 (f := f) hV hi')
    have HX : Hid (tailX p f = noP) := by show _ = _; unfold tailX; rw [HK.out]; rfl
    clear hi
    go_enter Try.func18, Try.ntmps18
    go_wp2_with fail
    refine (i_IsPresentation _ _ _ p _ (HP.out.below g1)).mono ?_
    rintro e w1 ⟨rfl, hb⟩
    have g2 := below_size g1 hb
    have x1 := x0.below hb x0.lt
    have b1 := b0.below hb b0.lt
    have n0 := b1.c0
    have n1 := b1.c1
    have n2 := b1.c2
    rw [hV]
    clear hb b0 g1
    clear hV
    rw [HN.out] at n0
    go_wp2_with fail
    refine (i_inside f 0 (p.n : Int) _).mono ?_
    rintro e w' ⟨rfl, rfl⟩
    rw [hi']
    clear hi'
    have p0 := x1.c0
    have p1 := x1.c1
    have p2 := x1.c2
    have q0 := x1.fr 0
    have q1 := x1.fr 1
    have q2 := x1.fr 2
    have hW' := set3 (b := w.heap.size + 1) g2 (by omega) (Value.slice none 0 0) (Value.slice none 0 0) (Value.slice none 0 0)
    go_wp2_with fail
    refine bodyPost_ret (v := .tuple #[.agg #[Value.slice none 0 0, Value.slice none 0 0, Value.slice none 0 0], .int .i64 2]) (by simp [results, Try.results18, go_sem, p0, p1, p2]) rfl ?_
    rw [HK.out, HX.out]
    exact ⟨_, _, _, rfl, OP.none _ _, hW'⟩
  have HK := Lib.hid (tailK_0 (f := f) hV hi)
  obtain ⟨h1, h2⟩ := inB_true.1 hi
  obtain ⟨m, rfl⟩ : ∃ m : Nat, f = (m : Int) := ⟨f.toNat, by omega⟩
  have hm : m ≤ p.n := by omega
  have HX : Hid (tailX p (m : Int) = tlP p m (p.n - m)) := by show _ = _; unfold tailX; rw [HK.out]; rfl
  go_enter Try.func18, Try.ntmps18
  go_wp2_with fail
  refine (i_IsPresentation _ _ _ p _ (HP.out.below g1)).mono ?_
  rintro e w1 ⟨rfl, hb⟩
  have g2 := below_size g1 hb
  have x1 := x0.below hb x0.lt
  have b1 := b0.below hb b0.lt
  have n0 := b1.c0
  have n1 := b1.c1
  have n2 := b1.c2
  rw [hV]
  clear hb b0 g1
  clear hV
  rw [HN.out] at n0
  go_wp2_with fail
  refine (i_inside (m : Int) 0 (p.n : Int) _).mono ?_
  rintro e w' ⟨rfl, rfl⟩
  rw [hi]
  clear hi h1 h2
  go_wp2_with fail
  refine (i_tailOf_all HVd.out m hm _ _ (b1.ptr (HP.out.below g2))).mono ?_
  rintro e w2 ⟨u1, u2, u3, rfl, hP, hb⟩
  have x2 := x1.below hb x1.lt
  have g3 := below_size g2 hb
  obtain ⟨⟨a1, c1, rfl⟩, ⟨a2, c2, rfl⟩, ⟨a3, c3, rfl⟩⟩ := hP.forms
  have p0 := x2.c0
  have p1 := x2.c1
  have p2 := x2.c2
  have q0 := x2.fr 0
  have q1 := x2.fr 1
  have q2 := x2.fr 2
  have hl := x1.lt
  have hP2 := op_set3 (b := w.heap.size + 1) hP (fun h => by have := h.1; omega) (Value.slice a1 (tlP p m (p.n - m)).orders.length c1) (Value.slice a2 (tlP p m (p.n - m)).powers.length c2) (Value.slice a3 (tlP p m (p.n - m)).conj.length c3)
  have hW' := set3 (b := w.heap.size + 1) g3 (by omega) (Value.slice a1 (tlP p m (p.n - m)).orders.length c1) (Value.slice a2 (tlP p m (p.n - m)).powers.length c2) (Value.slice a3 (tlP p m (p.n - m)).conj.length c3)
  generalize tlP p m (p.n - m) = R at *
  clear hb hP x2 g3 x1 b1 n0 n1 n2
  go_wp2_with fail
  refine bodyPost_ret (v := .tuple #[.agg #[Value.slice a1 R.orders.length c1, Value.slice a2 R.powers.length c2, Value.slice a3 R.conj.length c3], .int .i64 0]) (by simp [results, Try.results18, go_sem, p0, p1, p2]) rfl ?_
  rw [HK.out, HX.out]
  exact ⟨_, _, _, rfl, OP.sub hP2 (fun k hk hh => ⟨by have := hh.1; have := g2.size; omega, hk⟩), hW'⟩
--== spec.TailPresentation
set_option maxHeartbeats 4000000 in
theorem s_TailPresentation (v1 v2 v3 : Value) (p : Pres) (f : Int) (w : World) (hp : RdP w v1 v2 v3 p) (bf : -9223372036854775808 ≤ f ∧ f ≤ 9223372036854775807) :
    Calls Try.prog 16 #[.agg #[v1, v2, v3], .int .i64 f] w (RetP2 w (tailX p f) (tailK p f)) := by
  have HP := Lib.hid hp
  obtain ⟨ao1, cap1, rfl, _, _⟩ := hp.1.form
  obtain ⟨ao2, cap2, rfl, _, _⟩ := hp.2.1.form
  obtain ⟨ao3, cap3, rfl, _, _⟩ := hp.2.2.form
  have g0 := below_alloc w (Obj.cells #[Value.slice ao1 p.orders.length cap1, Value.slice ao2 p.powers.length cap2, Value.slice ao3 p.conj.length cap3] 28)
  have g1 := ball g0 (Obj.cells #[Value.slice none 0 0, Value.slice none 0 0, Value.slice none 0 0] 28)
  have b0 := (Bx.new w (Value.slice ao1 p.orders.length cap1) (Value.slice ao2 p.powers.length cap2) (Value.slice ao3 p.conj.length cap3)).old (Obj.cells #[Value.slice none 0 0, Value.slice none 0 0, Value.slice none 0 0] 28)
  have x0 := Bx.new (w.alloc (Obj.cells #[Value.slice ao1 p.orders.length cap1, Value.slice ao2 p.powers.length cap2, Value.slice ao3 p.conj.length cap3] 28)) (Value.slice none 0 0) (Value.slice none 0 0) (Value.slice none 0 0)
  have hsz : (w.alloc (Obj.cells #[Value.slice ao1 p.orders.length cap1, Value.slice ao2 p.powers.length cap2, Value.slice ao3 p.conj.length cap3] 28)).heap.size = w.heap.size + 1 := by simp
  rw [hsz] at x0
  clear hp hsz g0
  by_cases hV : validB p = true
  case neg =>
    have hV' : validB p = false := by simpa using hV
    have HK := Lib.hid (tailK_1 (f := f) hV')
    have HX : Hid (tailX p f = noP) := by show _ = _; unfold tailX; rw [HK.out]; rfl
    clear hV
    go_enter Try.func16, Try.ntmps16
    go_wp2_with fail
    refine (s_IsPresentation _ _ _ p _ (HP.out.below g1)).mono ?_
    rintro e w1 ⟨rfl, hb⟩
    have g2 := below_size g1 hb
    have x1 := x0.below hb x0.lt
    have b1 := b0.below hb b0.lt
    have n0 := b1.c0
    have n1 := b1.c1
    have n2 := b1.c2
    rw [hV']
    clear hb b0 g1
    clear hV'
    have p0 := x1.c0
    have p1 := x1.c1
    have p2 := x1.c2
    have q0 := x1.fr 0
    have q1 := x1.fr 1
    have q2 := x1.fr 2
    have hW' := set3 (b := w.heap.size + 1) g2 (by omega) (Value.slice none 0 0) (Value.slice none 0 0) (Value.slice none 0 0)
    go_wp2_with fail
    refine bodyPost_ret (v := .tuple #[.agg #[Value.slice none 0 0, Value.slice none 0 0, Value.slice none 0 0], .int .i64 1]) (by simp [results, Try.results16, go_sem, p0, p1, p2]) rfl ?_
    rw [HK.out, HX.out]
    exact ⟨_, _, _, rfl, OP.none _ _, hW'⟩
  have HVd := Lib.hid (validB_true.1 hV)
  have hn6 := HVd.out.n6
  have HN : Hid (p.orders.length = p.n) := rfl
  by_cases hi : inB f 0 p.n = true
  case neg =>
    have hi' : inB f 0 p.n = false := by simpa using hi
    have HK := Lib.hid (tailK_2 (f := f) hV hi')
    have HX : Hid (tailX p f = noP) := by show _ = _; unfold tailX; rw [HK.out]; rfl
    clear hi
    go_enter Try.func16, Try.ntmps16
    go_wp2_with fail
    refine (s_IsPresentation _ _ _ p _ (HP.out.below g1)).mono ?_
    rintro e w1 ⟨rfl, hb⟩
    have g2 := below_size g1 hb
    have x1 := x0.below hb x0.lt
    have b1 := b0.below hb b0.lt
    have n0 := b1.c0
    have n1 := b1.c1
    have n2 := b1.c2
    rw [hV]
    clear hb b0 g1
    clear hV
    rw [HN.out] at n0
    go_wp2_with fail
    refine (s_l01In f 0 (p.n : Int) _).mono ?_
    rintro e w' ⟨rfl, rfl⟩
    rw [hi']
    clear hi'
    have p0 := x1.c0
    have p1 := x1.c1
    have p2 := x1.c2
    have q0 := x1.fr 0
    have q1 := x1.fr 1
    have q2 := x1.fr 2
    have hW' := set3 (b := w.heap.size + 1) g2 (by omega) (Value.slice none 0 0) (Value.slice none 0 0) (Value.slice none 0 0)
    go_wp2_with fail
    refine bodyPost_ret (v := .tuple #[.agg #[Value.slice none 0 0, Value.slice none 0 0, Value.slice none 0 0], .int .i64 2]) (by simp [results, Try.results16, go_sem, p0, p1, p2]) rfl ?_
    rw [HK.out, HX.out]
    exact ⟨_, _, _, rfl, OP.none _ _, hW'⟩
  have HK := Lib.hid (tailK_0 (f := f) hV hi)
  obtain ⟨h1, h2⟩ := inB_true.1 hi
  obtain ⟨m, rfl⟩ : ∃ m : Nat, f = (m : Int) := ⟨f.toNat, by omega⟩
  have hm : m ≤ p.n := by omega
  have HX : Hid (tailX p (m : Int) = tlP p m (p.n - m)) := by show _ = _; unfold tailX; rw [HK.out]; rfl
  go_enter Try.func16, Try.ntmps16
  go_wp2_with fail
  refine (s_IsPresentation _ _ _ p _ (HP.out.below g1)).mono ?_
  rintro e w1 ⟨rfl, hb⟩
  have g2 := below_size g1 hb
  have x1 := x0.below hb x0.lt
  have b1 := b0.below hb b0.lt
  have n0 := b1.c0
  have n1 := b1.c1
  have n2 := b1.c2
  rw [hV]
  clear hb b0 g1
  clear hV
  rw [HN.out] at n0
  go_wp2_with fail
  refine (s_l01In (m : Int) 0 (p.n : Int) _).mono ?_
  rintro e w' ⟨rfl, rfl⟩
  rw [hi]
  clear hi h1 h2
  go_wp2_with fail
  refine (s_l08Tail_all HVd.out m hm _ _ _ _ (HP.out.below g2)).mono ?_
  rintro e w2 ⟨u1, u2, u3, rfl, hP, hb⟩
  have x2 := x1.below hb x1.lt
  have g3 := below_size g2 hb
  obtain ⟨⟨a1, c1, rfl⟩, ⟨a2, c2, rfl⟩, ⟨a3, c3, rfl⟩⟩ := hP.forms
  have p0 := x2.c0
  have p1 := x2.c1
  have p2 := x2.c2
  have q0 := x2.fr 0
  have q1 := x2.fr 1
  have q2 := x2.fr 2
  have hl := x1.lt
  have hP2 := op_set3 (b := w.heap.size + 1) hP (fun h => by have := h.1; omega) (Value.slice a1 (tlP p m (p.n - m)).orders.length c1) (Value.slice a2 (tlP p m (p.n - m)).powers.length c2) (Value.slice a3 (tlP p m (p.n - m)).conj.length c3)
  have hW' := set3 (b := w.heap.size + 1) g3 (by omega) (Value.slice a1 (tlP p m (p.n - m)).orders.length c1) (Value.slice a2 (tlP p m (p.n - m)).powers.length c2) (Value.slice a3 (tlP p m (p.n - m)).conj.length c3)
  generalize tlP p m (p.n - m) = R at *
  clear hb hP x2 g3 x1 b1 n0 n1 n2
  go_wp2_with fail
  refine bodyPost_ret (v := .tuple #[.agg #[Value.slice a1 R.orders.length c1, Value.slice a2 R.powers.length c2, Value.slice a3 R.conj.length c3], .int .i64 0]) (by simp [results, Try.results16, go_sem, p0, p1, p2]) rfl ?_
  rw [HK.out, HX.out]
  exact ⟨_, _, _, rfl, OP.sub hP2 (fun k hk hh => ⟨by have := hh.1; have := g2.size; omega, hk⟩), hW'⟩
--== size
theorem len_TailPresentation (p : Pres) (f : Int) : psize (tailX p f) ≤ 1000000000 := by
  by_cases h : tailK p f = 0
  · have hV : ValidP p := by
      refine validB_true.1 ?_
      cases hv : validB p with
      | true => rfl
      | false => rw [tailK_1 hv] at h; omega
    have hn6 := hV.n6
    have hi : inB f 0 p.n = true := by
      cases hv : inB f 0 p.n with
      | true => rfl
      | false => rw [tailK_2 (validB_true.2 hV) hv] at h; omega
    obtain ⟨h1, h2⟩ := inB_true.1 hi
    have e : tailX p f = tlP p f.toNat (p.n - f.toNat) := by unfold tailX; rw [if_pos h]
    rw [e]
    obtain ⟨m, rfl⟩ : ∃ m : Nat, f = (m : Int) := ⟨f.toNat, by omega⟩
    rw [Int.toNat_natCast]
    refine psize_bd (by rw [tlP_ol]; omega) (by rw [tlP_pl]; omega) (by rw [tlP_cl]; omega) (fun x hx => ?_) (fun y hy => ?_)
    · simp only [tlP, List.mem_map, List.mem_range] at hx
      obtain ⟨t, ht, rfl⟩ := hx
      have := (hV.valid.pow (m + t) (by omega)).len
      rw [List.length_drop]; omega
    · simp only [tlP, List.mem_map, List.mem_range] at hy
      obtain ⟨t, ht, rfl⟩ := hy
      refine ⟨by rw [tlR_len]; omega, fun x hx => ?_⟩
      simp only [tlR, List.mem_map, List.mem_range] at hx
      obtain ⟨c, hc, rfl⟩ := hx
      have := (hV.valid.cj (m + t) (m + t + 1 + c) (by omega) (by omega)).len
      rw [List.length_drop]; omega
  · have e : tailX p f = ⟨[], [], []⟩ := by unfold tailX; rw [if_neg h]
    rw [e]
    exact psize_bd (by simp) (by simp) (by simp) (fun x hx => by simp at hx) (fun y hy => by simp at hy)
end Go.Proofs.Ytbhjbfgkohgiiaa
