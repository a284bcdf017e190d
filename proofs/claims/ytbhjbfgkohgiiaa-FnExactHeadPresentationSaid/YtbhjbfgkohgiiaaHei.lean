/-
  HeadPresentation: the program's side.
-/
import Derived.Test.YtbhjbfgkohgiiaaHek
namespace Go.Proofs.Ytbhjbfgkohgiiaa
set_option linter.unusedVariables false
set_option linter.unusedSimpArgs false
set_option maxRecDepth 100000
open Go.RowKit

--== impl.HeadPresentation
set_option maxHeartbeats 4000000 in
theorem i_HeadPresentation (v1 v2 v3 : Value) (p : Pres) (f : Int) (w : World) (hp : RdP w v1 v2 v3 p) (bf : -9223372036854775808 ≤ f ∧ f ≤ 9223372036854775807) :
    Calls Try.prog 23 #[.agg #[v1, v2, v3], .int .i64 f] w (RetP2 w (hdX p f) (hdK p f)) := by
  have HP := Lib.hid hp
  obtain ⟨ao1, cap1, rfl, _, _⟩ := hp.1.form
  obtain ⟨ao2, cap2, rfl, _, _⟩ := hp.2.1.form
  obtain ⟨ao3, cap3, rfl, _, _⟩ := hp.2.2.form
  have g0 := below_alloc w (Obj.cells #[Value.slice ao1 p.orders.length cap1, Value.slice ao2 p.powers.length cap2, Value.slice ao3 p.conj.length cap3] 28)
  have g1 := ball g0 (Obj.cells #[Value.slice none 0 0, Value.slice none 0 0, Value.slice none 0 0] 28)
  have b0 := (Bx.new w (Value.slice ao1 p.orders.length cap1) (Value.slice ao2 p.powers.length cap2) (Value.slice ao3 p.conj.length cap3)).old (Obj.cells #[Value.slice none 0 0, Value.slice none 0 0, Value.slice none 0 0] 28)
  have x0 := Bx.new (w.alloc (Obj.cells #[Value.slice ao1 p.orders.length cap1, Value.slice ao2 p.powers.length cap2, Value.slice ao3 p.conj.length cap3] 28)) (Value.slice none 0 0) (Value.slice none 0 0) (Value.slice none 0 0)
  have hsz : (w.alloc (Obj.cells #[Value.slice ao1 p.orders.length cap1, Value.slice ao2 p.powers.length cap2, Value.slice ao3 p.conj.length cap3] 28)).heap.size = w.heap.size + 1 := by simp
  rw [hsz] at x0
  clear hp hsz g0
  by_cases hi : ntK p f = 0
  case neg =>
    obtain ⟨k, hk⟩ : ∃ k, ntK p f = k := ⟨_, rfl⟩
    have HK : Hid (hdK p f = k) := by show _ = _; rw [hdK_k hi, hk]
    have HX : Hid (hdX p f = noP) := by show _ = _; exact hdX_ne (by rw [hdK_k hi]; exact hi)
    have HR := Lib.hid (ntR_ne (i := f) hi)
    have HC := Lib.hid hk
    rw [hk] at hi
    clear hk
    go_enter Try.func23, Try.ntmps23
    go_wp2_with fail
    refine (i_IsNormalTail _ _ _ p f _ (HP.out.below g1) bf).mono ?_
    rintro e w1 ⟨rfl, hb⟩
    have g2 := below_size g1 hb
    have x1 := x0.below hb x0.lt
    have b1 := b0.below hb b0.lt
    have n0 := b1.c0
    have n1 := b1.c1
    have n2 := b1.c2
    rw [HR.out, HC.out]
    clear hb b0 g1
    have p0 := x1.c0
    have p1 := x1.c1
    have p2 := x1.c2
    have q0 := x1.fr 0
    have q1 := x1.fr 1
    have q2 := x1.fr 2
    have hW' := set3 (b := w.heap.size + 1) g2 (by omega) (Value.slice none 0 0) (Value.slice none 0 0) (Value.slice none 0 0)
    go_wp2_with fail
    refine bodyPost_ret (v := .tuple #[.agg #[Value.slice none 0 0, Value.slice none 0 0, Value.slice none 0 0], .int .i64 k]) (by simp [results, Try.results23, go_sem, p0, p1, p2]) rfl ?_
    rw [HK.out, HX.out]
    exact ⟨_, _, _, rfl, OP.none _ _, hW'⟩
  obtain ⟨hVd, m, rfl, hm⟩ := ntK_inv hi
  have HVd := Lib.hid hVd
  have hn6 := hVd.n6
  have HC := Lib.hid hi
  clear hVd
  by_cases hj : ntB p m = true
  case neg =>
    have hj' : ntB p m = false := by simpa using hj
    have HK := Lib.hid (hdK_5 hi hj')
    have HX : Hid (hdX p (m : Int) = noP) := by show _ = _; exact hdX_ne (by rw [HK.out]; decide)
    have HR : Hid (ntR p (m : Int) = false) := by show _ = _; rw [ntR_0 hi, Int.toNat_natCast]; exact hj'
    have HJ := Lib.hid hj'
    clear hi hj hj'
    go_enter Try.func23, Try.ntmps23
    go_wp2_with fail
    refine (i_IsNormalTail _ _ _ p (m : Int) _ (HP.out.below g1) bf).mono ?_
    rintro e w1 ⟨rfl, hb⟩
    have g2 := below_size g1 hb
    have x1 := x0.below hb x0.lt
    have b1 := b0.below hb b0.lt
    have n0 := b1.c0
    have n1 := b1.c1
    have n2 := b1.c2
    rw [HR.out, HC.out]
    clear hb b0 g1
    have p0 := x1.c0
    have p1 := x1.c1
    have p2 := x1.c2
    have q0 := x1.fr 0
    have q1 := x1.fr 1
    have q2 := x1.fr 2
    have hW' := set3 (b := w.heap.size + 1) g2 (by omega) (Value.slice none 0 0) (Value.slice none 0 0) (Value.slice none 0 0)
    go_wp2_with fail
    refine bodyPost_ret (v := .tuple #[.agg #[Value.slice none 0 0, Value.slice none 0 0, Value.slice none 0 0], .int .i64 5]) (by simp [results, Try.results23, go_sem, p0, p1, p2]) rfl ?_
    rw [HK.out, HX.out]
    exact ⟨_, _, _, rfl, OP.none _ _, hW'⟩
  have HK := Lib.hid (hdK_0 hi hj)
  have HX := Lib.hid (hdX_0 HK.out)
  have HR : Hid (ntR p (m : Int) = true) := by show _ = _; rw [ntR_0 hi, Int.toNat_natCast]; exact hj
  clear hi hj
  go_enter Try.func23, Try.ntmps23
  go_wp2_with fail
  refine (i_IsNormalTail _ _ _ p (m : Int) _ (HP.out.below g1) bf).mono ?_
  rintro e w1 ⟨rfl, hb⟩
  have g2 := below_size g1 hb
  have x1 := x0.below hb x0.lt
  have b1 := b0.below hb b0.lt
  have n0 := b1.c0
  have n1 := b1.c1
  have n2 := b1.c2
  rw [HR.out, HC.out]
  clear hb b0 g1
  go_wp2_with fail
  refine (i_headOf_all HVd.out m hm _ _ (b1.ptr (HP.out.below g2))).mono ?_
  rintro e w2 ⟨u1, u2, u3, rfl, hP, hb⟩
  have x2 := x1.below hb x1.lt
  have g3 := below_size g2 hb
  obtain ⟨⟨a1, c1, rfl⟩, ⟨a2, c2, rfl⟩, ⟨a3, c3, rfl⟩⟩ := hP.forms
  have p0 := x2.c0
  have p1 := x2.c1
  have p2 := x2.c2
  have q0 := x2.fr 0
  have q1 := x2.fr 1
  have q2 := x2.fr 2
  have hl := x1.lt
  have hP2 := op_set3 (b := w.heap.size + 1) hP (fun h => by have := h.1; omega) (Value.slice a1 (hdP p m m).orders.length c1) (Value.slice a2 (hdP p m m).powers.length c2) (Value.slice a3 (hdP p m m).conj.length c3)
  have hW' := set3 (b := w.heap.size + 1) g3 (by omega) (Value.slice a1 (hdP p m m).orders.length c1) (Value.slice a2 (hdP p m m).powers.length c2) (Value.slice a3 (hdP p m m).conj.length c3)
  generalize hdP p m m = R at *
  clear hb hP x2 g3 x1 b1 n0 n1 n2
  go_wp2_with fail
  refine bodyPost_ret (v := .tuple #[.agg #[Value.slice a1 R.orders.length c1, Value.slice a2 R.powers.length c2, Value.slice a3 R.conj.length c3], .int .i64 0]) (by simp [results, Try.results23, go_sem, p0, p1, p2]) rfl ?_
  rw [HK.out, HX.out]
  exact ⟨_, _, _, rfl, OP.sub hP2 (fun k hk hh => ⟨by have := hh.1; have := g2.size; omega, hk⟩), hW'⟩
end Go.Proofs.Ytbhjbfgkohgiiaa
