/-
  HeadPresentation: the reference's side.
-/
import Derived.Test.YtjnnjnhmecidmaaHek
namespace Go.Proofs.Ytjnnjnhmecidmaa
set_option linter.unusedVariables false
set_option linter.unusedSimpArgs false
set_option maxRecDepth 100000
open Go.RowKit

--== spec.HeadPresentation
set_option maxHeartbeats 4000000 in
theorem s_HeadPresentation (v1 v2 v3 : Value) (p : Pres) (f : Int) (w : World) (hp : RdP w v1 v2 v3 p) (bf : -9223372036854775808 ≤ f ∧ f ≤ 9223372036854775807) :
    Calls Try.prog 99 #[.agg #[v1, v2, v3], .int .i64 f] w (RetP2 w (hdX p f) (hdK p f)) := by
  by_cases h0 : ntK p f = 0 ∧ ntB p f.toNat = true
  · obtain ⟨hi, hj⟩ := h0
    obtain ⟨hVd, m, rfl, hm⟩ := ntK_inv hi
    rw [Int.toNat_natCast] at hj
    have HK := hdK_0 hi hj
    rw [hdX_0 HK, HK]
    exact s_Head_all hVd m hm v1 v2 v3 w hp hi hj
  have H0 := Lib.hid h0
  clear h0
  have HP := Lib.hid hp
  obtain ⟨ao1, cap1, rfl, _, _⟩ := hp.1.form
  obtain ⟨ao2, cap2, rfl, _, _⟩ := hp.2.1.form
  obtain ⟨ao3, cap3, rfl, _, _⟩ := hp.2.2.form
  have g0 := below_alloc w (Obj.cells #[Value.slice ao1 p.orders.length cap1, Value.slice ao2 p.powers.length cap2, Value.slice ao3 p.conj.length cap3] 28)
  have g1 := ball g0 (Obj.cells #[Value.slice none 0 0, Value.slice none 0 0, Value.slice none 0 0] 28)
  have b0 := (Bx.new w (Value.slice ao1 p.orders.length cap1) (Value.slice ao2 p.powers.length cap2) (Value.slice ao3 p.conj.length cap3)).old (Obj.cells #[Value.slice none 0 0, Value.slice none 0 0, Value.slice none 0 0] 28)
  have x0 := Bx.new (w.alloc (Obj.cells #[Value.slice ao1 p.orders.length cap1, Value.slice ao2 p.powers.length cap2, Value.slice ao3 p.conj.length cap3] 28)) (Value.slice none 0 0) (Value.slice none 0 0) (Value.slice none 0 0)
  have hsz : (w.alloc (Obj.cells #[Value.slice ao1 p.orders.length cap1, Value.slice ao2 p.powers.length cap2, Value.slice ao3 p.conj.length cap3] 28)).heap.size = w.heap.size + 1 := by simp
  rw [hsz] at x0
  clear hp hsz g0
  by_cases hi : ntK p f = 0
  case neg =>
    obtain ⟨k, hk⟩ : ∃ k, ntK p f = k := ⟨_, rfl⟩
    have HK : Hid (hdK p f = k) := by show _ = _; rw [hdK_k hi, hk]
    have HX : Hid (hdX p f = noP) := by show _ = _; exact hdX_ne (by rw [hdK_k hi]; exact hi)
    have HR := Lib.hid (ntR_ne (i := f) hi)
    have HC := Lib.hid hk
    rw [hk] at hi
    clear hk
    go_enter Try.func99, Try.ntmps99
    go_wp2_with fail
    refine (s_l08Code _ _ _ p f _ (HP.out.below g1) bf).mono ?_
    rintro e w1 ⟨rfl, hb⟩
    have g2 := below_size g1 hb
    have x1 := x0.below hb x0.lt
    have b1 := b0.below hb b0.lt
    have n0 := b1.c0
    have n1 := b1.c1
    have n2 := b1.c2
    rw [HC.out]
    clear hb b0 g1
    have p0 := x1.c0
    have p1 := x1.c1
    have p2 := x1.c2
    have q0 := x1.fr 0
    have q1 := x1.fr 1
    have q2 := x1.fr 2
    have hW' := set3 (b := w.heap.size + 1) g2 (by omega) (Value.slice none 0 0) (Value.slice none 0 0) (Value.slice none 0 0)
    go_wp2_with fail
    refine bodyPost_ret (v := .tuple #[.agg #[Value.slice none 0 0, Value.slice none 0 0, Value.slice none 0 0], .int .i64 k]) (by simp [results, Try.results99, go_sem, p0, p1, p2]) rfl ?_
    rw [HK.out, HX.out]
    exact ⟨_, _, _, rfl, OP.none _ _, hW'⟩
  obtain ⟨hVd, m, rfl, hm⟩ := ntK_inv hi
  have HVd := Lib.hid hVd
  have hn6 := hVd.n6
  have HC := Lib.hid hi
  clear hVd
  have hj : ntB p m = false := by
    cases hb : ntB p m with
    | false => rfl
    | true => exact absurd ⟨hi, by rw [Int.toNat_natCast]; exact hb⟩ H0.out
  have HK := Lib.hid (hdK_5 hi hj)
  have HX : Hid (hdX p (m : Int) = noP) := by show _ = _; exact hdX_ne (by rw [HK.out]; decide)
  have HJ := Lib.hid hj
  clear hi hj
  go_enter Try.func99, Try.ntmps99
  go_wp2_with fail
  refine (s_l08Code _ _ _ p (m : Int) _ (HP.out.below g1) bf).mono ?_
  rintro e w1 ⟨rfl, hb⟩
  have g2 := below_size g1 hb
  have x1 := x0.below hb x0.lt
  have b1 := b0.below hb b0.lt
  have n0 := b1.c0
  have n1 := b1.c1
  have n2 := b1.c2
  rw [HC.out]
  clear hb b0 g1
  go_wp2_with fail
  refine (s_l08Normal HVd.out _ _ _ m _ (HP.out.below g2) hm).mono ?_
  rintro e w2 ⟨rfl, hb⟩
  rw [HJ.out]
  have g2 := below_size g2 hb
  have x1 := x1.below hb x1.lt
  clear hb n0 n1 n2 b1
  have p0 := x1.c0
  have p1 := x1.c1
  have p2 := x1.c2
  have q0 := x1.fr 0
  have q1 := x1.fr 1
  have q2 := x1.fr 2
  have hW' := set3 (b := w.heap.size + 1) g2 (by omega) (Value.slice none 0 0) (Value.slice none 0 0) (Value.slice none 0 0)
  go_wp2_with fail
  refine bodyPost_ret (v := .tuple #[.agg #[Value.slice none 0 0, Value.slice none 0 0, Value.slice none 0 0], .int .i64 5]) (by simp [results, Try.results99, go_sem, p0, p1, p2]) rfl ?_
  rw [HK.out, HX.out]
  exact ⟨_, _, _, rfl, OP.none _ _, hW'⟩
end Go.Proofs.Ytjnnjnhmecidmaa
