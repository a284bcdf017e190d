/-
  SectionOf: the reference's side; sizes.
-/
import Derived.Test.YtjnnjnhmecidmaaSes
namespace Go.Proofs.Ytjnnjnhmecidmaa
set_option linter.unusedVariables false
set_option linter.unusedSimpArgs false
set_option maxRecDepth 100000
open Go.RowKit

--== spec.SectionOf
set_option maxHeartbeats 8000000 in
theorem s_SectionOf (v1 v2 v3 : Value) (p : Pres) (f : Int) (w : World) (hp : RdP w v1 v2 v3 p) :
    Calls Try.prog 33 #[.agg #[v1, v2, v3], .int .i64 f] w (RetSec4 w (seP p f) (seX p f) (seY p f) (seD p f) (seT p f) (seK p f)) := by
  have HP := Lib.hid hp
  obtain ⟨ao1, cap1, rfl, _, _⟩ := hp.1.formN (n := p.n) rfl
  obtain ⟨ao2, cap2, rfl, _, _⟩ := hp.2.1.form
  obtain ⟨ao3, cap3, rfl, _, _⟩ := hp.2.2.form
  obtain ⟨wa, hwa⟩ : ∃ wa, wa = w.alloc (Obj.cells #[Value.slice ao1 p.n cap1, Value.slice ao2 p.powers.length cap2, Value.slice ao3 p.conj.length cap3] 28) := ⟨_, rfl⟩
  have ga : Below w.heap.size w wa := hwa ▸ below_alloc _ _
  have ba : Bx wa w.heap.size (Value.slice ao1 p.n cap1) (Value.slice ao2 p.powers.length cap2) (Value.slice ao3 p.conj.length cap3) := hwa ▸ Bx.new _ _ _ _
  have sa : wa.heap.size = w.heap.size + 1 := by rw [hwa]; simp
  obtain ⟨wb, hwb⟩ : ∃ wb, wb = wa.alloc (Obj.cells #[Value.slice none 0 0, Value.slice none 0 0, Value.slice none 0 0] 28) := ⟨_, rfl⟩
  have gb : Below w.heap.size w wb := hwb ▸ ga.alloc ga.size _
  have bb : Bx wb w.heap.size (Value.slice ao1 p.n cap1) (Value.slice ao2 p.powers.length cap2) (Value.slice ao3 p.conj.length cap3) := hwb ▸ ba.old _
  have xb : Bx wb (w.heap.size + 1) (.slice none 0 0) (.slice none 0 0) (.slice none 0 0) := by rw [hwb, ← sa]; exact Bx.new _ _ _ _
  have sb : wb.heap.size = w.heap.size + 1 + 1 := by rw [hwb]; simp [sa]
  obtain ⟨wc, hwc⟩ : ∃ wc, wc = wb.alloc (Obj.cells #[.int .i64 0, .int .i64 0, .slice none 0 0] 42) := ⟨_, rfl⟩
  have gc : Hid (Below w.heap.size w wc) := hwc ▸ gb.alloc gb.size _
  have bc : Hid (Bx wc w.heap.size (Value.slice ao1 p.n cap1) (Value.slice ao2 p.powers.length cap2) (Value.slice ao3 p.conj.length cap3)) := hwc ▸ bb.old _
  have xc : Hid (Bx wc (w.heap.size + 1) (.slice none 0 0) (.slice none 0 0) (.slice none 0 0)) := hwc ▸ xb.old _
  have yc : Hid (Bt 42 wc (w.heap.size + 1 + 1) (.int .i64 0) (.int .i64 0) (.slice none 0 0)) := by show Bt _ _ _ _ _ _; rw [hwc, ← sb]; exact Bt.new _ _ _ _ _
  have HWD : Hid (wc = ((w.alloc (Obj.cells #[Value.slice ao1 p.n cap1, Value.slice ao2 p.powers.length cap2, Value.slice ao3 p.conj.length cap3] 28)).alloc (Obj.cells #[Value.slice none 0 0, Value.slice none 0 0, Value.slice none 0 0] 28)).alloc (Obj.cells #[.int .i64 0, .int .i64 0, .slice none 0 0] 42)) := by
    show _ = _; rw [hwc, hwb, hwa]
  clear hp ga ba sa gb bb xb sb hwa hwb hwc wa wb
  have m0 := bc.out.c0
  have m1 := bc.out.c1
  have m2 := bc.out.c2
  by_cases hc : conB p = true
  case neg =>
    have hc' : conB p = false := by simpa using hc
    have hK := ntK_1 (i := f) hc'
    have HT : Hid (seK p f = 1) := by show _ = _; rw [seK_k (by rw [hK]; omega), hK]
    obtain ⟨e1, e2, e3, e4, e5⟩ := se_ne (p := p) (f := f) (by rw [HT.out]; omega)
    rw [e1, e2, e3, e4, e5, HT.out]
    clear hc e1 e2 e3 e4 e5 hK
    go_enter Try.func33, Try.ntmps33
    go_wp2_with fail
    rw [← HWD.out]
    refine (s_l08Group p _ _ _ _ (HP.out.below gc.out)).mono ?_
    rintro e w1 ⟨rfl, hb⟩
    have g1 := below_size gc.out hb
    have x1 := xc.out.below hb xc.out.lt
    have y1 := yc.out.below hb yc.out.lt
    have p0 := x1.c0
    have p1 := x1.c1
    have p2 := x1.c2
    have q0 := x1.fr 0
    have q1 := x1.fr 1
    have q2 := x1.fr 2
    have r0 := y1.c0
    have r1 := y1.c1
    have r2 := y1.c2
    have t0 := y1.fr 0
    have t1 := y1.fr 1
    have t2 := y1.fr 2
    have l1 := x1.lt
    have l2 := y1.lt
    rw [hc']
    clear hb hc' m0 m1 m2
    go_wp2_with fail
    refine bodyPost_ret (v := .tuple #[.agg #[.slice none 0 0, .slice none 0 0, .slice none 0 0], .agg #[.int .i64 0, .int .i64 0, .slice none 0 0], .slice none 0 0, .int .i64 1]) (by simp [results, Try.results33, go_sem, p0, p1, p2, r0, r1, r2]) rfl ⟨_, _, _, _, _, rfl, RetSec.nil ?_⟩
    repeat (refine Below.setCell ?_ (by simp <;> omega) _)
    exact g1
  by_cases hi : inB f 0 p.n = true
  case neg =>
    have hi' : inB f 0 p.n = false := by simpa using hi
    have hK := ntK_2 hc hi'
    have HI := Lib.hid hi'
    have HT : Hid (seK p f = 2) := by show _ = _; rw [seK_k (by rw [hK]; omega), hK]
    obtain ⟨e1, e2, e3, e4, e5⟩ := se_ne (p := p) (f := f) (by rw [HT.out]; omega)
    rw [e1, e2, e3, e4, e5, HT.out]
    clear hi hi' e1 e2 e3 e4 e5 hK
    go_enter Try.func33, Try.ntmps33
    go_wp2_with fail
    rw [← HWD.out]
    refine (s_l08Group p _ _ _ _ (HP.out.below gc.out)).mono ?_
    rintro e w1 ⟨rfl, hb⟩
    have g1 := below_size gc.out hb
    have b1 := bc.out.below hb bc.out.lt
    have x1 := xc.out.below hb xc.out.lt
    have y1 := yc.out.below hb yc.out.lt
    have p0 := x1.c0
    have p1 := x1.c1
    have p2 := x1.c2
    have q0 := x1.fr 0
    have q1 := x1.fr 1
    have q2 := x1.fr 2
    have r0 := y1.c0
    have r1 := y1.c1
    have r2 := y1.c2
    have t0 := y1.fr 0
    have t1 := y1.fr 1
    have t2 := y1.fr 2
    have l1 := x1.lt
    have l2 := y1.lt
    rw [hc]
    clear hb hc m0 m1 m2
    have m0 := b1.c0
    have m1 := b1.c1
    have m2 := b1.c2
    go_wp2_with fail
    refine (s_l01In f 0 p.n w1).mono ?_
    rintro e w' ⟨rfl, rfl⟩
    rw [HI.out]
    go_wp2_with fail
    refine bodyPost_ret (v := .tuple #[.agg #[.slice none 0 0, .slice none 0 0, .slice none 0 0], .agg #[.int .i64 0, .int .i64 0, .slice none 0 0], .slice none 0 0, .int .i64 2]) (by simp [results, Try.results33, go_sem, p0, p1, p2, r0, r1, r2]) rfl ⟨_, _, _, _, _, rfl, RetSec.nil ?_⟩
    repeat (refine Below.setCell ?_ (by simp <;> omega) _)
    exact g1
  obtain ⟨z0, zn⟩ := inB_true.1 hi
  obtain ⟨m, rfl⟩ : ∃ m : Nat, f = (m : Int) := ⟨f.toNat, by omega⟩
  have hmn : m ≤ p.n := by omega
  have hK := ntK_0 hc hi
  have hV := (conB_true hc).1
  have HI := Lib.hid hi
  by_cases hs : flB p m = true
  case neg =>
    have hs' : flB p m = false := by simpa using hs
    have HT := Lib.hid (seK_5 hK hs')
    have HS := Lib.hid hs'
    obtain ⟨e1, e2, e3, e4, e5⟩ := se_ne (p := p) (f := (m : Int)) (by rw [HT.out]; omega)
    rw [e1, e2, e3, e4, e5, HT.out]
    clear hs hs' e1 e2 e3 e4 e5 hK hi
    go_enter Try.func33, Try.ntmps33
    go_wp2_with fail
    rw [← HWD.out]
    refine (s_l08Group p _ _ _ _ (HP.out.below gc.out)).mono ?_
    rintro e w1 ⟨rfl, hb⟩
    have g1 := below_size gc.out hb
    have b1 := bc.out.below hb bc.out.lt
    have x1 := xc.out.below hb xc.out.lt
    have y1 := yc.out.below hb yc.out.lt
    rw [hc]
    clear hb hc m0 m1 m2
    have m0 := b1.c0
    have m1 := b1.c1
    have m2 := b1.c2
    go_wp2_with fail
    refine (s_l01In (m : Int) 0 p.n w1).mono ?_
    rintro e w' ⟨rfl, rfl⟩
    rw [HI.out]
    go_wp2_with fail
    refine (s_l24Flat hV _ _ _ m _ (HP.out.below g1) hmn).mono ?_
    rintro e w2 ⟨rfl, hb⟩
    have g2 := below_size g1 hb
    replace x1 := x1.below hb x1.lt
    replace y1 := y1.below hb y1.lt
    have p0 := x1.c0
    have p1 := x1.c1
    have p2 := x1.c2
    have q0 := x1.fr 0
    have q1 := x1.fr 1
    have q2 := x1.fr 2
    have r0 := y1.c0
    have r1 := y1.c1
    have r2 := y1.c2
    have t0 := y1.fr 0
    have t1 := y1.fr 1
    have t2 := y1.fr 2
    have l1 := x1.lt
    have l2 := y1.lt
    rw [HS.out]
    clear hb m0 m1 m2
    go_wp2_with fail
    refine bodyPost_ret (v := .tuple #[.agg #[.slice none 0 0, .slice none 0 0, .slice none 0 0], .agg #[.int .i64 0, .int .i64 0, .slice none 0 0], .slice none 0 0, .int .i64 5]) (by simp [results, Try.results33, go_sem, p0, p1, p2, r0, r1, r2]) rfl ⟨_, _, _, _, _, rfl, RetSec.nil ?_⟩
    repeat (refine Below.setCell ?_ (by simp <;> omega) _)
    exact g2
  have hmn' : m < p.n := by obtain ⟨z1, z2⟩ := inB_true.1 (flB_nt hs).2; omega
  have HT := Lib.hid (seK_0 hK hs)
  obtain ⟨e1, e2, e3, e4, e5⟩ := se_0 HT.out
  rw [e1, e2, e3, e4, e5, HT.out]
  exact s_Sec_go hc m hmn' _ _ _ w HP.out hK hs
--== sizes
theorem seK_inv {p : Pres} {f : Int} (h : seK p f = 0) : ValidP p ∧ ∃ m : Nat, f = (m : Int) ∧ m ≤ p.n := by
  by_cases hi : ntK p f = 0
  · exact ntK_inv hi
  · rw [seK_k hi] at h; exact absurd h hi
theorem len_seP (p : Pres) (f : Int) : psize (seP p f) ≤ 1000000000 := by
  by_cases h : seK p f = 0
  · obtain ⟨hV, m, rfl, hm⟩ := seK_inv h
    have hn6 := hV.n6
    rw [(se_0 h).1]
    refine psize_bd (by rw [hdP_ol p hm]; omega) (by rw [hdP_pl]; omega) (by rw [hdP_cl]; omega) (fun x hx => ?_) (fun y hy => ?_)
    · simp only [hdP, List.mem_map, List.mem_range] at hx
      obtain ⟨t, ht, rfl⟩ := hx
      rw [List.length_take]; omega
    · simp only [hdP, List.mem_map, List.mem_range] at hy
      obtain ⟨t, ht, rfl⟩ := hy
      refine ⟨by rw [hdR_len]; omega, fun x hx => ?_⟩
      simp only [hdR, List.mem_map, List.mem_range] at hx
      obtain ⟨c, hc, rfl⟩ := hx
      rw [List.length_take]; omega
  · rw [(se_ne h).1]; decide
theorem dC_len {p : Pres} (hV : ValidP p) {f k t : Nat} (h : k + 1 + t < p.n) : (dC p f k t).length ≤ 6 := by
  have := (hV.valid.cj k (k + 1 + t) (by omega) h).len
  have hn6 := hV.n6
  unfold dC
  rw [List.length_drop]; omega
theorem rwC_mem {p : Pres} (hV : ValidP p) {f k : Nat} (hk : k < p.n) : ∀ x ∈ rwC p f k (p.n - (k + 1)), x.length ≤ 6 := by
  intro x hx
  unfold rwC at hx
  obtain ⟨c, hc, rfl⟩ := List.mem_map.1 hx
  have := List.mem_range.1 hc
  exact dC_len hV (by omega)
theorem len_seD (p : Pres) (f : Int) : msize (seD p f) ≤ 1000000000 := by
  by_cases h : seK p f = 0
  · obtain ⟨hV, m, rfl, hm⟩ := seK_inv h
    have hn6 := hV.n6
    rw [(se_0 h).2.2.2.1]
    have hl := acD_len p m m
    have h1 : ∀ R ∈ acD p m m, R.length ≤ 6 ∧ ∀ x ∈ R, x.length ≤ 6 := by
      intro R hR
      unfold acD at hR
      obtain ⟨k, hk, rfl⟩ := List.mem_map.1 hR
      have := List.mem_range.1 hk
      exact ⟨by have := rwC_len p m k (p.n - (k + 1)); omega, rwC_mem hV (by omega)⟩
    have h2 : tots (acD p m m) ≤ 6 * (acD p m m).length := tot_le _ fun R hR => (h1 R hR).1
    have h3 : tot3 (acD p m m) ≤ 36 * (acD p m m).length := tot_le _ fun R hR => by
      have h4 := cat_len_le (h1 R hR).2
      have h5 := (h1 R hR).1
      unfold lenc; omega
    unfold msize; omega
  · rw [(se_ne h).2.2.2.1]; decide
theorem len_seT (p : Pres) (f : Int) : size2 (seT p f) ≤ 1000000000 := by
  by_cases h : seK p f = 0
  · obtain ⟨hV, m, rfl, hm⟩ := seK_inv h
    have hn6 := hV.n6
    rw [(se_0 h).2.2.2.2]
    have h1 : ∀ x ∈ pwT p m m ++ cjT p m m, x.length ≤ 6 := by
      intro x hx
      rcases List.mem_append.1 hx with hx | hx
      · unfold pwT at hx
        obtain ⟨k, hk, rfl⟩ := List.mem_map.1 hx
        have := List.mem_range.1 hk
        have := (hV.valid.pow k (by omega)).len
        rw [List.length_drop]; omega
      · unfold cjT at hx
        obtain ⟨R, hR, hx⟩ := List.mem_flatten.1 hx
        obtain ⟨k, hk, rfl⟩ := List.mem_map.1 hR
        have := List.mem_range.1 hk
        unfold tlC at hx
        obtain ⟨c, hc, rfl⟩ := List.mem_map.1 hx
        have := List.mem_range.1 hc
        exact dC_len hV (by omega)
    have h2 := cat_len_le h1
    have h3 : (pwT p m m ++ cjT p m m).length ≤ 42 := by
      rw [List.length_append, pwT_len]
      have h4 := cjT_len p m m
      have h5 : m * m ≤ 36 := Nat.le_trans (Nat.mul_le_mul (by omega : m ≤ 6) (by omega : m ≤ 6)) (by omega)
      omega
    unfold size2; omega
  · rw [(se_ne h).2.2.2.2]; decide
end Go.Proofs.Ytjnnjnhmecidmaa
