/-
  SectionOf: the program's side.
-/
import Derived.Test.YtjnnjnhmecidmaaSei
namespace Go.Proofs.Ytjnnjnhmecidmaa
set_option linter.unusedVariables false
set_option linter.unusedSimpArgs false
set_option maxRecDepth 100000
open Go.RowKit

--== both
def seK (p : Pres) (f : Int) : Int := if ntK p f = 0 then (if flB p f.toNat = true then 0 else 5) else ntK p f
def seP (p : Pres) (f : Int) : Pres := if seK p f = 0 then hdP p f.toNat f.toNat else noP
def seX (p : Pres) (f : Int) : Int := if seK p f = 0 then p.r f.toNat else 0
def seY (p : Pres) (f : Int) : Int := if seK p f = 0 then (p.n : Int) - f else 0
def seD (p : Pres) (f : Int) : List (List (List Int)) := if seK p f = 0 then acD p f.toNat f.toNat else []
def seT (p : Pres) (f : Int) : List (List Int) := if seK p f = 0 then pwT p f.toNat f.toNat ++ cjT p f.toNat f.toNat else []
theorem se_ne {p : Pres} {f : Int} (h : ¬ seK p f = 0) : seP p f = noP ∧ seX p f = 0 ∧ seY p f = 0 ∧ seD p f = [] ∧ seT p f = [] := ⟨if_neg h, if_neg h, if_neg h, if_neg h, if_neg h⟩
theorem se_0 {p : Pres} {m : Nat} (h : seK p (m : Int) = 0) : seP p (m : Int) = hdP p m m ∧ seX p (m : Int) = p.r m ∧ seY p (m : Int) = (p.n : Int) - (m : Int) ∧ seD p (m : Int) = acD p m m ∧ seT p (m : Int) = pwT p m m ++ cjT p m m := by
  unfold seP seX seY seD seT
  rw [if_pos h, if_pos h, if_pos h, if_pos h, if_pos h, Int.toNat_natCast]
  exact ⟨rfl, rfl, rfl, rfl, rfl⟩
theorem seK_k {p : Pres} {f : Int} (h : ¬ ntK p f = 0) : seK p f = ntK p f := by unfold seK; rw [if_neg h]
theorem seK_5 {p : Pres} {m : Nat} (h : ntK p (m : Int) = 0) (h2 : flB p m = false) : seK p (m : Int) = 5 := by unfold seK; rw [if_pos h, Int.toNat_natCast, h2]; rfl
theorem seK_0 {p : Pres} {m : Nat} (h : ntK p (m : Int) = 0) (h2 : flB p m = true) : seK p (m : Int) = 0 := by unfold seK; rw [if_pos h, Int.toNat_natCast, h2]; rfl
def RetSec4 (w : World) (P : Pres) (X Y : Int) (D : List (List (List Int))) (T : List (List Int)) (C : Int) (e : Ending) (w' : World) : Prop :=
  ∃ v1 v2 v3 vm vt, e = .returned (.tuple #[.agg #[v1, v2, v3], .agg #[.int .i64 X, .int .i64 Y, vm], vt, .int .i64 C]) ∧ RetSec w P D T w' v1 v2 v3 vm vt
theorem RetSec.nil {w w' : World} (hB : Below w.heap.size w w') : RetSec w noP [] [] w' (.slice none 0 0) (.slice none 0 0) (.slice none 0 0) (.slice none 0 0) (.slice none 0 0) :=
  ⟨fun _ => False, fun _ => False, fun _ => False, OP.none _ _, local_O3.nil _ _, local_O2.nil _ _, fun _ h => h.elim, fun _ h => h.elim, fun _ h => h.elim, fun _ h => h.elim, fun _ h => h.elim, fun _ h => h.elim, hB⟩
theorem RetSec.fin {w wb wc wz : World} {P : Pres} {D : List (List (List Int))} {T : List (List Int)} {v1 v2 v3 vm vt : Value} (h : RetSec wb P D T wc v1 v2 v3 vm vt) (hw : Below w.heap.size w wb)
    (hz : ChgS (fun k => w.heap.size ≤ k ∧ k < wb.heap.size) wc wz) : RetSec w P D T wz v1 v2 v3 vm vt := by
  obtain ⟨A, B, C, h1, h2, h3, d1, d2, d3, a, b, c, hB⟩ := h
  have z1 := hw.size
  have z2 := hz.size
  refine ⟨A, B, C, OP.chg h1 hz ?_, local_O3.chg h2 hz ?_, local_O2.chg h3 hz ?_, d1, d2, d3, ?_, ?_, ?_, ?_⟩
  · intro k hk hh; have := (a k hk).1; have := hh.2; omega
  · intro k hk hh; have := (b k hk).1; have := hh.2; omega
  · intro k hk hh; have := (c k hk).1; have := hh.2; omega
  · intro k hk; have h := a k hk; exact ⟨by have := h.1; omega, by have := h.2; omega⟩
  · intro k hk; have h := b k hk; exact ⟨by have := h.1; omega, by have := h.2; omega⟩
  · intro k hk; have h := c k hk; exact ⟨by have := h.1; omega, by have := h.2; omega⟩
  · exact (below_size hw hB).trans (hz.below (fun k hk => hk.1) (by have := hB.size; omega))
theorem ChgS.drewT {S : Nat → Prop} {a b : World} (h : ChgS S a b) : ChgS S a b.drew := ⟨h.os, h.tape, h.output, h.size, h.block⟩
--== impl.SectionOf
set_option maxHeartbeats 8000000 in
theorem i_SectionOf (v1 v2 v3 : Value) (p : Pres) (f : Int) (w : World) (hp : RdP w v1 v2 v3 p) :
    Calls Try.prog 34 #[.agg #[v1, v2, v3], .int .i64 f] w (RetSec4 w (seP p f) (seX p f) (seY p f) (seD p f) (seT p f) (seK p f)) := by
  have HP := Lib.hid hp
  obtain ⟨ao1, cap1, rfl, _, _⟩ := hp.1.formN (n := p.n) rfl
  obtain ⟨ao2, cap2, rfl, _, _⟩ := hp.2.1.form
  obtain ⟨ao3, cap3, rfl, _, _⟩ := hp.2.2.form
  obtain ⟨wa, hwa⟩ : ∃ wa, wa = w.alloc (Obj.cells #[Value.slice ao1 p.n cap1, Value.slice ao2 p.powers.length cap2, Value.slice ao3 p.conj.length cap3] 28) := ⟨_, rfl⟩
  have ga : Below w.heap.size w wa := hwa ▸ below_alloc _ _
  have ba : Bx wa w.heap.size (Value.slice ao1 p.n cap1) (Value.slice ao2 p.powers.length cap2) (Value.slice ao3 p.conj.length cap3) := hwa ▸ Bx.new _ _ _ _
  have sa : wa.heap.size = w.heap.size + 1 := by rw [hwa]; simp
  obtain ⟨wb, hwb⟩ : ∃ wb, wb = wa.alloc (Obj.cells #[Value.slice none 0 0, Value.slice none 0 0, Value.slice none 0 0] 28) := ⟨_, rfl⟩
  have gb : Below w.heap.size w wb := hwb ▸ ga.alloc ga.size _
  have bb : Bx wb w.heap.size (Value.slice ao1 p.n cap1) (Value.slice ao2 p.powers.length cap2) (Value.slice ao3 p.conj.length cap3) := hwb ▸ ba.old _
  have xb : Bx wb (w.heap.size + 1) (.slice none 0 0) (.slice none 0 0) (.slice none 0 0) := by rw [hwb, ← sa]; exact Bx.new _ _ _ _
  have sb : wb.heap.size = w.heap.size + 1 + 1 := by rw [hwb]; simp [sa]
  obtain ⟨wc, hwc⟩ : ∃ wc, wc = wb.alloc (Obj.cells #[.int .i64 0, .int .i64 0, .slice none 0 0] 42) := ⟨_, rfl⟩
  have gc : Hid (Below w.heap.size w wc) := hwc ▸ gb.alloc gb.size _
  have bc : Hid (Bx wc w.heap.size (Value.slice ao1 p.n cap1) (Value.slice ao2 p.powers.length cap2) (Value.slice ao3 p.conj.length cap3)) := hwc ▸ bb.old _
  have xc : Hid (Bx wc (w.heap.size + 1) (.slice none 0 0) (.slice none 0 0) (.slice none 0 0)) := hwc ▸ xb.old _
  have yc : Hid (Bt 42 wc (w.heap.size + 1 + 1) (.int .i64 0) (.int .i64 0) (.slice none 0 0)) := by show Bt _ _ _ _ _ _; rw [hwc, ← sb]; exact Bt.new _ _ _ _ _
  have HWD : Hid (wc = ((w.alloc (Obj.cells #[Value.slice ao1 p.n cap1, Value.slice ao2 p.powers.length cap2, Value.slice ao3 p.conj.length cap3] 28)).alloc (Obj.cells #[Value.slice none 0 0, Value.slice none 0 0, Value.slice none 0 0] 28)).alloc (Obj.cells #[.int .i64 0, .int .i64 0, .slice none 0 0] 42)) := by
    show _ = _; rw [hwc, hwb, hwa]
  clear hp ga ba sa gb bb xb sb hwa hwb hwc wa wb
  have m0 := bc.out.c0
  have m1 := bc.out.c1
  have m2 := bc.out.c2
  by_cases hc : conB p = true
  case neg =>
    have hc' : conB p = false := by simpa using hc
    have hK := ntK_1 (i := f) hc'
    have HT : Hid (seK p f = 1) := by show _ = _; rw [seK_k (by rw [hK]; omega), hK]
    obtain ⟨e1, e2, e3, e4, e5⟩ := se_ne (p := p) (f := f) (by rw [HT.out]; omega)
    rw [e1, e2, e3, e4, e5, HT.out]
    clear hc e1 e2 e3 e4 e5 hK
    go_enter Try.func34, Try.ntmps34
    go_wp2_with fail
    rw [← HWD.out]
    refine (i_IsConsistent _ _ _ p _ (HP.out.below gc.out)).mono ?_
    rintro e w1 ⟨rfl, hb⟩
    have g1 := below_size gc.out hb
    have x1 := xc.out.below hb xc.out.lt
    have y1 := yc.out.below hb yc.out.lt
    have p0 := x1.c0
    have p1 := x1.c1
    have p2 := x1.c2
    have q0 := x1.fr 0
    have q1 := x1.fr 1
    have q2 := x1.fr 2
    have r0 := y1.c0
    have r1 := y1.c1
    have r2 := y1.c2
    have t0 := y1.fr 0
    have t1 := y1.fr 1
    have t2 := y1.fr 2
    have l1 := x1.lt
    have l2 := y1.lt
    rw [hc']
    clear hb hc' m0 m1 m2
    go_wp2_with fail
    refine bodyPost_ret (v := .tuple #[.agg #[.slice none 0 0, .slice none 0 0, .slice none 0 0], .agg #[.int .i64 0, .int .i64 0, .slice none 0 0], .slice none 0 0, .int .i64 1]) (by simp [results, Try.results34, go_sem, p0, p1, p2, r0, r1, r2]) rfl ⟨_, _, _, _, _, rfl, RetSec.nil ?_⟩
    repeat (refine Below.setCell ?_ (by simp <;> omega) _)
    exact g1
  by_cases hi : inB f 0 p.n = true
  case neg =>
    have hi' : inB f 0 p.n = false := by simpa using hi
    have hK := ntK_2 hc hi'
    have HI := Lib.hid hi'
    have HT : Hid (seK p f = 2) := by show _ = _; rw [seK_k (by rw [hK]; omega), hK]
    obtain ⟨e1, e2, e3, e4, e5⟩ := se_ne (p := p) (f := f) (by rw [HT.out]; omega)
    rw [e1, e2, e3, e4, e5, HT.out]
    clear hi hi' e1 e2 e3 e4 e5 hK
    go_enter Try.func34, Try.ntmps34
    go_wp2_with fail
    rw [← HWD.out]
    refine (i_IsConsistent _ _ _ p _ (HP.out.below gc.out)).mono ?_
    rintro e w1 ⟨rfl, hb⟩
    have g1 := below_size gc.out hb
    have b1 := bc.out.below hb bc.out.lt
    have x1 := xc.out.below hb xc.out.lt
    have y1 := yc.out.below hb yc.out.lt
    have p0 := x1.c0
    have p1 := x1.c1
    have p2 := x1.c2
    have q0 := x1.fr 0
    have q1 := x1.fr 1
    have q2 := x1.fr 2
    have r0 := y1.c0
    have r1 := y1.c1
    have r2 := y1.c2
    have t0 := y1.fr 0
    have t1 := y1.fr 1
    have t2 := y1.fr 2
    have l1 := x1.lt
    have l2 := y1.lt
    rw [hc]
    clear hb hc m0 m1 m2
    have m0 := b1.c0
    have m1 := b1.c1
    have m2 := b1.c2
    go_wp2_with fail
    refine (i_inside f 0 p.n w1).mono ?_
    rintro e w' ⟨rfl, rfl⟩
    rw [HI.out]
    go_wp2_with fail
    refine bodyPost_ret (v := .tuple #[.agg #[.slice none 0 0, .slice none 0 0, .slice none 0 0], .agg #[.int .i64 0, .int .i64 0, .slice none 0 0], .slice none 0 0, .int .i64 2]) (by simp [results, Try.results34, go_sem, p0, p1, p2, r0, r1, r2]) rfl ⟨_, _, _, _, _, rfl, RetSec.nil ?_⟩
    repeat (refine Below.setCell ?_ (by simp <;> omega) _)
    exact g1
  obtain ⟨z0, zn⟩ := inB_true.1 hi
  obtain ⟨m, rfl⟩ : ∃ m : Nat, f = (m : Int) := ⟨f.toNat, by omega⟩
  have hmn : m ≤ p.n := by omega
  have hK := ntK_0 hc hi
  have hV := (conB_true hc).1
  have HI := Lib.hid hi
  by_cases hs : flB p m = true
  case neg =>
    have hs' : flB p m = false := by simpa using hs
    have HT := Lib.hid (seK_5 hK hs')
    have HS := Lib.hid hs'
    obtain ⟨e1, e2, e3, e4, e5⟩ := se_ne (p := p) (f := (m : Int)) (by rw [HT.out]; omega)
    rw [e1, e2, e3, e4, e5, HT.out]
    clear hs hs' e1 e2 e3 e4 e5 hK hi
    go_enter Try.func34, Try.ntmps34
    go_wp2_with fail
    rw [← HWD.out]
    refine (i_IsConsistent _ _ _ p _ (HP.out.below gc.out)).mono ?_
    rintro e w1 ⟨rfl, hb⟩
    have g1 := below_size gc.out hb
    have b1 := bc.out.below hb bc.out.lt
    have x1 := xc.out.below hb xc.out.lt
    have y1 := yc.out.below hb yc.out.lt
    rw [hc]
    clear hb hc m0 m1 m2
    have m0 := b1.c0
    have m1 := b1.c1
    have m2 := b1.c2
    go_wp2_with fail
    refine (i_inside (m : Int) 0 p.n w1).mono ?_
    rintro e w' ⟨rfl, rfl⟩
    rw [HI.out]
    go_wp2_with fail
    refine (i_isSection hV _ m _ (b1.ptr (HP.out.below g1)) hmn).mono ?_
    rintro e w2 ⟨rfl, hb⟩
    have g2 := below_size g1 hb
    replace x1 := x1.below hb x1.lt
    replace y1 := y1.below hb y1.lt
    have p0 := x1.c0
    have p1 := x1.c1
    have p2 := x1.c2
    have q0 := x1.fr 0
    have q1 := x1.fr 1
    have q2 := x1.fr 2
    have r0 := y1.c0
    have r1 := y1.c1
    have r2 := y1.c2
    have t0 := y1.fr 0
    have t1 := y1.fr 1
    have t2 := y1.fr 2
    have l1 := x1.lt
    have l2 := y1.lt
    rw [HS.out]
    clear hb m0 m1 m2
    go_wp2_with fail
    refine bodyPost_ret (v := .tuple #[.agg #[.slice none 0 0, .slice none 0 0, .slice none 0 0], .agg #[.int .i64 0, .int .i64 0, .slice none 0 0], .slice none 0 0, .int .i64 5]) (by simp [results, Try.results34, go_sem, p0, p1, p2, r0, r1, r2]) rfl ⟨_, _, _, _, _, rfl, RetSec.nil ?_⟩
    repeat (refine Below.setCell ?_ (by simp <;> omega) _)
    exact g2
  have HT := Lib.hid (seK_0 hK hs)
  have HS := Lib.hid hs
  have hmn' : m < p.n := by obtain ⟨z1, z2⟩ := inB_true.1 (flB_nt hs).2; omega
  obtain ⟨e1, e2, e3, e4, e5⟩ := se_0 HT.out
  rw [e1, e2, e3, e4, e5, HT.out]
  clear hs e1 e2 e3 e4 e5 hK hi
  go_enter Try.func34, Try.ntmps34
  go_wp2_with fail
  rw [← HWD.out]
  refine (i_IsConsistent _ _ _ p _ (HP.out.below gc.out)).mono ?_
  rintro e w1 ⟨rfl, hb⟩
  have g1 := below_size gc.out hb
  have b1 := bc.out.below hb bc.out.lt
  have x1 := xc.out.below hb xc.out.lt
  have y1 := yc.out.below hb yc.out.lt
  rw [hc]
  clear hb hc m0 m1 m2
  have m0 := b1.c0
  have m1 := b1.c1
  have m2 := b1.c2
  go_wp2_with fail
  refine (i_inside (m : Int) 0 p.n w1).mono ?_
  rintro e w' ⟨rfl, rfl⟩
  rw [HI.out]
  go_wp2_with fail
  refine (i_isSection hV _ m _ (b1.ptr (HP.out.below g1)) hmn).mono ?_
  rintro e w2 ⟨rfl, hb⟩
  have g2 := below_size g1 hb
  replace b1 := b1.below hb b1.lt
  replace x1 := x1.below hb x1.lt
  replace y1 := y1.below hb y1.lt
  rw [HS.out]
  clear hb m0 m1 m2
  have m0 := b1.c0
  have m1 := b1.c1
  have m2 := b1.c2
  go_wp2_with fail
  refine (i_sectionOf hV _ m _ (b1.ptr (HP.out.below g2)) hmn').mono ?_
  rintro e w3 ⟨y1', y2', y3', vm, vt, rfl, hR⟩
  obtain ⟨A, B, C, k1, k2, k3, dd⟩ := hR
  obtain ⟨f1, f2, f3, f4, f5, f6, f7, f8, f9, rfl, rfl, rfl⟩ := k1.formsQ
  obtain ⟨am, cm, rfl, _, _⟩ := (O3.rd k2).form
  obtain ⟨at', ct, rfl, _, _⟩ := (O2.rd k3).form
  have hB3 := dd.2.2.2.2.2.2
  have HRS : Hid (RetSec w2 (hdP p m m) (acD p m m) (pwT p m m ++ cjT p m m) w3 (.slice f1 f2 f3) (.slice f4 f5 f6) (.slice f7 f8 f9) (.slice am (acD p m m).length cm) (.slice at' (pwT p m m ++ cjT p m m).length ct)) := ⟨A, B, C, k1, k2, k3, dd⟩
  generalize (acD p m m).length = lm at *
  generalize (pwT p m m ++ cjT p m m).length = lt at *
  have h12 : w.heap.size + 1 + 1 < w2.heap.size := y1.lt
  replace x1 := x1.below hB3 x1.lt
  replace y1 := y1.below hB3 y1.lt
  have hs3 := hB3.size
  clear b1 m0 m1 m2
  generalize p.r m = rx at *
  generalize (p.n : Int) - (m : Int) = ry at *
  have G5 := below_allocs2 w3 (Obj.cells #[Value.slice f1 f2 f3, Value.slice f4 f5 f6, Value.slice f7 f8 f9] 28) (Obj.cells #[.int .i64 rx, .int .i64 ry, .slice am lm cm] 42)
  have x8 := (Bx.new w3 (.slice f1 f2 f3) (.slice f4 f5 f6) (.slice f7 f8 f9)).old (Obj.cells #[.int .i64 rx, .int .i64 ry, .slice am lm cm] 42)
  have y9 := Bt.new 42 (w3.alloc (Obj.cells #[Value.slice f1 f2 f3, Value.slice f4 f5 f6, Value.slice f7 f8 f9] 28)) (.int .i64 rx) (.int .i64 ry) (.slice am lm cm)
  rw [show (w3.alloc (Obj.cells #[Value.slice f1 f2 f3, Value.slice f4 f5 f6, Value.slice f7 f8 f9] 28)).heap.size = w3.heap.size + 1 by simp] at y9
  obtain ⟨w5, hw5⟩ : ∃ w5, w5 = (w3.alloc (Obj.cells #[Value.slice f1 f2 f3, Value.slice f4 f5 f6, Value.slice f7 f8 f9] 28)).alloc (Obj.cells #[.int .i64 rx, .int .i64 ry, .slice am lm cm] 42) := ⟨_, rfl⟩
  rw [← hw5] at G5 x8 y9
  have HW5 := Lib.hid hw5
  replace x1 := x1.below G5 x1.lt
  replace y1 := y1.below G5 y1.lt
  have HFIN : Hid (∀ wz, ChgS (fun k => k = w.heap.size + 1 ∨ k = w.heap.size + 1 + 1) w5 wz → RetSec w (hdP p m m) (acD p m m) (pwT p m m ++ cjT p m m) wz (.slice f1 f2 f3) (.slice f4 f5 f6) (.slice f7 f8 f9) (.slice am lm cm) (.slice at' lt ct)) := fun wz hz =>
    RetSec.fin HRS.out g2 ((ChgS.of_below _ G5).then (hz.sub (fun k hk => by rcases hk with h | h <;> exact ⟨by omega, by omega⟩)))
  have p0 := x1.c0
  have p1 := x1.c1
  have p2 := x1.c2
  have q0 := x1.fr 0
  have q1 := x1.fr 1
  have q2 := x1.fr 2
  have r0 := y1.c0
  have r1 := y1.c1
  have r2 := y1.c2
  have t0 := y1.fr 0
  have t1 := y1.fr 1
  have t2 := y1.fr 2
  have l1 := x1.lt
  have l2 := y1.lt
  have u0 := x8.c0
  have u1 := x8.c1
  have u2 := x8.c2
  have s0 := y9.c0
  have s1 := y9.c1
  have s2 := y9.c2
  have l8 := x8.lt
  have l9 := y9.lt
  have hne1 : w.heap.size + 1 ≠ w3.heap.size := by omega
  have hne2 : w.heap.size + 1 ≠ w3.heap.size + 1 := by omega
  have hne3 : w.heap.size + 1 + 1 ≠ w3.heap.size := by omega
  have hne4 : w.heap.size + 1 + 1 ≠ w3.heap.size + 1 := by omega
  clear dd k1 k2 k3 hB3 x1 y1 x8 y9 hw5 G5
  go_wp2_with fail
  rw [← HW5.out]
  go_region
  all_goals
    go_wp2_with fail
    refine bodyPost_ret (v := .tuple #[.agg #[.slice f1 f2 f3, .slice f4 f5 f6, .slice f7 f8 f9], .agg #[.int .i64 rx, .int .i64 ry, .slice am lm cm], .slice at' lt ct, .int .i64 0]) (by simp [results, Try.results34, go_sem, p0, p1, p2, r0, r1, r2]) rfl ⟨_, _, _, _, _, rfl, HFIN.out _ ?_⟩
    repeat (first | refine ChgS.put ?_ (by first | exact .inl rfl | exact .inr rfl) _ _ | refine ChgS.drewT ?_)
    exact (ChgS.refl _ _)
end Go.Proofs.Ytjnnjnhmecidmaa
