/-
  All elements; the first element that conjugates one to another: both sides.
-/
import Derived.Test.YtanjeebdondpaaaLst
namespace Go.Proofs.Ytanjeebdondpaaa
set_option linter.unusedVariables false
set_option linter.unusedSimpArgs false
set_option maxRecDepth 100000
open Go.RowKit

--== impl.allElements
def allE (p : Pres) (m : Nat) : List (List Int) := (List.range m).map fun (k : Nat) => atF p (k : Int)
theorem allE_succ (p : Pres) (m : Nat) : allE p (m + 1) = allE p m ++ [atF p (m : Int)] := by unfold allE; rw [List.range_succ, List.map_append]; rfl
theorem allE_len (p : Pres) (m : Nat) : (allE p m).length = m := by simp [allE]
theorem allE_get (p : Pres) {m j : Nat} (h : j < m) : (allE p m).getD j [] = atF p (j : Int) := by simp [allE, List.getD, h]
def gord (p : Pres) : Nat := (prodO p.orders).toNat
theorem gord_eq {p : Pres} (hV : ValidP p) : prodO p.orders = (gord p : Int) ∧ gord p ≤ 729 := by have := ord_bd0 hV; unfold gord; omega
set_option maxHeartbeats 2000000 in
theorem i_allElements {p : Pres} (hV : ValidP p) (vp : Value) (w : World) (hp : PtrP w vp p) :
    Calls Try.prog 84 #[vp] w (RetL2 w (allE p (gord p))) := by
  obtain ⟨hq, hq7⟩ := gord_eq hV
  have HQ := Lib.hid hq
  have HP := Lib.hid hp
  obtain ⟨N, HN⟩ : ∃ N, Hid (gord p = N) := ⟨_, rfl⟩
  rw [HN.out] at hq7 ⊢
  clear hq
  go_enter Try.func84, Try.ntmps84
  go_wp2_with fail
  refine (i_orderOf _ p _ hp hV.ord).mono ?_
  rintro e w' ⟨rfl, rfl⟩
  rw [HQ.out, HN.out]
  clear hp
  go_wp2_with fail
  go_loopw [3, 7] (fun u t wr => ∃ m : Nat, m ≤ N ∧ t = .int .i64 m ∧ O2 wr (win w.heap.size wr.heap.size) u (allE p m) ∧ Below w.heap.size w wr) (fun _ t _ => N - (intOf t).toNat)
  case atStart => exact ⟨0, Nat.zero_le _, rfl, local_O2.nil _ _, Below.refl _ _⟩
  case round =>
    obtain ⟨m, hm, rfl, hO, hB⟩ := hrel
    obtain ⟨a6, c6, rfl, _, _⟩ := hO.formN (allE_len p m)
    have HL := Lib.hid (allE_len p m)
    by_cases hlt : m < N
    · have HS := Lib.hid (allE_succ p m)
      generalize allE p m = R at *
      go_wp2_with fail
      refine (i_elementAt hV (m : Int) _ _ (HP.out.below hB) (by omega)).mono ?_
      rintro e w5 ⟨u5, rfl, hI5, hB5⟩
      obtain ⟨a5, c5, rfl, _, _⟩ := hI5.form
      obtain ⟨v6, w6, hr6, hO6, hB6⟩ := step_rows hO hB.size hI5 rfl hB5 (by rw [HL.out]; omega)
      have hB7 := (hB.trans (hB5.mono hB.size)).trans hB6
      clear hO hB hI5 hB5 hB6
      go_wp2_with (at_builtin; refine wp_of_run _ rfl _ _ _ rfl _ _ rfl rfl _ _ hr6 ?_)
      go_roundw
      case rel => exact ⟨m + 1, by omega, by go_num, by rw [HS.out]; exact hO6, hB7⟩
      case measure => simp [intOf]; omega
    · obtain rfl : m = N := by omega
      go_wp2_with fail
      go_ret
      exact ⟨_, rfl, hO, hB⟩
--== the first that conjugates
def cjQ (p : Pres) (x y : List Int) (t : Nat) : Bool := decide (p.at 0 x (atF p (t : Int)) = p.at 0 (atF p (t : Int)) y)
def cjT (p : Pres) (x y : List Int) : Option Nat := fst (cjQ p x y) 0 (gord p)
def cjK (p : Pres) (x y : List Int) : Int := if elsB p [x, y] = true then (if (cjT p x y).isSome then 0 else 4) else 1
def cjR (p : Pres) (x y : List Int) : List Int := atF p ((cjT p x y).getD 0 : Nat)
theorem cjK_1 {p : Pres} {x y : List Int} (h : elsB p [x, y] = false) : cjK p x y = 1 := by unfold cjK; rw [h]; rfl
theorem cjK_4 {p : Pres} {x y : List Int} (h : elsB p [x, y] = true) (h2 : ∀ t, t < gord p → cjQ p x y t = false) : cjK p x y = 4 := by
  unfold cjK cjT; rw [if_pos h, fst_none (fun t _ ht => h2 t (by omega))]; rfl
theorem cjT_at {p : Pres} {x y : List Int} {t : Nat} (ht : t < gord p) (hq : cjQ p x y t = true) (hl : ∀ u, u < t → cjQ p x y u = false) : cjT p x y = some t := fst_some (Nat.zero_le _) (by omega) hq (fun u _ hu => hl u hu)
theorem cjK_0 {p : Pres} {x y : List Int} {t : Nat} (h : elsB p [x, y] = true) (ht : cjT p x y = some t) : cjK p x y = 0 ∧ cjR p x y = atF p (t : Int) := by
  unfold cjK cjR; rw [if_pos h, ht]; exact ⟨rfl, rfl⟩
theorem O1.ints {w : World} {S : Nat → Prop} {v : Value} {xs : List Int} {B : Nat} (h : O1 w S v xs) (hS : ∀ k, S k → B ≤ k) : Ints w B v xs := by
  refine ⟨h.1.1, ?_⟩
  rcases h.1.2 with h2 | ⟨g, cap, cur, hv, hg, r⟩
  · exact .inl h2
  · exact .inr ⟨g, cap, cur, hv, hS g (h.2 g (by rw [hv]; rfl)), r⟩
--== impl.ConjugatingElement
set_option maxHeartbeats 4000000 in
theorem i_ConjugatingElement (v1 v2 v3 : Value) (p : Pres) (vx : Value) (x : List Int) (vy : Value) (y : List Int) (w : World) (hp : RdP w v1 v2 v3 p) (hx : Rd w vx x) (hy : Rd w vy y) :
    Calls Try.prog 46 #[.agg #[v1, v2, v3], vx, vy] w (RetInts2 w (okW (cjK p x y) (cjR p x y)) (cjK p x y)) := by
  have HP := Lib.hid hp
  obtain ⟨ao1, cap1, rfl, _, _⟩ := hp.1.form
  obtain ⟨ao2, cap2, rfl, _, _⟩ := hp.2.1.form
  obtain ⟨ao3, cap3, rfl, _, _⟩ := hp.2.2.form
  have g0 := below_alloc w (Obj.cells #[Value.slice ao1 p.orders.length cap1, Value.slice ao2 p.powers.length cap2, Value.slice ao3 p.conj.length cap3] 28)
  obtain ⟨ax, cx, rfl, _, _⟩ := hx.form
  obtain ⟨ay, cy, rfl, _, _⟩ := hy.form
  have PT := Lib.hid (PtrP.boxed hp)
  have hl := Rd2.lit2 22 _ _ x y (hx.below g0) (hy.below g0)
  have hsz : (w.alloc (Obj.cells #[Value.slice ao1 p.orders.length cap1, Value.slice ao2 p.powers.length cap2, Value.slice ao3 p.conj.length cap3] 28)).heap.size = w.heap.size + 1 := by simp
  rw [hsz] at hl
  have HL := Lib.hid hl
  have g1 := ball g0 (Obj.cells #[.slice ax x.length cx, .slice ay y.length cy] 22)
  have PT1 := Lib.hid (PT.out.below (below_alloc _ (Obj.cells #[.slice ax x.length cx, .slice ay y.length cy] 22)))
  have Hx := Lib.hid hx
  have Hy := Lib.hid hy
  clear hp hl hsz hx hy
  by_cases hE : elsB p [x, y] = true
  case neg =>
    have hE' : elsB p [x, y] = false := by simpa using hE
    rw [cjK_1 hE']
    clear hE
    go_enter Try.func46, Try.ntmps46
    go_wp2_with fail
    refine (i_areElements _ _ p [x, y] _ PT1.out HL.out (by simp)).mono ?_
    rintro e w2 ⟨rfl, hb⟩
    have g2 := below_size g1 hb
    rw [hE']
    clear hb hE'
    go_wp2_with fail
    go_ret2
    exact ⟨_, rfl, Ints.nil _ _, g2⟩
  have HE := Lib.hid hE
  obtain ⟨hc, hall⟩ := elsB_true hE
  obtain ⟨hV, hG⟩ := conB_true hc
  have HV := Lib.hid hV
  have HG := Lib.hid hG
  have Kx := Lib.hid (tail_VI (hall x (by simp)))
  have Ky := Lib.hid (tail_VI (hall y (by simp)))
  have hq7 := (gord_eq hV).2
  clear hc hall hV hG
  go_enter Try.func46, Try.ntmps46
  go_wp2_with fail
  refine (i_areElements _ _ p [x, y] _ PT1.out HL.out (by simp)).mono ?_
  rintro e w2 ⟨rfl, hb⟩
  have g2 := below_size g1 hb
  have PT2 := PT1.out.below hb
  rw [hE]
  clear hb hE
  go_wp2_with fail
  refine (i_allElements HV.out _ _ PT2).mono ?_
  rintro e w3 ⟨u3, rfl, hO3, hB3⟩
  have g3 := below_size g2 hB3
  have PT3 := PT2.below hB3
  have hO3' := O2.grow hO3 g2.size
  obtain ⟨a3, q3, rfl, _, _⟩ := hO3'.formN (allE_len p (gord p))
  have HO := Lib.hid hO3'
  have HPT := Lib.hid PT3
  obtain ⟨N, HN⟩ : ∃ N, Hid (gord p = N) := ⟨_, rfl⟩
  rw [HN.out] at HO hq7 ⊢
  clear hO3 hB3 PT2 PT3 hO3'
  have hB0 := Below.refl w3.heap.size w3
  go_wp2_with fail
  go_loopw [17] (fun t wr => ∃ j : Nat, j ≤ N ∧ t = .int .i64 j ∧ (∀ u, u < j → cjQ p x y u = false) ∧ Below w3.heap.size w3 wr) (fun t _ => N - (intOf t).toNat)
  case atStart => exact ⟨0, Nat.zero_le _, rfl, fun u hu => by omega, hB0⟩
  case round =>
    clear hB0
    obtain ⟨j, hj, rfl, hall, hB⟩ := hrel
    have HA := Lib.hid hall
    clear hall
    by_cases hlt : j < N
    · obtain ⟨gg, cap, r, T, he, hcell, hO1, hT, _⟩ := ON.focus local_O1 HO.out j (by rw [allE_len]; exact hlt)
      rw [allE_len] at he
      simp only [Value.slice.injEq, true_and] at he
      obtain ⟨rfl, rfl⟩ := he
      rw [allE_get p hlt] at hO1
      have hI : Ints w3 w.heap.size r (atF p (j : Int)) := hO1.ints fun k hk => (hT k hk).1
      have VZ := atF_VI HV.out.valid (j : Int)
      obtain ⟨az, cz, rfl, _, _⟩ := hI.rd.formN VZ.len
      have hc' := below_cells hB _ _ hcell
      have HI := Lib.hid (hI.below hB)
      have g4 := below_size g3 hB
      obtain ⟨fb, hfb⟩ : ∃ fb, cjQ p x y j = fb := ⟨_, rfl⟩
      have HFB := Lib.hid hfb
      have VX := HG.out.at Kx.out VZ
      have VY := HG.out.at VZ Ky.out
      have HEQ : Hid (∀ wx u v, Rd wx u (p.at 0 x (atF p (j : Int))) → Rd wx v (p.at 0 (atF p (j : Int)) y) → Calls Try.prog 92 #[u, v] wx (RetV wx (.bool fb))) := fun wx u v h1 h2 =>
        f_EqualV u v _ _ wx _ h1 h2 hfb
      clear hO1 hT hcell hI hfb
      go_wp2_with fail
      refine (i_multiply _ _ _ p 0 x _ _ (HPT.out.below hB) HV.out HG.out (Hx.out.below g4) HI.out.rd Kx.out VZ).mono ?_
      rintro e w5 ⟨u5, rfl, hI5, hB5⟩
      have hB6 := below_size hB hB5
      have g5 := below_size g4 hB5
      have HI5 := Lib.hid (HI.out.below hB5)
      go_wp2_with fail
      refine (i_multiply _ _ _ p 0 _ y _ (HPT.out.below hB6) HV.out HG.out HI5.out.rd (Hy.out.below g5) VZ Ky.out).mono ?_
      rintro e w7 ⟨u7, rfl, hI7, hB7⟩
      have hB8 := below_size hB6 hB7
      have g7 := below_size g5 hB7
      have HI7 := Lib.hid (HI5.out.below hB7)
      have R5 := Lib.hid (hI5.below hB7).rd
      have R7 := Lib.hid hI7.rd
      clear hI5 hI7 hB5 hB6 hB7 hB g4 g5 hc' HI HI5
      go_wp2_with fail
      refine (HEQ.out _ _ _ R5.out R7.out).mono ?_
      rintro e w9 ⟨rfl, hB9⟩
      have hB10 := below_size hB8 hB9
      have g9 := below_size g7 hB9
      have HI9 := HI7.out.below hB9
      clear hB8 hB9 g7 R5 R7 HEQ
      cases fb with
      | true =>
        have HKK := Lib.hid (cjK_0 HE.out (cjT_at (by rw [HN.out]; exact hlt) HFB.out HA.out))
        go_wp2_with fail
        go_ret2
        rw [HKK.out.1, HKK.out.2, okW_zero rfl]
        exact ⟨_, rfl, HI9, g9⟩
      | false =>
        have HN2 : Hid (∀ u, u < j + 1 → cjQ p x y u = false) := fun u hu => by
          by_cases h : u = j
          · subst h; exact HFB.out
          · exact HA.out u (by omega)
        go_wp2_with fail
        go_roundw
        case rel => exact ⟨j + 1, by omega, by go_num, HN2.out, hB10⟩
        case measure => simp [intOf]; omega
    · obtain rfl : j = N := by omega
      have HKK := Lib.hid (cjK_4 HE.out (by rw [HN.out]; exact HA.out))
      have g4 := below_size g3 hB
      clear hB
      go_wp2_with fail
      go_ret2
      rw [HKK.out]
      exact ⟨_, rfl, Ints.nil _ _, g4⟩
--== spec.ConjugatingElement
theorem els_no1 {p : Pres} {x y : List Int} (h : elsB p [x] = false) : elsB p [x, y] = false := by
  rw [elsB_two]; rw [elsB_one] at h
  cases h1 : conB p <;> simp [h1] at h ⊢
  simp [h]
theorem els_no2 {p : Pres} {x y : List Int} (h : tailB p.orders y 0 = false) : elsB p [x, y] = false := by rw [elsB_two, h]; simp
theorem els_yes {p : Pres} {x y : List Int} (h : elsB p [x] = true) (h2 : tailB p.orders y 0 = true) : elsB p [x, y] = true := by
  rw [elsB_one] at h; rw [elsB_two, h2]; simp at h ⊢; exact h
set_option maxHeartbeats 4000000 in
theorem s_ConjugatingElement (v1 v2 v3 : Value) (p : Pres) (vx : Value) (x : List Int) (vy : Value) (y : List Int) (w : World) (hp : RdP w v1 v2 v3 p) (hx : Rd w vx x) (hy : Rd w vy y) :
    Calls Try.prog 45 #[.agg #[v1, v2, v3], vx, vy] w (RetInts2 w (okW (cjK p x y) (cjR p x y)) (cjK p x y)) := by
  have HP := Lib.hid hp
  obtain ⟨ao1, cap1, rfl, _, _⟩ := hp.1.form
  obtain ⟨ao2, cap2, rfl, _, _⟩ := hp.2.1.form
  obtain ⟨ao3, cap3, rfl, _, _⟩ := hp.2.2.form
  have g0 := below_alloc w (Obj.cells #[Value.slice ao1 p.orders.length cap1, Value.slice ao2 p.powers.length cap2, Value.slice ao3 p.conj.length cap3] 28)
  have x0 := Bx.new w (Value.slice ao1 p.orders.length cap1) (Value.slice ao2 p.powers.length cap2) (Value.slice ao3 p.conj.length cap3)
  have X0 := Lib.hid x0
  have Hx := Lib.hid hx
  have Hy := Lib.hid hy
  clear hp hx hy x0
  by_cases h1 : elsB p [x] = true
  case neg =>
    have h1' : elsB p [x] = false := by simpa using h1
    rw [cjK_1 (els_no1 h1')]
    clear h1
    go_enter Try.func45, Try.ntmps45
    go_wp2_with fail
    refine (s_IsElement _ _ _ p _ x _ (HP.out.below g0) (Hx.out.below g0)).mono ?_
    rintro e w2 ⟨rfl, hb⟩
    have g2 := below_size g0 hb
    obtain ⟨c1, f1⟩ := bcell hb
    have z1 : w.heap.size < w2.heap.size := by have := hb.size; simp at this; omega
    rw [h1']
    clear hb h1'
    go_wp2_with fail
    go_ret2
    exact ⟨_, rfl, Ints.nil _ _, g2⟩
  obtain ⟨hc, hall⟩ := elsB_true h1
  have HO := Lib.hid (conB_ord hc)
  obtain ⟨hV, hG⟩ := conB_true hc
  have HV := Lib.hid hV
  have HG := Lib.hid hG
  have Kx := Lib.hid (tail_VI (hall x (by simp)))
  clear hc hall
  by_cases h2 : tailB p.orders y 0 = true
  case neg =>
    have h2' : tailB p.orders y 0 = false := by simpa using h2
    rw [cjK_1 (els_no2 h2')]
    clear h2 hV hG
    go_enter Try.func45, Try.ntmps45
    go_wp2_with fail
    refine (s_IsElement _ _ _ p _ x _ (HP.out.below g0) (Hx.out.below g0)).mono ?_
    rintro e w2 ⟨rfl, hb⟩
    have g2 := below_size g0 hb
    obtain ⟨c1, f1⟩ := bcell hb
    have z1 : w.heap.size < w2.heap.size := by have := hb.size; simp at this; omega
    rw [h1]
    clear hb h1
    go_wp2_with fail
    refine (s_l10Element _ _ _ _ p y _ (HP.out.below g2) (Hy.out.below g2) HO.out).mono ?_
    rintro e w3 ⟨rfl, hb⟩
    have g3 := below_size g2 hb
    rw [h2']
    clear hb h2'
    go_wp2_with fail
    go_ret2
    exact ⟨_, rfl, Ints.nil _ _, g3⟩
  have Ky := Lib.hid (tail_VI h2)
  have HE := Lib.hid (els_yes h1 h2)
  obtain ⟨hq, hq7⟩ := gord_eq hV
  have HQ := Lib.hid hq
  obtain ⟨N, HN⟩ : ∃ N, Hid (gord p = N) := ⟨_, rfl⟩
  rw [HN.out] at hq7
  clear hV hG hq
  go_enter Try.func45, Try.ntmps45
  go_wp2_with fail
  refine (s_IsElement _ _ _ p _ x _ (HP.out.below g0) (Hx.out.below g0)).mono ?_
  rintro e w2 ⟨rfl, hb⟩
  have g2 := below_size g0 hb
  have x2 := X0.out.below hb (by simp)
  have m0 := x2.c0
  have m1 := x2.c1
  have m2 := x2.c2
  rw [h1]
  clear hb h1
  go_wp2_with fail
  refine (s_l10Element _ _ _ _ p y _ (HP.out.below g2) (Hy.out.below g2) HO.out).mono ?_
  rintro e w3 ⟨rfl, hb⟩
  have g3 := below_size g2 hb
  have x3 := x2.below hb x2.lt
  rw [h2]
  clear hb h2 m0 m1 m2 x2
  go_wp2_with fail
  go_loopw [8] (fun t wr => ∃ j : Nat, j ≤ N ∧ t = .int .i64 j ∧ (∀ u, u < j → cjQ p x y u = false) ∧ Bx wr w.heap.size (Value.slice ao1 p.orders.length cap1) (Value.slice ao2 p.powers.length cap2) (Value.slice ao3 p.conj.length cap3) ∧ Below w.heap.size w wr) (fun t _ => N - (intOf t).toNat)
  case atStart => exact ⟨0, Nat.zero_le _, rfl, fun u hu => by omega, x3, g3⟩
  case round =>
    clear x3 g3
    obtain ⟨j, hj, rfl, hall, hX, hB⟩ := hrel
    have HA := Lib.hid hall
    have m0 := hX.c0
    have m1 := hX.c1
    have m2 := hX.c2
    clear hall
    go_wp2_with fail
    refine (s_l10Order HV.out _ _ _ _ (HP.out.below hB)).mono ?_
    rintro e w4 ⟨rfl, hb4⟩
    have hB4 := below_size hB hb4
    have hX4 := hX.below hb4 hX.lt
    rw [HQ.out, HN.out]
    clear hX hB hb4 m0 m1 m2
    have m0 := hX4.c0
    have m1 := hX4.c1
    have m2 := hX4.c2
    by_cases hlt : j < N
    · go_wp2_with fail
      refine (s_l10At HV.out (j : Int) _ _ _ _ (HP.out.below hB4) (by omega)).mono ?_
      rintro e w5 ⟨u5, rfl, hI5, hb5⟩
      have hB5 := below_size hB4 hb5
      have hX5 := hX4.below hb5 hX4.lt
      have VZ := atF_VI HV.out.valid (j : Int)
      obtain ⟨az, cz, rfl, _, _⟩ := hI5.rd.formN VZ.len
      have HI5 := Lib.hid (hI5.mono hB4.size)
      obtain ⟨fb, hfb⟩ : ∃ fb, cjQ p x y j = fb := ⟨_, rfl⟩
      have HFB := Lib.hid hfb
      have VX := HG.out.at (HG.out.inv VZ) (HG.out.at Kx.out VZ)
      have HEQ : Hid (∀ wx u v, Rd wx u (p.at 0 (p.inv 0 (atF p (j : Int))) (p.at 0 x (atF p (j : Int)))) → Rd wx v y → Calls Try.prog 91 #[u, v] wx (RetV wx (.bool fb))) := fun wx u v h1 h2 => by
        refine (s_l01Same u v _ _ wx h1 h2 (by rw [VX.len, Ky.out.len])).mono fun e w' h => ?_
        obtain ⟨h3, h4⟩ := h.below
        refine ⟨?_, h4⟩
        rw [h3, ← hfb]
        unfold cjQ
        rw [decide_eq_decide.2 (HG.out.cnj Kx.out VZ Ky.out)]
      clear hX4 hI5 hb5 hfb m0 m1 m2
      have m0 := hX5.c0
      have m1 := hX5.c1
      have m2 := hX5.c2
      go_wp2_with fail
      refine (s_l10Conj HV.out HG.out x _ _ _ _ _ _ _ (HP.out.below hB5) (Hx.out.below hB5) HI5.out.rd Kx.out VZ).mono ?_
      rintro e w6 ⟨u6, rfl, hI6, hb6⟩
      have hB6 := below_size hB5 hb6
      have hX6 := hX5.below hb6 hX5.lt
      have HI6 := Lib.hid (HI5.out.below hb6)
      have R6 := Lib.hid hI6.rd
      clear hX5 hI6 hb6 m0 m1 m2 HI5 hB5
      go_wp2_with fail
      refine (HEQ.out _ _ _ R6.out (Hy.out.below hB6)).mono ?_
      rintro e w7 ⟨rfl, hb7⟩
      have hB7 := below_size hB6 hb7
      have hX7 := hX6.below hb7 hX6.lt
      have HI7 := HI6.out.below hb7
      clear hX6 hb7 R6 HI6 HEQ hB6
      cases fb with
      | true =>
        have HKK := Lib.hid (cjK_0 HE.out (cjT_at (by rw [HN.out]; exact hlt) HFB.out HA.out))
        go_wp2_with fail
        go_ret2
        rw [HKK.out.1, HKK.out.2, okW_zero rfl]
        exact ⟨_, rfl, HI7, hB7⟩
      | false =>
        have HN2 : Hid (∀ u, u < j + 1 → cjQ p x y u = false) := fun u hu => by
          by_cases h : u = j
          · subst h; exact HFB.out
          · exact HA.out u (by omega)
        go_wp2_with fail
        go_roundw
        case rel => exact ⟨j + 1, by omega, by go_num, HN2.out, hX7, hB7⟩
        case measure => simp [intOf]; omega
    · obtain rfl : j = N := by omega
      have HKK := Lib.hid (cjK_4 HE.out (by rw [HN.out]; exact HA.out))
      clear hX4 m0 m1 m2
      go_wp2_with fail
      go_ret2
      rw [HKK.out]
      exact ⟨_, rfl, Ints.nil _ _, hB4⟩
theorem len_ConjugatingElement (p : Pres) (x y : List Int) : (okW (cjK p x y) (cjR p x y)).length ≤ 1000000000 := by
  unfold okW; split
  · next h =>
    have hc : elsB p [x, y] = true := by
      unfold cjK at h
      split at h
      · assumption
      · omega
    have := (conB_true (elsB_true hc).1).1.n6
    show (atS p _ p.n).1.length ≤ _
    rw [atS_len]; omega
  · simp
end Go.Proofs.Ytanjeebdondpaaa
