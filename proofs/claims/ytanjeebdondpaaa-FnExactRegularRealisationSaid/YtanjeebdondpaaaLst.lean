/-
  Lists of elements: generators, conjugates, inner automorphisms; the first conjugating element.
-/
import Derived.Test.YtanjeebdondpaaaCnj
import Derived.Test.YtanjeebdondpaaaEat
namespace Go.Proofs.Ytanjeebdondpaaa
set_option linter.unusedVariables false
set_option linter.unusedSimpArgs false
set_option maxRecDepth 100000
open Go.RowKit

--== rows that a loop appends
theorem step_rows {B : Nat} {wr w5 : World} {u u5 : Value} {L : List (List Int)} {xs : List Int} (hO : O2 wr (win B wr.heap.size) u L) (hBw : B ≤ wr.heap.size) (hI5 : Ints w5 wr.heap.size u5 xs) (hone : u5.oneCell' = true) (hB5 : Below wr.heap.size wr w5) (hn : L.length ≤ 1000000000) :
    ∃ v6 w6, (Builtin.append_ #[23, 23] 23 #[u, .slice (some ⟨w5.heap.size, 0, none⟩) 1 1]).run Try.prog (w5.alloc (.cells #[u5] 22)) = .ok v6 w6 ∧ O2 w6 (win B w6.heap.size) v6 (L ++ [xs]) ∧ Below B w5 w6 := by
  obtain ⟨i0, hi, hz0, hz1, hz2⟩ := info_parts Try.infoRow
  have hO5 := local_O2.below hO hB5
  have hy5 := hI5.o1
  have sz5 := hB5.size
  obtain ⟨v6, w6, hr6, hO6, hC6⟩ := run_appO local_O1 w5 23 23 i0 Try.underlying23 hi hz0 hz1 hz2 _ _ _ _ hO5 _ _ hy5 hone (fun k hk h => by have := hk.1; have := h.2; omega) hn
  have sz6 := hC6.size
  refine ⟨v6, w6, hr6, local_O2.mono hO6 (fun k hk h => ⟨?_, hk⟩), hC6.below (fun k hk => hk.1.1) (by omega)⟩
  rcases h with ⟨h | h, _⟩ | h
  · exact h.1
  · have := h.1; omega
  · omega
def RetL2 (w : World) (d : List (List Int)) (e : Ending) (w' : World) : Prop := ∃ v, e = .returned v ∧ O2 w' (win w.heap.size w'.heap.size) v d ∧ Below w.heap.size w w'
def RetL2c (w : World) (d : List (List Int)) (c : Int) (e : Ending) (w' : World) : Prop := ∃ v, e = .returned (.tuple #[v, .int .i64 c]) ∧ O2 w' (win w.heap.size w'.heap.size) v d ∧ Below w.heap.size w w'
theorem O2.grow {w w2 w' : World} {v : Value} {d : List (List Int)} (h : O2 w' (win w2.heap.size w'.heap.size) v d) (hs : w.heap.size ≤ w2.heap.size) : O2 w' (win w.heap.size w'.heap.size) v d :=
  local_O2.mono h fun k _ hk => ⟨by have := hk.1; omega, hk.2⟩
theorem O2.formN {w : World} {S : Nat → Prop} {v : Value} {d : List (List Int)} (h : O2 w S v d) {n : Nat} (e : d.length = n) : ∃ ao cap, v = .slice ao n cap ∧ n ≤ cap ∧ cap ≤ 9223372036854775807 := h.rd.formN e
--== impl.generators
def genL (p : Pres) (m : Nat) : List (List Int) := (List.range m).map p.uv
theorem genL_succ (p : Pres) (m : Nat) : genL p (m + 1) = genL p m ++ [p.uv m] := by simp [genL, List.range_succ]
theorem genL_len (p : Pres) (m : Nat) : (genL p m).length = m := by simp [genL]
theorem genL_get (p : Pres) {m j : Nat} (h : j < m) : (genL p m).getD j [] = p.uv j := by simp [genL, List.getD, h]
set_option maxHeartbeats 2000000 in
theorem i_generators {p : Pres} (hV : ValidP p) (vp : Value) (w : World) (hp : PtrP w vp p) :
    Calls Try.prog 82 #[vp] w (RetL2 w (genL p p.n)) := by
  have hn6 := hV.n6
  obtain ⟨pb, v1, v2, v3, rfl, c1, c2, c3, R1, R2, R3⟩ := hp
  obtain ⟨p1, q1, rfl, _, _⟩ := R1.formN (n := p.n) rfl
  have C1 := Lib.hid c1
  clear R1 R2 R3 c2 c3
  go_enter Try.func82, Try.ntmps82
  go_wp2_with fail
  clear c1
  go_loopw [3, 10] (fun u t wr => ∃ m : Nat, m ≤ p.n ∧ t = .int .i64 m ∧ O2 wr (win w.heap.size wr.heap.size) u (genL p m) ∧ Below w.heap.size w wr) (fun _ t _ => p.n - (intOf t).toNat)
  case atStart => exact ⟨0, Nat.zero_le _, rfl, local_O2.nil _ _, Below.refl _ _⟩
  case round =>
    obtain ⟨m, hm, rfl, hO, hB⟩ := hrel
    obtain ⟨a6, c6, rfl, _, _⟩ := hO.formN (genL_len p m)
    have HL := Lib.hid (genL_len p m)
    by_cases hlt : m < p.n
    · have HS := Lib.hid (genL_succ p m)
      have e0 := below_cells hB _ _ C1.out
      generalize genL p m = R at *
      go_wp2_with fail
      refine (i_unitVector p.n m _ hlt (by omega)).mono ?_
      rintro e w5 ⟨u5, rfl, hI5, hB5⟩
      obtain ⟨a5, c5, rfl, _, _⟩ := hI5.form
      obtain ⟨v6, w6, hr6, hO6, hB6⟩ := step_rows hO hB.size hI5 rfl hB5 (by rw [HL.out]; omega)
      have hB7 := (hB.trans (hB5.mono hB.size)).trans hB6
      clear hO hB hI5 hB5 hB6 e0
      go_wp2_with (at_builtin; refine wp_of_run _ rfl _ _ _ rfl _ _ rfl rfl _ _ hr6 ?_)
      go_roundw
      case rel => exact ⟨m + 1, by omega, by go_num, by rw [HS.out]; exact hO6, hB7⟩
      case measure => simp [intOf]; omega
    · obtain rfl : m = p.n := by omega
      go_wp2_with fail
      go_ret
      exact ⟨_, rfl, hO, hB⟩
--== impl.conjugates
noncomputable def cnjL (p : Pres) (L : List (List Int)) (x : List Int) (m : Nat) : List (List Int) := (List.range m).map fun j => p.at 0 (p.inv 0 x) (p.at 0 (L.getD j []) x)
theorem cnjL_succ (p : Pres) (L : List (List Int)) (x : List Int) (m : Nat) : cnjL p L x (m + 1) = cnjL p L x m ++ [p.at 0 (p.inv 0 x) (p.at 0 (L.getD m []) x)] := by unfold cnjL; rw [List.range_succ, List.map_append]; rfl
theorem cnjL_len (p : Pres) (L : List (List Int)) (x : List Int) (m : Nat) : (cnjL p L x m).length = m := by simp [cnjL]
set_option maxHeartbeats 2000000 in
theorem i_conjugates {p : Pres} (hV : ValidP p) (hG : GT p 0) (vp vl vx : Value) (L : List (List Int)) (x : List Int) (w : World) (hp : PtrP w vp p) (hl : Rd2 w vl L) (hx : Rd w vx x) (kx : VI p 0 x) (kl : ∀ j, j < L.length → VI p 0 (L.getD j [])) (hn : L.length ≤ 100000) :
    Calls Try.prog 81 #[vp, vl, vx] w (RetL2 w (cnjL p L x L.length)) := by
  have hn6 := hV.n6
  obtain ⟨al, cl, rfl, _, _⟩ := hl.form
  have HL := Lib.hid hl
  have HX := Lib.hid hx
  have HKL := Lib.hid kl
  obtain ⟨N, hN⟩ : ∃ N, L.length = N := ⟨_, rfl⟩
  have HN := Lib.hid hN
  rw [hN] at hn ⊢
  clear hl hx kl hN
  go_enter Try.func81, Try.ntmps81
  go_wp2_with fail
  go_loopw [7, 12] (fun u t wr => ∃ m : Nat, m ≤ N ∧ t = .int .i64 m ∧ O2 wr (win w.heap.size wr.heap.size) u (cnjL p L x m) ∧ Below w.heap.size w wr) (fun _ t _ => N - (intOf t).toNat)
  case atStart => exact ⟨0, Nat.zero_le _, rfl, local_O2.nil _ _, Below.refl _ _⟩
  case round =>
    obtain ⟨m, hm, rfl, hO, hB⟩ := hrel
    obtain ⟨a6, c6, rfl, _, _⟩ := hO.formN (cnjL_len p L x m)
    have HLn := Lib.hid (cnjL_len p L x m)
    by_cases hlt : m < N
    · have HS := Lib.hid (cnjL_succ p L x m)
      obtain ⟨b, off, r, rfl, hcell0, hr⟩ := HL.out.at (show m < L.length by rw [HN.out]; exact hlt)
      have hcell := below_cells hB _ _ hcell0
      have hK := HKL.out m (by rw [HN.out]; exact hlt)
      obtain ⟨y, Hy⟩ : ∃ y, Hid (L.getD m [] = y) := ⟨_, rfl⟩
      rw [Hy.out] at hr HS hK
      have HRr := Lib.hid (hr.below hB)
      generalize cnjL p L x m = R at *
      clear hcell0 hr
      go_wp2_with fail
      refine (i_conjugate _ _ _ p 0 y x _ (hp.below hB) hV hG HRr.out (HX.out.below hB) hK kx).mono ?_
      rintro e w5 ⟨u5, rfl, hI5, hB5⟩
      obtain ⟨a5, c5, rfl, _, _⟩ := hI5.form
      obtain ⟨v6, w6, hr6, hO6, hB6⟩ := step_rows hO hB.size hI5 rfl hB5 (by rw [HLn.out]; omega)
      have hB7 := (hB.trans (hB5.mono hB.size)).trans hB6
      clear hO hB hI5 hB5 hB6 hcell
      go_wp2_with (at_builtin; refine wp_of_run _ rfl _ _ _ rfl _ _ rfl rfl _ _ hr6 ?_)
      go_roundw
      case rel => exact ⟨m + 1, by omega, by go_num, by rw [HS.out]; exact hO6, hB7⟩
      case measure => simp [intOf]; omega
    · obtain rfl : m = N := by omega
      go_wp2_with fail
      go_ret
      exact ⟨_, rfl, hO, hB⟩
--== inner automorphisms
def okLL (c : Bool) (xs : List (List Int)) : List (List Int) := if c then xs else []
noncomputable def innL (p : Pres) (x : List Int) (m : Nat) : List (List Int) := (List.range m).map fun j => p.at 0 (p.inv 0 x) (p.at 0 (p.uv j) x)
theorem innL_succ (p : Pres) (x : List Int) (m : Nat) : innL p x (m + 1) = innL p x m ++ [p.at 0 (p.inv 0 x) (p.at 0 (p.uv m) x)] := by unfold innL; rw [List.range_succ, List.map_append]; rfl
theorem innL_len (p : Pres) (x : List Int) (m : Nat) : (innL p x m).length = m := by simp [innL]
theorem innL_eq (p : Pres) (x : List Int) : cnjL p (genL p p.n) x p.n = innL p x p.n := by
  unfold cnjL innL
  refine List.map_congr_left fun j hj => ?_
  rw [genL_get p (List.mem_range.1 hj)]
--== impl.InnerAutomorphism
set_option maxHeartbeats 2000000 in
theorem i_InnerAutomorphism (v1 v2 v3 : Value) (p : Pres) (vx : Value) (x : List Int) (w : World) (hp : RdP w v1 v2 v3 p) (hx : Rd w vx x) :
    Calls Try.prog 35 #[.agg #[v1, v2, v3], vx] w (RetL2c w (okLL (elsB p [x]) (innL p x p.n)) (cod1 (elsB p [x]))) := by
  have HP := Lib.hid hp
  obtain ⟨ao1, cap1, rfl, _, _⟩ := hp.1.form
  obtain ⟨ao2, cap2, rfl, _, _⟩ := hp.2.1.form
  obtain ⟨ao3, cap3, rfl, _, _⟩ := hp.2.2.form
  have g0 := below_alloc w (Obj.cells #[Value.slice ao1 p.orders.length cap1, Value.slice ao2 p.powers.length cap2, Value.slice ao3 p.conj.length cap3] 28)
  obtain ⟨ax, cx, rfl, _, _⟩ := hx.form
  have PT := Lib.hid (PtrP.boxed hp)
  have hl := Rd2.lit1 22 _ x (hx.below g0)
  have hsz : (w.alloc (Obj.cells #[Value.slice ao1 p.orders.length cap1, Value.slice ao2 p.powers.length cap2, Value.slice ao3 p.conj.length cap3] 28)).heap.size = w.heap.size + 1 := by simp
  rw [hsz] at hl
  have HL := Lib.hid hl
  have g1 := ball g0 (Obj.cells #[.slice ax x.length cx] 22)
  have PT1 := Lib.hid (PT.out.below (below_alloc _ (Obj.cells #[.slice ax x.length cx] 22)))
  have Hx := Lib.hid hx
  clear hp hl hsz hx
  by_cases hE : elsB p [x] = true
  case neg =>
    have hE' : elsB p [x] = false := by simpa using hE
    rw [hE']
    clear hE
    go_enter Try.func35, Try.ntmps35
    go_wp2_with fail
    refine (i_areElements _ _ p [x] _ PT1.out HL.out (by simp)).mono ?_
    rintro e w2 ⟨rfl, hb⟩
    have g2 := below_size g1 hb
    have PT2 := PT1.out.below hb
    rw [hE']
    clear hb hE'
    go_wp2_with fail
    go_ret2
    exact ⟨_, rfl, local_O2.nil _ _, g2⟩
  obtain ⟨hc, hall⟩ := elsB_true hE
  obtain ⟨hV, hG⟩ := conB_true hc
  have kx := tail_VI (hall x (by simp))
  have HV := Lib.hid hV
  have HG := Lib.hid hG
  have Kx := Lib.hid kx
  clear hc hall hV hG kx
  rw [hE]
  have hn6 := HV.out.n6
  go_enter Try.func35, Try.ntmps35
  go_wp2_with fail
  refine (i_areElements _ _ p [x] _ PT1.out HL.out (by simp)).mono ?_
  rintro e w2 ⟨rfl, hb⟩
  have g2 := below_size g1 hb
  have PT2 := PT1.out.below hb
  rw [hE]
  clear hb hE
  go_wp2_with fail
  refine (i_generators HV.out _ _ PT2).mono ?_
  rintro e w3 ⟨u3, rfl, hO3, hB3⟩
  have g3 := below_size g2 hB3
  have PT3 := PT2.below hB3
  have HR3 := Lib.hid hO3.rd
  obtain ⟨a3, q3, rfl, _, _⟩ := hO3.formN (genL_len p p.n)
  clear hO3 hB3 PT2
  have HC := i_conjugates HV.out HG.out _ _ _ _ x _ PT3 HR3.out (Hx.out.below g3) Kx.out (fun j hj => by rw [genL_len] at hj; rw [genL_get p hj]; exact VI.uv HV.out.valid (Nat.zero_le _) hj) (by rw [genL_len]; omega)
  rw [genL_len, innL_eq] at HC
  have HCh := Lib.hid HC
  clear HC PT3
  go_wp2_with fail
  refine HCh.out.mono ?_
  rintro e w4 ⟨u4, rfl, hO4, hB4⟩
  have g4 := below_size g3 hB4
  have hO5 := O2.grow hO4 g3.size
  clear hO4 hB4 HCh
  go_wp2_with fail
  go_ret2
  exact ⟨_, rfl, hO5, g4⟩
--== spec.InnerAutomorphism
set_option maxHeartbeats 4000000 in
theorem s_InnerAutomorphism (v1 v2 v3 : Value) (p : Pres) (vx : Value) (x : List Int) (w : World) (hp : RdP w v1 v2 v3 p) (hx : Rd w vx x) :
    Calls Try.prog 34 #[.agg #[v1, v2, v3], vx] w (RetL2c w (okLL (elsB p [x]) (innL p x p.n)) (cod1 (elsB p [x]))) := by
  have HP := Lib.hid hp
  obtain ⟨ao1, cap1, rfl, _, _⟩ := hp.1.form
  obtain ⟨ao2, cap2, rfl, _, _⟩ := hp.2.1.form
  obtain ⟨ao3, cap3, rfl, _, _⟩ := hp.2.2.form
  have g0 := below_alloc w (Obj.cells #[Value.slice ao1 p.orders.length cap1, Value.slice ao2 p.powers.length cap2, Value.slice ao3 p.conj.length cap3] 28)
  have Hx := Lib.hid hx
  have x0 := Bx.new w (Value.slice ao1 p.orders.length cap1) (Value.slice ao2 p.powers.length cap2) (Value.slice ao3 p.conj.length cap3)
  clear hp hx
  by_cases hE : elsB p [x] = true
  case neg =>
    have hE' : elsB p [x] = false := by simpa using hE
    rw [hE']
    clear hE x0
    go_enter Try.func34, Try.ntmps34
    go_wp2_with fail
    refine (s_IsElement _ _ _ p _ x _ (HP.out.below g0) (Hx.out.below g0)).mono ?_
    rintro e w2 ⟨rfl, hb⟩
    have g2 := below_size g0 hb
    obtain ⟨c1, f1⟩ := bcell hb
    have z1 : w.heap.size < w2.heap.size := by have := hb.size; simp at this; omega
    rw [hE']
    clear hb hE'
    go_wp2_with fail
    go_ret2
    exact ⟨_, rfl, local_O2.nil _ _, g2⟩
  obtain ⟨hc, hall⟩ := elsB_true hE
  obtain ⟨hV, hG⟩ := conB_true hc
  have kx := tail_VI (hall x (by simp))
  have HV := Lib.hid hV
  have HG := Lib.hid hG
  have Kx := Lib.hid kx
  clear hc hall hV hG kx
  have hn6 := HV.out.n6
  rw [hE]
  have X0 := Lib.hid x0
  clear x0
  go_enter Try.func34, Try.ntmps34
  go_wp2_with fail
  refine (s_IsElement _ _ _ p _ x _ (HP.out.below g0) (Hx.out.below g0)).mono ?_
  rintro e w2 ⟨rfl, hb⟩
  have g2 := below_size g0 hb
  have x2 := X0.out.below hb (by simp)
  rw [hE]
  clear hb hE
  go_wp2_with fail
  have m0 := Lib.hid x2.c0
  have m1 := Lib.hid x2.c1
  have m2 := Lib.hid x2.c2
  have l2 := x2.lt
  have hO0 : O2 (w2.alloc (Obj.cells #[] 22)) (win w2.heap.size (w2.alloc (Obj.cells #[] 22)).heap.size) (.slice (some ⟨w2.heap.size, 0, none⟩) 0 0) (innL p x 0) := local_O2.mono (ON.empty w2) (fun k hk h => ⟨Nat.le_of_eq (Eq.symm h), hk⟩)
  have hB0 := below_alloc w2 (Obj.cells #[] 22)
  clear x2
  go_loopw [6, 7] (fun u t wr => ∃ m : Nat, m ≤ p.n ∧ t = .int .i64 m ∧ O2 wr (win w2.heap.size wr.heap.size) u (innL p x m) ∧ Below w2.heap.size w2 wr) (fun _ t _ => p.n - (intOf t).toNat)
  case atStart => exact ⟨0, Nat.zero_le _, rfl, hO0, hB0⟩
  case round =>
    clear hO0 hB0
    obtain ⟨m, hm, rfl, hO, hB⟩ := hrel
    obtain ⟨a6, c6, rfl, _, _⟩ := hO.formN (innL_len p x m)
    have HLn := Lib.hid (innL_len p x m)
    have n0 := below_cells hB _ _ m0.out
    by_cases hlt : m < p.n
    · have HS := Lib.hid (innL_succ p x m)
      have hmo : m < p.orders.length := hlt
      have VU := VI.uv HV.out.valid (Nat.zero_le _) hlt
      have KEEP : Hid (∀ wx, Below w2.heap.size w2 wx → wx.cell? ⟨w.heap.size, 0, none⟩ = some (Value.slice ao1 p.orders.length cap1) ∧ wx.cell? ⟨w.heap.size, 1, none⟩ = some (Value.slice ao2 p.powers.length cap2) ∧ wx.cell? ⟨w.heap.size, 2, none⟩ = some (Value.slice ao3 p.conj.length cap3)) := fun wx hb =>
        ⟨below_cells hb _ _ m0.out, below_cells hb _ _ m1.out, below_cells hb _ _ m2.out⟩
      have HU : Hid (∀ wx, Calls Try.prog 80 #[.int .i64 p.orders.length, .int .i64 m] wx (RetInts wx (p.uv m))) := fun wx => s_l07Unit p.n m wx hlt (by omega)
      have HCJ : Hid (∀ wx u, Below w2.heap.size w2 wx → Rd wx u (p.uv m) → Calls Try.prog 71 #[.agg #[Value.slice ao1 p.orders.length cap1, Value.slice ao2 p.powers.length cap2, Value.slice ao3 p.conj.length cap3], u, vx] wx (RetInts wx (p.at 0 (p.inv 0 x) (p.at 0 (p.uv m) x)))) := fun wx u hb hu =>
        s_l10Conj HV.out HG.out (p.uv m) x _ _ _ _ _ wx (HP.out.below (below_size g2 hb)) hu (Hx.out.below (below_size g2 hb)) VU Kx.out
      have HO := Lib.hid hO
      have HBB := Lib.hid hB
      have hml : (innL p x m).length ≤ 1000000000 := by rw [HLn.out]; omega
      generalize innL p x m = R at *
      go_wp2_with fail
      clear hO n0
      go_region_held3 (fun wx => wx.cell? ⟨w.heap.size, 0, none⟩ = some (Value.slice ao1 p.orders.length cap1) ∧ wx.cell? ⟨w.heap.size, 1, none⟩ = some (Value.slice ao2 p.powers.length cap2) ∧ wx.cell? ⟨w.heap.size, 2, none⟩ = some (Value.slice ao3 p.conj.length cap3))
        (first
          | exact KEEP.out _ (below_size HBB.out (Below.refl _ _).drew)
          | exact KEEP.out _ hK7
          | exact KEEP.out _ (below_size HBB.out hK6)
          | exact KEEP.out _ (ball (below_size HBB.out hK6) _)
          | exact KEEP.out _ (below_size HBB.out hK5))
        (first
          | ((go_at_call 80); (with_reducible refine (HU.out _).mono ?_); (rintro e w5 ⟨v5, rfl, hI5, hB5⟩); (have hK5 : Below wr.heap.size wr w5 := below_size (Below.refl _ _).drew hB5))
          | ((go_at_call 71); (with_reducible refine (HCJ.out _ _ (below_size HBB.out hK5) hI5.rd).mono ?_); (rintro e w6 ⟨v6, rfl, hI6, hB6⟩); (have hK6 : Below wr.heap.size wr w6 := below_size hK5 hB6); (obtain ⟨a7, c7, rfl, _, _⟩ := hI6.form))
          | (obtain ⟨v7, w7, hr7, hO7, hB7⟩ := step_rows HO.out HBB.out.size (hI6.mono hK5.size) rfl hK6 hml
             have hK7 : Below w2.heap.size w2 w7 := (below_size HBB.out hK6).trans hB7
             refine step_of_run rfl (.tmp 20) (.tmp 29) 23 rfl _ _ (by simp [Act.eval, Act.put]) (by simp [Act.eval, Act.put]) _ _ hr7 ?_))
      clear hI5 hI6 hB5 hB6 hK5 hK6 hr7 hB7 KEEP HU HCJ HO
      go_wp2_with fail
      go_roundw
      case rel => exact ⟨m + 1, by omega, by go_num, by rw [HS.out]; exact hO7, hK7⟩
      case measure => simp [intOf]; omega
    · obtain rfl : m = p.n := by omega
      have hno : ¬ p.n < p.orders.length := by unfold Pres.n; omega
      have g3 := below_size g2 hB
      have hO5 := O2.grow hO g2.size
      clear hO hB
      go_wp2_with fail
      go_ret2
      exact ⟨_, rfl, hO5, g3⟩
--== lengths
theorem cat_len_n (n : Nat) : ∀ l : List (List Int), (∀ r ∈ l, r.length = n) → (cat l).length = n * l.length := by
  intro l
  induction l with
  | nil => intro _; simp [cat]
  | cons a l ih =>
    intro h
    have h1 := ih fun r hr => h r (by simp [hr])
    have h2 := h a (by simp)
    unfold cat at *
    simp only [List.flatten_cons, List.length_append, List.length_cons, h1, h2, Nat.mul_succ]
    omega
theorem len_InnerAutomorphism (p : Pres) (x : List Int) : size2 (okLL (elsB p [x]) (innL p x p.n)) ≤ 1000000000 := by
  by_cases hE : elsB p [x] = true
  · obtain ⟨hc, hall⟩ := elsB_true hE
    obtain ⟨hV, hG⟩ := conB_true hc
    have kx := tail_VI (hall x (by simp))
    have hn6 := hV.n6
    rw [hE]
    show size2 (innL p x p.n) ≤ _
    unfold size2
    rw [cat_len_n p.n, innL_len]
    · have : p.n * p.n ≤ 6 * 6 := Nat.mul_le_mul hn6 hn6
      omega
    · intro r hr
      unfold innL at hr
      obtain ⟨j, hj, rfl⟩ := List.mem_map.1 hr
      have hj' := List.mem_range.1 hj
      exact (hG.at (hG.inv kx) (hG.at (VI.uv hV.valid (Nat.zero_le _) hj') kx)).len
  · have hE' : elsB p [x] = false := by simpa using hE
    rw [hE']; simp [okLL, size2, cat]
end Go.Proofs.Ytanjeebdondpaaa
