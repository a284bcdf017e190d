/-
  Critical pairs: all of them, by the reference. (Printed by mkcre.py.)
-/
import Derived.Test.YthnpndheaailjaaCrd
namespace Go.Proofs.Ythnpndheaailjaa
set_option linter.unusedVariables false
set_option linter.unusedSimpArgs false
set_option maxRecDepth 100000
open Go.RowKit

--== pairs
theorem CO.new (w0 : World) (p : Pres) : CO w0.heap.size w0 (.slice (some ⟨w0.heap.size, 0, none⟩) 0 0) p [] (w0.alloc (Obj.cells #[] 127)) :=
  ⟨_, OT.new w0, fun k hk => by obtain rfl : k = w0.heap.size := hk; exact ⟨Nat.le_refl _, by simp⟩, below_alloc _ _⟩
theorem CO.form {B : Nat} {w0 w : World} {v : Value} {p : Pres} {L : List Itm} (h : CO B w0 v p L w) : ∃ a c, v = .slice a L.length c := by
  obtain ⟨a, c, e, _⟩ := h.rt.form; exact ⟨a, c, e⟩
/-- a pair that the reference has made is appended -/
theorem CO.pair {B m : Nat} {w0 w1 w w5 : World} {v vw u3 u4 : Value} {p : Pres} {L : List Itm} {it : Itm} (h : CO B w0 v p L w1) (hB0 : w0.heap.size ≤ B) (hB1 : B ≤ w1.heap.size) (hb : Below w1.heap.size w1 w) (hx : Ints w w1.heap.size vw it.1)
    (hm1 : w.heap.size ≤ m) (h3 : O1 w5 (win w.heap.size m) u3 (stepL p it.1 0)) (h4 : O1 w5 (win m w5.heap.size) u4 (stepL p it.1 it.2)) (hb5 : Below w.heap.size w w5)
    (o1 : vw.oneCell' = true) (o2 : u3.oneCell' = true) (o3 : u4.oneCell' = true) (hn : L.length ≤ 1000000) :
    ∃ v' w6, (Builtin.append_ #[76, 76] 76 #[v, .slice (some ⟨w5.heap.size, 0, none⟩) 1 1]).run Try.prog (w5.alloc (.cells #[vw, u3, u4] 127)) = .ok v' w6 ∧ CO B w0 v' p (L ++ [it]) w6 := by
  have z := hb.size
  have z5 := hb5.size
  obtain ⟨v', w6, hr, hO, _⟩ := h.grow (w4 := w5) (below_size hb hb5) hB0 hB1 (local_O1.below hx.o1 hb5) h3 h4
    (fun k hk => hk.1) (fun k hk => by have := hk.1; omega) (fun k hk => by have := hk.1; omega) (fun k hk hh => by have := hk.2; have := hh.1; omega) (fun k hk hh => by have := hk.2; have := hh.1; omega) (fun k hk hh => by have := hk.2; have := hh.1; omega) o1 o2 o3 hn
  exact ⟨v', w6, hr, hO⟩
theorem Ints.litC (w : World) (a : Int) : Ints (w.alloc (.cells #[.int .i64 a] 2)) w.heap.size (.slice (some ⟨w.heap.size, 0, none⟩) 1 1) [a] :=
  ⟨rfl, .inr ⟨w.heap.size, 1, _, rfl, Nat.le_refl _, heap_alloc_new w _, by simp, by simp [maxLen], rfl, rfl⟩⟩
theorem app3 {α : Type} (a b c d : List α) : a ++ (b ++ (c ++ d)) = (a ++ (b ++ c)) ++ d := by simp
theorem app2 {α : Type} (a b d : List α) : a ++ (b ++ d) = (a ++ b) ++ d := by simp
--== spec.l09Pairs
set_option maxHeartbeats 3000000 in
theorem s_l09Pairs {p : Pres} (hV : ValidP p) (v1 v2 v3 : Value) (w : World) (hp : RdP w v1 v2 v3 p) :
    Calls Try.prog 122 #[.agg #[v1, v2, v3]] w fun e w' => ∃ v, e = .returned v ∧ CO w.heap.size w v p (cpL p) w' := by
  have hn6 := hV.n6
  have HP := Lib.hid hp
  obtain ⟨p1, q1, rfl, _, _⟩ := hp.1.formN (n := p.n) rfl
  obtain ⟨p2, q2, rfl, _, _⟩ := hp.2.1.formN hV.pl
  obtain ⟨p3, q3, rfl, _, _⟩ := hp.2.2.formN hV.cl
  have HVd := Lib.hid hV
  have HSZ : Hid ((w.alloc (Obj.cells #[Value.slice p1 p.n q1, Value.slice p2 p.n q2, Value.slice p3 p.n q3] 32)).heap.size = w.heap.size + 1) := by show _ = _; simp
  have G0 := Lib.hid (below_alloc w (Obj.cells #[Value.slice p1 p.n q1, Value.slice p2 p.n q2, Value.slice p3 p.n q3] 32))
  have X0 := Lib.hid (Bx.new w (Value.slice p1 p.n q1) (Value.slice p2 p.n q2) (Value.slice p3 p.n q3))
  have HC0 : Hid (CO (w.alloc (Obj.cells #[Value.slice p1 p.n q1, Value.slice p2 p.n q2, Value.slice p3 p.n q3] 32)).heap.size (w.alloc (Obj.cells #[Value.slice p1 p.n q1, Value.slice p2 p.n q2, Value.slice p3 p.n q3] 32)) (.slice (some ⟨w.heap.size + 1, 0, none⟩) 0 0) p [] ((w.alloc (Obj.cells #[Value.slice p1 p.n q1, Value.slice p2 p.n q2, Value.slice p3 p.n q3] 32)).alloc (Obj.cells #[] 127))) := by
    have h := CO.new (w.alloc (Obj.cells #[Value.slice p1 p.n q1, Value.slice p2 p.n q2, Value.slice p3 p.n q3] 32)) p
    have e : (w.alloc (Obj.cells #[Value.slice p1 p.n q1, Value.slice p2 p.n q2, Value.slice p3 p.n q3] 32)).heap.size = w.heap.size + 1 := by simp
    show CO _ _ _ _ _ _
    rw [show w.heap.size + 1 = (w.alloc (Obj.cells #[Value.slice p1 p.n q1, Value.slice p2 p.n q2, Value.slice p3 p.n q3] 32)).heap.size from e.symm]
    exact h
  clear hp hV
  go_enter Try.func122, Try.ntmps122
  go_wp2_with fail
  generalize w.alloc (Obj.cells #[Value.slice p1 p.n q1, Value.slice p2 p.n q2, Value.slice p3 p.n q3] 32) = w0 at *
  have KEEP : Hid (∀ wx, Below w0.heap.size w0 wx → wx.cell? ⟨w.heap.size, 0, none⟩ = some (Value.slice p1 p.n q1) ∧ wx.cell? ⟨w.heap.size, 1, none⟩ = some (Value.slice p2 p.n q2) ∧ wx.cell? ⟨w.heap.size, 2, none⟩ = some (Value.slice p3 p.n q3)) := fun wx hb =>
    ⟨below_cells hb _ _ X0.out.c0, below_cells hb _ _ X0.out.c1, below_cells hb _ _ X0.out.c2⟩
  have HPR : Hid (∀ (it : Itm) (wx : World) (vx : Value), CG p it → Below w0.heap.size w0 wx → Rd wx vx it.1 → Calls Try.prog 158 #[.agg #[Value.slice p1 p.n q1, Value.slice p2 p.n q2, Value.slice p3 p.n q3], vx, .int .i64 it.2] wx (RetPr wx p it vx)) := fun it wx vx hg hb hx =>
    s_l09Pair HVd.out it hg _ _ _ _ wx (HP.out.below (below_size G0.out hb)) hx
  go_loopw [4, 5] (fun u t wr => ∃ i : Nat, i ≤ p.n ∧ t = .int .i64 i ∧ CO w0.heap.size w0 u p (wA p.n i) wr) (fun _ t _ => p.n - (intOf t).toNat)
  case atStart => exact ⟨0, Nat.zero_le _, rfl, HC0.out⟩
  case round =>
    clear HC0
    obtain ⟨i, hi, rfl, hC⟩ := hrel
    have HC := Lib.hid hC
    clear hC
    by_cases hlt : i < p.n
    · have HS := Lib.hid (wA_succ p.n i)
      have hltI : (i : Int) < (p.n : Int) := by omega
      go_wp2_with fail
      go_loopw [4, 6] (fun u t wr => ∃ j : Nat, i + 1 ≤ j ∧ j ≤ p.n ∧ t = .int .i64 j ∧ CO w0.heap.size w0 u p (wA p.n i ++ wB p.n i (j - (i + 1))) wr) (fun _ t _ => p.n - (intOf t).toNat)
      case atStart => exact ⟨i + 1, Nat.le_refl _, by omega, by go_num, by rw [Nat.sub_self, show wB p.n i 0 = [] from rfl, List.append_nil]; exact HC.out⟩
      case round =>
        clear HC
        obtain ⟨j, hij, hj, rfl, hC⟩ := hrel
        have HC := Lib.hid hC
        clear hC
        by_cases hltj : j < p.n
        · have HSj : Hid (wB p.n i (j + 1 - (i + 1)) = wB p.n i (j - (i + 1)) ++ wC i j (p.n - (j + 1))) := by
            show _ = _
            rw [show j + 1 - (i + 1) = (j - (i + 1)) + 1 by omega, wB_succ, show i + 1 + (j - (i + 1)) = j by omega]
          have hltJ : (j : Int) < (p.n : Int) := by omega
          go_wp2_with fail
          go_loopw [4, 7] (fun u t wr => ∃ k : Nat, j + 1 ≤ k ∧ k ≤ p.n ∧ t = .int .i64 k ∧ CO w0.heap.size w0 u p (wA p.n i ++ (wB p.n i (j - (i + 1)) ++ wC i j (k - (j + 1)))) wr) (fun _ t _ => p.n - (intOf t).toNat)
          case atStart => exact ⟨j + 1, Nat.le_refl _, by omega, by go_num, by rw [Nat.sub_self, show wC i j 0 = [] from rfl, List.append_nil]; exact HC.out⟩
          case round =>
            clear HC
            obtain ⟨k, hjk, hk, rfl, hC⟩ := hrel
            have HC := Lib.hid hC
            by_cases hltk : k < p.n
            · have HSk : Hid (wA p.n i ++ (wB p.n i (j - (i + 1)) ++ wC i j (k + 1 - (j + 1))) = (wA p.n i ++ (wB p.n i (j - (i + 1)) ++ wC i j (k - (j + 1)))) ++ [itC i j k]) := by
                show _ = _
                rw [show k + 1 - (j + 1) = (k - (j + 1)) + 1 by omega, wC_succ, show j + 1 + (k - (j + 1)) = k by omega, app3]
              have HLN : Hid ((wA p.n i ++ (wB p.n i (j - (i + 1)) ++ wC i j (k - (j + 1)))).length ≤ 1000000) := by
                show _ ≤ _
                simp only [List.length_append, wC_len]
                have := wA_len (n := p.n) (m := i) hn6 (by omega)
                have := wB_len (n := p.n) (i := i) (m := j - (i + 1)) hn6 (by omega)
                omega
              obtain ⟨L, hL⟩ : ∃ L, wA p.n i ++ (wB p.n i (j - (i + 1)) ++ wC i j (k - (j + 1))) = L := ⟨_, rfl⟩
              rw [hL] at hC HC HSk HLN
              obtain ⟨aL, cL, rfl⟩ := hC.form
              have hBr := hC.below
              obtain ⟨m0, m1, m2⟩ := KEEP.out _ hBr
              have hltK : (k : Int) < (p.n : Int) := by omega
              have HI := Lib.hid (Ints.lit3 wr ((k : Int) + 1) ((j : Int) + 1) ((i : Int) + 1))
              have HBr := Lib.hid hBr
              have zz := hBr.size
              have HCT : Hid (Calls Try.prog 158 #[.agg #[Value.slice p1 p.n q1, Value.slice p2 p.n q2, Value.slice p3 p.n q3], .slice (some ⟨wr.heap.size, 0, none⟩) 3 3, .int .i64 1] (wr.alloc (.cells #[.int .i64 ((k : Int) + 1), .int .i64 ((j : Int) + 1), .int .i64 ((i : Int) + 1)] 2)) (RetPr (wr.alloc (.cells #[.int .i64 ((k : Int) + 1), .int .i64 ((j : Int) + 1), .int .i64 ((i : Int) + 1)] 2)) p (itC i j k) (.slice (some ⟨wr.heap.size, 0, none⟩) 3 3))) :=
                HPR.out (itC i j k) _ _ (CG.c (by omega) (by omega) hltk) (ball hBr _) HI.out.rd
              clear hL hC hBr
              go_wp2_with fail
              refine HCT.out.mono ?_
              rintro e w5 ⟨u3, u4, m5, rfl, hm1, hm2, hO3, hO4, hB5⟩
              obtain ⟨a3, c3, rfl, _, _⟩ := hO3.rd.form
              obtain ⟨a4, c4, rfl, _, _⟩ := hO4.rd.form
              obtain ⟨v6, w6, hr6, hC6⟩ := CO.pair (it := itC i j k) HC.out (Nat.le_refl _) zz (below_alloc wr _) HI.out hm1 hO3 hO4 hB5 rfl rfl rfl HLN.out
              have HC6 := Lib.hid hC6
              clear hO3 hO4 hB5 hm1 hm2 hC6 m0 m1 m2
              go_wp2_with (at_builtin; refine wp_of_run _ rfl _ _ _ rfl _ _ rfl rfl _ _ hr6 ?_)
              go_roundw
              case rel => exact ⟨k + 1, by omega, by omega, by go_num, by rw [HSk.out]; exact HC6.out⟩
              case measure => (simp [intOf]; try omega)
            · obtain rfl : k = p.n := by omega
              clear hC
              go_wp2_with fail
              go_roundw
              case rel => exact ⟨j + 1, by omega, by omega, by go_num, by rw [HSj.out]; exact HC.out⟩
              case measure => (simp [intOf]; try omega)
        · obtain rfl : j = p.n := by omega
          go_wp2_with fail
          go_roundw
          case rel => exact ⟨i + 1, by omega, by go_num, by rw [HS.out]; exact HC.out⟩
          case measure => (simp [intOf]; try omega)
    · obtain rfl : i = p.n := by omega
      go_wp2_with fail
      go_loopw [4, 8] (fun u t wr => ∃ i : Nat, i ≤ p.n ∧ t = .int .i64 i ∧ CO w0.heap.size w0 u p (wA p.n p.n ++ w2A p i) wr) (fun _ t _ => p.n - (intOf t).toNat)
      case atStart => exact ⟨0, Nat.zero_le _, rfl, by rw [show w2A p 0 = [] from rfl, List.append_nil]; exact HC.out⟩
      case round =>
        clear HC
        obtain ⟨i, hi, rfl, hC⟩ := hrel
        have HC := Lib.hid hC
        clear hC
        by_cases hlt : i < p.n
        · have HS := Lib.hid (w2A_succ p i)
          have hltI : (i : Int) < (p.n : Int) := by omega
          go_wp2_with fail
          go_loopw [4, 9] (fun u t wr => ∃ j : Nat, i + 1 ≤ j ∧ j ≤ p.n ∧ t = .int .i64 j ∧ CO w0.heap.size w0 u p (wA p.n p.n ++ (w2A p i ++ w2 p i (j - (i + 1)))) wr) (fun _ t _ => p.n - (intOf t).toNat)
          case atStart => exact ⟨i + 1, Nat.le_refl _, by omega, by go_num, by rw [Nat.sub_self, show w2 p i 0 = [] from rfl, List.append_nil]; exact HC.out⟩
          case round =>
            clear HC
            obtain ⟨j, hij, hj, rfl, hC⟩ := hrel
            have HC := Lib.hid hC
            by_cases hltj : j < p.n
            · have HSj : Hid (wA p.n p.n ++ (w2A p i ++ w2 p i (j + 1 - (i + 1))) = (wA p.n p.n ++ (w2A p i ++ w2 p i (j - (i + 1)))) ++ [it2 p i j]) := by
                show _ = _
                rw [show j + 1 - (i + 1) = (j - (i + 1)) + 1 by omega, w2_succ, show i + 1 + (j - (i + 1)) = j by omega, app3]
              have HLN : Hid ((wA p.n p.n ++ (w2A p i ++ w2 p i (j - (i + 1)))).length ≤ 1000000) := by
                show _ ≤ _
                simp only [List.length_append, w2_len]
                have := wA_len (n := p.n) (m := p.n) hn6 hn6
                have := w2A_len (p := p) (m := p.n) hn6 hn6
                have := w2A_len (p := p) (m := i) hn6 (by omega)
                omega
              obtain ⟨L, hL⟩ : ∃ L, wA p.n p.n ++ (w2A p i ++ w2 p i (j - (i + 1))) = L := ⟨_, rfl⟩
              rw [hL] at hC HC HSj HLN
              obtain ⟨aL, cL, rfl⟩ := hC.form
              have hBr := hC.below
              have HBr := Lib.hid hBr
              have zz := hBr.size
              have hltJ : (j : Int) < (p.n : Int) := by omega
              have r7 := HVd.out.rk j (by omega)
              obtain ⟨m, hm⟩ : ∃ m : Nat, p.r j = (m : Int) := ⟨(p.r j).toNat, by omega⟩
              rw [hm] at r7
              obtain ⟨bo, oo, heo, hco⟩ := (HP.out.below G0.out).1.at (j := j) (by show j < p.n; omega)
              obtain rfl : p1 = some ⟨bo, oo, none⟩ := by simpa using heo
              have hco' : w0.cell? ⟨bo, oo + j, none⟩ = some (.int .i64 m) := by rw [hco, ← hm]; rfl
              have HCO := Lib.hid hco'
              have KP : Hid (∀ wx, Below w0.heap.size w0 wx → wx.cell? ⟨w.heap.size, 0, none⟩ = some (Value.slice (some ⟨bo, oo, none⟩) p.n q1) ∧ wx.cell? ⟨w.heap.size, 1, none⟩ = some (Value.slice p2 p.n q2) ∧ wx.cell? ⟨w.heap.size, 2, none⟩ = some (Value.slice p3 p.n q3) ∧ wx.cell? ⟨bo, oo + j, none⟩ = some (.int .i64 m)) := fun wx hb =>
                ⟨(KEEP.out wx hb).1, (KEEP.out wx hb).2.1, (KEEP.out wx hb).2.2, below_cells hb _ _ HCO.out⟩
              obtain ⟨it, hit⟩ : ∃ it, it2 p i j = it := ⟨_, rfl⟩
              have HG : Hid (CG p it) := hit ▸ CG.two HVd.out (by omega) hltj
              have HW : Hid (it.1 = List.replicate m ((j : Int) + 1) ++ [(i : Int) + 1]) := by show _ = _; rw [← hit]; unfold it2; rw [hm]; rfl
              have HT2 : Hid ((it.2 : Int) = (m : Int) - 1) := by show _ = _; rw [← hit]; unfold it2; rw [hm]; simp only [Int.toNat_natCast]; omega
              rw [hit] at HSj
              have HPQ : Hid (∀ (wx : World) (vx : Value), Below w0.heap.size w0 wx → Rd wx vx it.1 → Calls Try.prog 158 #[.agg #[Value.slice (some ⟨bo, oo, none⟩) p.n q1, Value.slice p2 p.n q2, Value.slice p3 p.n q3], vx, .int .i64 ((m : Int) - 1)] wx (RetPr wx p it vx)) := fun wx vx hb hx => by
                have h := HPR.out it wx vx HG.out hb hx
                rwa [HT2.out] at h
              have W1 : IntKind.i64.wrap ((j : Int) + 1) = (j : Int) + 1 := IntWalk.i64_in _ (by omega)
              have W2 : IntKind.i64.wrap ((i : Int) + 1) = (i : Int) + 1 := IntWalk.i64_in _ (by omega)
              have W3 : IntKind.i64.wrap ((m : Int) - 1) = (m : Int) - 1 := IntWalk.i64_in _ (by omega)
              clear hL hC hBr hm hco hco' heo hit
              go_wp2_with fail
              go_region_held3 (fun wx => wx.cell? ⟨w.heap.size, 0, none⟩ = some (Value.slice (some ⟨bo, oo, none⟩) p.n q1) ∧ wx.cell? ⟨w.heap.size, 1, none⟩ = some (Value.slice p2 p.n q2) ∧ wx.cell? ⟨w.heap.size, 2, none⟩ = some (Value.slice p3 p.n q3) ∧ wx.cell? ⟨bo, oo + j, none⟩ = some (.int .i64 m))
                (first
                  | exact KP.out _ (below_size HBr.out (Below.refl _ _).drew)
                  | exact KP.out _ hC8.below
                  | exact KP.out _ (below_size HBr.out hK7)
                  | exact KP.out _ (ball (below_size HBr.out hK7) _)
                  | exact KP.out _ (below_size HBr.out hK6)
                  | exact KP.out _ (below_size HBr.out hK5)
                  | exact KP.out _ (ball (below_size HBr.out hK5) _)
                  | exact KP.out _ (below_size HBr.out (below_alloc _ _).drew)
                  | exact KP.out _ (below_size HBr.out (below_alloc _ _)))
                (first
                  | ((go_at_call 159); (with_reducible refine (s_l09Same ((j : Int) + 1) m _ (by omega)).mono ?_); (rintro e w5 ⟨u5, rfl, hI5, hB5⟩); (have hK5 : Below wr.heap.size wr w5 := (by first | exact below_size (Below.refl _ _).drew hB5 | exact below_size (below_alloc wr _).drew hB5)); (obtain ⟨a5, c5, rfl, _, _⟩ := hI5.rd.formN (n := m) (by simp)))
                  | ((go_at_call 158); (with_reducible refine (HPQ.out _ _ (below_size HBr.out hK6) (by rw [HW.out]; exact hI6.rd)).mono ?_); (rintro e w7 ⟨u3, u4, m7, rfl, hm1, hm2, hO3, hO4, hB7⟩); (have hK7 : Below wr.heap.size wr w7 := below_size hK6 hB7); (obtain ⟨a3, c3, rfl, _, _⟩ := hO3.rd.form); (obtain ⟨a4, c4, rfl, _, _⟩ := hO4.rd.form))
                  | (obtain ⟨v6, w6, hr6, hI6, hB6⟩ := run_appI (w5.alloc (.cells #[.int .i64 ((i : Int) + 1)] 2)) 22 wr.heap.size _ _ ((hI5.mono (B' := wr.heap.size) (Nat.le_refl _)).below (below_alloc w5 _)) _ _ (Rd.lit1 w5 ((i : Int) + 1)) (by simp; omega) (by simp) (by have := hK5.size; simp; omega)
                     have hK6 : Below wr.heap.size wr w6 := (ball hK5 _).trans hB6
                     obtain ⟨a6, c6, rfl, _, _⟩ := hI6.rd.formN (n := m + 1) (by first | (simp; done) | (simp; omega))
                     refine step_of_run rfl (.tmp 69) (.tmp 72) 22 rfl _ _ (by simp [Act.eval, Act.put]) (by simp [Act.eval, Act.put]) _ _ hr6 ?_)
                  | (obtain ⟨v6, w6, hr6, hI6, hB6⟩ := run_appI w5 22 wr.heap.size _ _ (hI5.mono (B' := wr.heap.size) (by simp)) (.slice (some ⟨wr.heap.size, 0, none⟩) 1 1) _ ((Rd.lit1 wr ((i : Int) + 1)).below (below_size (Below.refl _ _).drew hB5)) (by simp; omega) (by simp) hK5.size
                     have hK6 : Below wr.heap.size wr w6 := hK5.trans hB6
                     obtain ⟨a6, c6, rfl, _, _⟩ := hI6.rd.formN (n := m + 1) (by first | (simp; done) | (simp; omega))
                     refine step_of_run rfl (.tmp 69) (.tmp 72) 22 rfl _ _ (by simp [Act.eval, Act.put]) (by simp [Act.eval, Act.put]) _ _ hr6 ?_)
                  | (obtain ⟨v8, w8, hr8, hC8⟩ := CO.pair (it := it) HC.out (Nat.le_refl _) zz hK6 (by rw [HW.out]; exact hI6) hm1 hO3 hO4 hB7 rfl rfl rfl HLN.out
                     refine step_of_run rfl (.tmp 60) (.tmp 81) 76 rfl _ _ (by simp [Act.eval, Act.put]) (by simp [Act.eval, Act.put]) _ _ hr8 ?_))
              all_goals
                have HC8 := Lib.hid hC8
                clear hI5 hB5 hK5 hI6 hB6 hK6 hO3 hO4 hB7 hK7 hm1 hm2 hr6 hr8 hC8 KP HPQ
                go_wp2_with fail
                go_roundw
                case rel => exact ⟨j + 1, by omega, by omega, by go_num, by rw [HSj.out]; exact HC8.out⟩
                case measure => (simp [intOf]; try omega)
            · obtain rfl : j = p.n := by omega
              clear hC
              go_wp2_with fail
              go_roundw
              case rel => exact ⟨i + 1, by omega, by go_num, by rw [HS.out]; exact HC.out⟩
              case measure => (simp [intOf]; try omega)
        · obtain rfl : i = p.n := by omega
          go_wp2_with fail
          go_loopw [4, 10] (fun u t wr => ∃ i : Nat, i ≤ p.n ∧ t = .int .i64 i ∧ CO w0.heap.size w0 u p ((wA p.n p.n ++ w2A p p.n) ++ w3A p i) wr) (fun _ t _ => p.n - (intOf t).toNat)
          case atStart => exact ⟨0, Nat.zero_le _, rfl, by rw [show w3A p 0 = [] from rfl, List.append_nil]; exact HC.out⟩
          case round =>
            clear HC
            obtain ⟨i, hi, rfl, hC⟩ := hrel
            have HC := Lib.hid hC
            clear hC
            by_cases hlt : i < p.n
            · have HS := Lib.hid (w3A_succ p i)
              have hltI : (i : Int) < (p.n : Int) := by omega
              go_wp2_with fail
              go_loopw [4, 11] (fun u t wr => ∃ j : Nat, i + 1 ≤ j ∧ j ≤ p.n ∧ t = .int .i64 j ∧ CO w0.heap.size w0 u p ((wA p.n p.n ++ w2A p p.n) ++ (w3A p i ++ w3 p i (j - (i + 1)))) wr) (fun _ t _ => p.n - (intOf t).toNat)
              case atStart => exact ⟨i + 1, Nat.le_refl _, by omega, by go_num, by rw [Nat.sub_self, show w3 p i 0 = [] from rfl, List.append_nil]; exact HC.out⟩
              case round =>
                clear HC
                obtain ⟨j, hij, hj, rfl, hC⟩ := hrel
                have HC := Lib.hid hC
                by_cases hltj : j < p.n
                · have HSj : Hid ((wA p.n p.n ++ w2A p p.n) ++ (w3A p i ++ w3 p i (j + 1 - (i + 1))) = ((wA p.n p.n ++ w2A p p.n) ++ (w3A p i ++ w3 p i (j - (i + 1)))) ++ [it3 p i j]) := by
                    show _ = _
                    rw [show j + 1 - (i + 1) = (j - (i + 1)) + 1 by omega, w3_succ, show i + 1 + (j - (i + 1)) = j by omega, app3]
                  have HLN : Hid (((wA p.n p.n ++ w2A p p.n) ++ (w3A p i ++ w3 p i (j - (i + 1)))).length ≤ 1000000) := by
                    show _ ≤ _
                    simp only [List.length_append, w3_len]
                    have := wA_len (n := p.n) (m := p.n) hn6 hn6
                    have := w2A_len (p := p) (m := p.n) hn6 hn6
                    have := w3A_len (p := p) (m := i) hn6 (by omega)
                    omega
                  obtain ⟨L, hL⟩ : ∃ L, (wA p.n p.n ++ w2A p p.n) ++ (w3A p i ++ w3 p i (j - (i + 1))) = L := ⟨_, rfl⟩
                  rw [hL] at hC HC HSj HLN
                  obtain ⟨aL, cL, rfl⟩ := hC.form
                  have hBr := hC.below
                  have HBr := Lib.hid hBr
                  have zz := hBr.size
                  have hltJ : (j : Int) < (p.n : Int) := by omega
                  have r7 := HVd.out.rk i (by omega)
                  obtain ⟨m, hm⟩ : ∃ m : Nat, p.r i = (m : Int) := ⟨(p.r i).toNat, by omega⟩
                  rw [hm] at r7
                  obtain ⟨bo, oo, heo, hco⟩ := (HP.out.below G0.out).1.at (j := i) (by show i < p.n; omega)
                  obtain rfl : p1 = some ⟨bo, oo, none⟩ := by simpa using heo
                  have hco' : w0.cell? ⟨bo, oo + i, none⟩ = some (.int .i64 m) := by rw [hco, ← hm]; rfl
                  have HCO := Lib.hid hco'
                  have KP : Hid (∀ wx, Below w0.heap.size w0 wx → wx.cell? ⟨w.heap.size, 0, none⟩ = some (Value.slice (some ⟨bo, oo, none⟩) p.n q1) ∧ wx.cell? ⟨w.heap.size, 1, none⟩ = some (Value.slice p2 p.n q2) ∧ wx.cell? ⟨w.heap.size, 2, none⟩ = some (Value.slice p3 p.n q3) ∧ wx.cell? ⟨bo, oo + i, none⟩ = some (.int .i64 m)) := fun wx hb =>
                    ⟨(KEEP.out wx hb).1, (KEEP.out wx hb).2.1, (KEEP.out wx hb).2.2, below_cells hb _ _ HCO.out⟩
                  obtain ⟨it, hit⟩ : ∃ it, it3 p i j = it := ⟨_, rfl⟩
                  have HG : Hid (CG p it) := hit ▸ CG.three HVd.out (by omega) hltj
                  have HW : Hid (it.1 = ((j : Int) + 1) :: List.replicate m ((i : Int) + 1)) := by show _ = _; rw [← hit]; unfold it3; rw [hm]; rfl
                  have HT2 : Hid ((it.2 : Int) = 1) := by show _ = _; rw [← hit]; rfl
                  rw [hit] at HSj
                  have HPQ : Hid (∀ (wx : World) (vx : Value), Below w0.heap.size w0 wx → Rd wx vx it.1 → Calls Try.prog 158 #[.agg #[Value.slice (some ⟨bo, oo, none⟩) p.n q1, Value.slice p2 p.n q2, Value.slice p3 p.n q3], vx, .int .i64 1] wx (RetPr wx p it vx)) := fun wx vx hb hx => by
                    have h := HPR.out it wx vx HG.out hb hx
                    rwa [HT2.out] at h
                  have W1 : IntKind.i64.wrap ((j : Int) + 1) = (j : Int) + 1 := IntWalk.i64_in _ (by omega)
                  have W2 : IntKind.i64.wrap ((i : Int) + 1) = (i : Int) + 1 := IntWalk.i64_in _ (by omega)
                  have W3 : IntKind.i64.wrap ((m : Int) - 1) = (m : Int) - 1 := IntWalk.i64_in _ (by omega)
                  clear hL hC hBr hm hco hco' heo hit
                  go_wp2_with fail
                  go_region_held3 (fun wx => wx.cell? ⟨w.heap.size, 0, none⟩ = some (Value.slice (some ⟨bo, oo, none⟩) p.n q1) ∧ wx.cell? ⟨w.heap.size, 1, none⟩ = some (Value.slice p2 p.n q2) ∧ wx.cell? ⟨w.heap.size, 2, none⟩ = some (Value.slice p3 p.n q3) ∧ wx.cell? ⟨bo, oo + i, none⟩ = some (.int .i64 m))
                    (first
                      | exact KP.out _ (below_size HBr.out (Below.refl _ _).drew)
                      | exact KP.out _ hC8.below
                      | exact KP.out _ (below_size HBr.out hK7)
                      | exact KP.out _ (ball (below_size HBr.out hK7) _)
                      | exact KP.out _ (below_size HBr.out hK6)
                      | exact KP.out _ (below_size HBr.out hK5)
                      | exact KP.out _ (ball (below_size HBr.out hK5) _)
                      | exact KP.out _ (below_size HBr.out (below_alloc _ _).drew)
                      | exact KP.out _ (below_size HBr.out (below_alloc _ _)))
                    (first
                      | ((go_at_call 159); (with_reducible refine (s_l09Same ((i : Int) + 1) m _ (by omega)).mono ?_); (rintro e w5 ⟨u5, rfl, hI5, hB5⟩); (have hK5 : Below wr.heap.size wr w5 := (by first | exact below_size (Below.refl _ _).drew hB5 | exact below_size (below_alloc wr _).drew hB5)); (obtain ⟨a5, c5, rfl, _, _⟩ := hI5.rd.formN (n := m) (by simp)))
                      | ((go_at_call 158); (with_reducible refine (HPQ.out _ _ (below_size HBr.out hK6) (by rw [HW.out]; exact hI6.rd)).mono ?_); (rintro e w7 ⟨u3, u4, m7, rfl, hm1, hm2, hO3, hO4, hB7⟩); (have hK7 : Below wr.heap.size wr w7 := below_size hK6 hB7); (obtain ⟨a3, c3, rfl, _, _⟩ := hO3.rd.form); (obtain ⟨a4, c4, rfl, _, _⟩ := hO4.rd.form))
                      | (obtain ⟨v6, w6, hr6, hI6, hB6⟩ := run_appI (w5.alloc (.cells #[.int .i64 ((j : Int) + 1)] 2)) 22 wr.heap.size _ _ ((Ints.litC w5 ((j : Int) + 1)).mono (B' := wr.heap.size) hK5.size) _ _ (hI5.rd.below (below_alloc w5 _)) (by simp) (by simp; omega) (by have := hK5.size; simp; omega)
                         have hK6 : Below wr.heap.size wr w6 := (ball hK5 _).trans hB6
                         rw [List.singleton_append] at hI6
                         obtain ⟨a6, c6, rfl, _, _⟩ := hI6.rd.formN (n := m + 1) (by first | (simp; done) | (simp; omega))
                         refine step_of_run rfl (.tmp 99) (.tmp 107) 22 rfl _ _ (by simp [Act.eval, Act.put]) (by simp [Act.eval, Act.put]) _ _ hr6 ?_)
                      | (obtain ⟨v6, w6, hr6, hI6, hB6⟩ := run_appI w5 22 wr.heap.size (.slice (some ⟨wr.heap.size, 0, none⟩) 1 1) _ ((Ints.litC wr ((j : Int) + 1)).below (below_size (Below.refl _ _).drew hB5)) _ _ hI5.rd (by simp) (by simp; omega) hK5.size
                         have hK6 : Below wr.heap.size wr w6 := hK5.trans hB6
                         rw [List.singleton_append] at hI6
                         obtain ⟨a6, c6, rfl, _, _⟩ := hI6.rd.formN (n := m + 1) (by first | (simp; done) | (simp; omega))
                         refine step_of_run rfl (.tmp 99) (.tmp 107) 22 rfl _ _ (by simp [Act.eval, Act.put]) (by simp [Act.eval, Act.put]) _ _ hr6 ?_)
                      | (obtain ⟨v8, w8, hr8, hC8⟩ := CO.pair (it := it) HC.out (Nat.le_refl _) zz hK6 (by rw [HW.out]; exact hI6) hm1 hO3 hO4 hB7 rfl rfl rfl HLN.out
                         refine step_of_run rfl (.tmp 95) (.tmp 110) 76 rfl _ _ (by simp [Act.eval, Act.put]) (by simp [Act.eval, Act.put]) _ _ hr8 ?_))
                  all_goals
                    have HC8 := Lib.hid hC8
                    clear hI5 hB5 hK5 hI6 hB6 hK6 hO3 hO4 hB7 hK7 hm1 hm2 hr6 hr8 hC8 KP HPQ
                    go_wp2_with fail
                    go_roundw
                    case rel => exact ⟨j + 1, by omega, by omega, by go_num, by rw [HSj.out]; exact HC8.out⟩
                    case measure => (simp [intOf]; try omega)
                · obtain rfl : j = p.n := by omega
                  clear hC
                  go_wp2_with fail
                  go_roundw
                  case rel => exact ⟨i + 1, by omega, by go_num, by rw [HS.out]; exact HC.out⟩
                  case measure => (simp [intOf]; try omega)
            · obtain rfl : i = p.n := by omega
              go_wp2_with fail
              go_loopw [4, 12] (fun u t wr => ∃ i : Nat, i ≤ p.n ∧ t = .int .i64 i ∧ CO w0.heap.size w0 u p (((wA p.n p.n ++ w2A p p.n) ++ w3A p p.n) ++ w4 p i) wr) (fun _ t _ => p.n - (intOf t).toNat)
              case atStart => exact ⟨0, Nat.zero_le _, rfl, by rw [show w4 p 0 = [] from rfl, List.append_nil]; exact HC.out⟩
              case round =>
                clear HC
                obtain ⟨i, hi, rfl, hC⟩ := hrel
                have HC := Lib.hid hC
                by_cases hlt : i < p.n
                · have HSj : Hid (((wA p.n p.n ++ w2A p p.n) ++ w3A p p.n) ++ w4 p (i + 1) = (((wA p.n p.n ++ w2A p p.n) ++ w3A p p.n) ++ w4 p i) ++ [it4 p i]) := by
                    show _ = _
                    rw [w4_succ, app2]
                  have HLN : Hid ((((wA p.n p.n ++ w2A p p.n) ++ w3A p p.n) ++ w4 p i).length ≤ 1000000) := by
                    show _ ≤ _
                    simp only [List.length_append, w4_len]
                    have := wA_len (n := p.n) (m := p.n) hn6 hn6
                    have := w2A_len (p := p) (m := p.n) hn6 hn6
                    have := w3A_len (p := p) (m := p.n) hn6 hn6
                    omega
                  obtain ⟨L, hL⟩ : ∃ L, ((wA p.n p.n ++ w2A p p.n) ++ w3A p p.n) ++ w4 p i = L := ⟨_, rfl⟩
                  rw [hL] at hC HC HSj HLN
                  obtain ⟨aL, cL, rfl⟩ := hC.form
                  have hBr := hC.below
                  have HBr := Lib.hid hBr
                  have zz := hBr.size
                  have hltI : (i : Int) < (p.n : Int) := by omega
                  have r7 := HVd.out.rk i hlt
                  obtain ⟨m, hm⟩ : ∃ m : Nat, p.r i = (m : Int) := ⟨(p.r i).toNat, by omega⟩
                  rw [hm] at r7
                  obtain ⟨bo, oo, heo, hco⟩ := (HP.out.below G0.out).1.at (j := i) hlt
                  obtain rfl : p1 = some ⟨bo, oo, none⟩ := by simpa using heo
                  have hco' : w0.cell? ⟨bo, oo + i, none⟩ = some (.int .i64 m) := by rw [hco, ← hm]; rfl
                  have HCO := Lib.hid hco'
                  have KP : Hid (∀ wx, Below w0.heap.size w0 wx → wx.cell? ⟨w.heap.size, 0, none⟩ = some (Value.slice (some ⟨bo, oo, none⟩) p.n q1) ∧ wx.cell? ⟨w.heap.size, 1, none⟩ = some (Value.slice p2 p.n q2) ∧ wx.cell? ⟨w.heap.size, 2, none⟩ = some (Value.slice p3 p.n q3) ∧ wx.cell? ⟨bo, oo + i, none⟩ = some (.int .i64 m)) := fun wx hb =>
                    ⟨(KEEP.out wx hb).1, (KEEP.out wx hb).2.1, (KEEP.out wx hb).2.2, below_cells hb _ _ HCO.out⟩
                  obtain ⟨it, hit⟩ : ∃ it, it4 p i = it := ⟨_, rfl⟩
                  have HG : Hid (CG p it) := hit ▸ CG.four HVd.out hlt
                  have HW : Hid (it.1 = List.replicate (m + 1) ((i : Int) + 1)) := by show _ = _; rw [← hit]; unfold it4; rw [hm]; rfl
                  have HT2 : Hid ((it.2 : Int) = 1) := by show _ = _; rw [← hit]; rfl
                  rw [hit] at HSj
                  have HPQ : Hid (∀ (wx : World) (vx : Value), Below w0.heap.size w0 wx → Rd wx vx it.1 → Calls Try.prog 158 #[.agg #[Value.slice (some ⟨bo, oo, none⟩) p.n q1, Value.slice p2 p.n q2, Value.slice p3 p.n q3], vx, .int .i64 1] wx (RetPr wx p it vx)) := fun wx vx hb hx => by
                    have h := HPR.out it wx vx HG.out hb hx
                    rwa [HT2.out] at h
                  have HSM : Hid (∀ wx, Calls Try.prog 159 #[.int .i64 ((i : Int) + 1), .int .i64 ((m : Int) + 1)] wx (RetInts wx (List.replicate (m + 1) ((i : Int) + 1)))) := fun wx => by
                    have h := s_l09Same ((i : Int) + 1) (m + 1) wx (by omega)
                    rwa [show ((m + 1 : Nat) : Int) = (m : Int) + 1 by omega] at h
                  have W2 : IntKind.i64.wrap ((i : Int) + 1) = (i : Int) + 1 := IntWalk.i64_in _ (by omega)
                  have W3 : IntKind.i64.wrap ((m : Int) + 1) = (m : Int) + 1 := IntWalk.i64_in _ (by omega)
                  clear hL hC hBr hm hco hco' heo hit
                  go_wp2_with fail
                  go_region_held3 (fun wx => wx.cell? ⟨w.heap.size, 0, none⟩ = some (Value.slice (some ⟨bo, oo, none⟩) p.n q1) ∧ wx.cell? ⟨w.heap.size, 1, none⟩ = some (Value.slice p2 p.n q2) ∧ wx.cell? ⟨w.heap.size, 2, none⟩ = some (Value.slice p3 p.n q3) ∧ wx.cell? ⟨bo, oo + i, none⟩ = some (.int .i64 m))
                    (first
                      | exact KP.out _ (below_size HBr.out (Below.refl _ _).drew)
                      | exact KP.out _ hC8.below
                      | exact KP.out _ (below_size HBr.out hK7)
                      | exact KP.out _ (ball (below_size HBr.out hK7) _)
                      | exact KP.out _ (below_size HBr.out hK5))
                    (first
                      | ((go_at_call 159); (with_reducible refine (HSM.out _).mono ?_); (rintro e w5 ⟨u5, rfl, hI5, hB5⟩); (have hK5 : Below wr.heap.size wr w5 := below_size (Below.refl _ _).drew hB5); (obtain ⟨a5, c5, rfl, _, _⟩ := hI5.rd.formN (n := m + 1) (by first | (simp; done) | (simp; omega))))
                      | ((go_at_call 158); (with_reducible refine (HPQ.out _ _ (below_size HBr.out hK5) (by rw [HW.out]; exact hI5.rd)).mono ?_); (rintro e w7 ⟨u3, u4, m7, rfl, hm1, hm2, hO3, hO4, hB7⟩); (have hK7 : Below wr.heap.size wr w7 := below_size hK5 hB7); (obtain ⟨a3, c3, rfl, _, _⟩ := hO3.rd.form); (obtain ⟨a4, c4, rfl, _, _⟩ := hO4.rd.form))
                      | (obtain ⟨v8, w8, hr8, hC8⟩ := CO.pair (it := it) HC.out (Nat.le_refl _) zz hK5 (by rw [HW.out]; exact hI5.mono (B' := wr.heap.size) (Nat.le_refl _)) hm1 hO3 hO4 hB7 rfl rfl rfl HLN.out
                         refine step_of_run rfl (.tmp 117) (.tmp 129) 76 rfl _ _ (by simp [Act.eval, Act.put]) (by simp [Act.eval, Act.put]) _ _ hr8 ?_))
                  all_goals
                    have HC8 := Lib.hid hC8
                    clear hI5 hB5 hK5 hO3 hO4 hB7 hK7 hm1 hm2 hr8 hC8 KP HPQ HSM
                    go_wp2_with fail
                    go_roundw
                    case rel => exact ⟨i + 1, by omega, by go_num, by rw [HSj.out]; exact HC8.out⟩
                    case measure => (simp [intOf]; try omega)
                · obtain rfl : i = p.n := by omega
                  obtain ⟨aL, cL, rfl⟩ := hC.form
                  have HFIN : Hid (∀ v, CO w0.heap.size w0 v p (((wA p.n p.n ++ w2A p p.n) ++ w3A p p.n) ++ w4 p p.n) wr → CO w.heap.size w v p (cpL p) wr) := fun v h => by
                    obtain ⟨S, h1, h2, h3⟩ := h
                    have e : ((wA p.n p.n ++ w2A p p.n) ++ w3A p p.n) ++ w4 p p.n = cpL p := by unfold cpL; simp only [List.append_assoc]
                    rw [e] at h1
                    exact ⟨S, h1, fun k hk => ⟨by have := (h2 k hk).1; have := HSZ.out; omega, (h2 k hk).2⟩, below_size G0.out h3⟩
                  clear hC
                  go_wp2_with fail
                  go_ret
                  exact ⟨_, rfl, HFIN.out _ HC.out⟩
--== end
end Go.Proofs.Ythnpndheaailjaa
