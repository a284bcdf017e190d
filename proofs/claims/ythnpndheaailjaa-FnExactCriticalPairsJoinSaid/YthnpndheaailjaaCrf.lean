/-
  Critical pairs: all of them, by the program. (Printed by mkcrf.py.)
-/
import Derived.Test.YthnpndheaailjaaCre
namespace Go.Proofs.Ythnpndheaailjaa
set_option linter.unusedVariables false
set_option linter.unusedSimpArgs false
set_option maxRecDepth 100000
open Go.RowKit

--== impl.criticalPairs
theorem CB.new (w0 : World) (p : Pres) : CB w0 p [] (w0.alloc (.cells #[.slice none 0 0] 76)) :=
  ⟨_, heap_alloc_new w0 _, fun _ => False, OT.nil _ _, fun k hk => hk.elim, below_alloc _ _⟩
theorem CB.list {w0 w : World} {p : Pres} {L : List Itm} (h : CB w0 p L w) : ∃ a c, w.cell? ⟨w0.heap.size, 0, none⟩ = some (.slice a L.length c) ∧ CO (w0.heap.size + 1) w0 (.slice a L.length c) p L w := by
  obtain ⟨v, hb, hO⟩ := h
  obtain ⟨a, c, rfl⟩ := hO.form
  exact ⟨a, c, cell_of_one hb, hO⟩
set_option maxHeartbeats 3000000 in
theorem i_criticalPairs {p : Pres} (hV : ValidP p) (vp : Value) (w : World) (hp : PtrP w vp p) :
    Calls Try.prog 123 #[vp] w fun e w' => ∃ v, e = .returned v ∧ CO w.heap.size w v p (cpL p) w' := by
  have hn6 := hV.n6
  have HPT := Lib.hid hp
  obtain ⟨pb, v1, v2, v3, rfl, c1, c2, c3, R1, R2, R3⟩ := hp
  obtain ⟨p1, q1, rfl, _, _⟩ := R1.formN (n := p.n) rfl
  have R1 := Lib.hid R1
  have C1 := Lib.hid c1
  have HVd := Lib.hid hV
  have hmf : ∀ (fn : Fn) (first cap : Array Value) (w : World), (Instr.makeFunc fn first cap).run Try.prog w = .ok (.func fn first cap) w := fun _ _ _ _ => rfl
  have HSZ : Hid ((w.alloc (Obj.cells #[.pointer (some ⟨pb, 0, none⟩)] 102)).heap.size = w.heap.size + 1) := by show _ = _; simp
  have G0 := Lib.hid (below_alloc w (Obj.cells #[.pointer (some ⟨pb, 0, none⟩)] 102))
  have X0 : Hid ((w.alloc (Obj.cells #[.pointer (some ⟨pb, 0, none⟩)] 102)).cell? ⟨w.heap.size, 0, none⟩ = some (.pointer (some ⟨pb, 0, none⟩))) := cell_of_one (heap_alloc_new w _)
  have HC0 := Lib.hid (CB.new (w.alloc (Obj.cells #[.pointer (some ⟨pb, 0, none⟩)] 102)) p)
  have m0 : (w.alloc (Obj.cells #[.pointer (some ⟨pb, 0, none⟩)] 102)).cell? ⟨w.heap.size, 0, none⟩ = some (.pointer (some ⟨pb, 0, none⟩)) := X0.out
  have l0 : pb < w.heap.size := World.block_lt_of_cell? w _ c1
  clear c2 c3 R2 R3 hV
  go_enter Try.func123, Try.ntmps123
  go_wp2_with fail
  generalize w.alloc (Obj.cells #[.pointer (some ⟨pb, 0, none⟩)] 102) = w0 at *
  generalize w0.alloc (.cells #[.slice none 0 0] 76) = wS at *
  have KEEP : Hid (∀ wx, Below w0.heap.size w0 wx → wx.cell? ⟨w.heap.size, 0, none⟩ = some (.pointer (some ⟨pb, 0, none⟩)) ∧ wx.cell? ⟨pb, 0, none⟩ = some (.slice p1 p.n q1) ∧ w.heap.size < wx.heap.size ∧ pb < wx.heap.size) := fun wx hb =>
    ⟨below_cells hb _ _ X0.out, below_cells (below_size G0.out hb) _ _ C1.out, by have := hb.size; have := HSZ.out; omega, by have := hb.size; have := HSZ.out; omega⟩
  have HADD : Hid (∀ (L : List Itm) (it : Itm) (wx wy : World) (vx : Value), CG p it → CB w0 p L wx → Below wx.heap.size wx wy → Ints wy wx.heap.size vx it.1 → L.length ≤ 1000 → Calls Try.prog 160 #[vx, .int .i64 it.2, .pointer (some ⟨w.heap.size + 1, 0, none⟩), .pointer (some ⟨w.heap.size, 0, none⟩)] wy fun e w' => e = .returned (.tuple #[]) ∧ CB w0 p (L ++ [it]) w') := fun L it wx wy vx hg hC hB hx hl => by
    have h := i_cpAdd HVd.out L it hg vx _ w.heap.size w0 wx wy hC hB hx (HPT.out.below G0.out) X0.out hl
    rwa [HSZ.out] at h
  clear m0 l0
  go_loopw [7] (fun t wr => ∃ i : Nat, i ≤ p.n ∧ t = .int .i64 ((i : Int) + 1) ∧ CB w0 p (wA p.n i) wr) (fun t _ => p.n + 1 - (intOf t).toNat)
  case atStart => exact ⟨0, Nat.zero_le _, by go_num, HC0.out⟩
  case round =>
    clear HC0
    obtain ⟨i, hi, rfl, hC⟩ := hrel
    have HC := Lib.hid hC
    clear hC
    by_cases hlt : i < p.n
    · have HS := Lib.hid (wA_succ p.n i)
      have hltI : (i : Int) + 1 ≤ (p.n : Int) := by omega
      go_wp2_with fail
      go_loopw [8] (fun t wr => ∃ j : Nat, i + 1 ≤ j ∧ j ≤ p.n ∧ t = .int .i64 ((j : Int) + 1) ∧ CB w0 p (wA p.n i ++ wB p.n i (j - (i + 1))) wr) (fun t _ => p.n + 1 - (intOf t).toNat)
      case atStart => exact ⟨i + 1, Nat.le_refl _, by omega, by go_num, by rw [Nat.sub_self, show wB p.n i 0 = [] from rfl, List.append_nil]; exact HC.out⟩
      case round =>
        clear HC
        obtain ⟨j, hij, hj, rfl, hC⟩ := hrel
        have HC := Lib.hid hC
        clear hC
        by_cases hltj : j < p.n
        · have HSj : Hid (wB p.n i (j + 1 - (i + 1)) = wB p.n i (j - (i + 1)) ++ wC i j (p.n - (j + 1))) := by
            show _ = _
            rw [show j + 1 - (i + 1) = (j - (i + 1)) + 1 by omega, wB_succ, show i + 1 + (j - (i + 1)) = j by omega]
          have hltJ : (j : Int) + 1 ≤ (p.n : Int) := by omega
          go_wp2_with fail
          go_loopw [9] (fun t wr => ∃ k : Nat, j + 1 ≤ k ∧ k ≤ p.n ∧ t = .int .i64 ((k : Int) + 1) ∧ CB w0 p (wA p.n i ++ (wB p.n i (j - (i + 1)) ++ wC i j (k - (j + 1)))) wr) (fun t _ => p.n + 1 - (intOf t).toNat)
          case atStart => exact ⟨j + 1, Nat.le_refl _, by omega, by go_num, by rw [Nat.sub_self, show wC i j 0 = [] from rfl, List.append_nil]; exact HC.out⟩
          case round =>
            clear HC
            obtain ⟨k, hjk, hk, rfl, hC⟩ := hrel
            have HC := Lib.hid hC
            clear hC
            by_cases hltk : k < p.n
            · have HSk : Hid (wA p.n i ++ (wB p.n i (j - (i + 1)) ++ wC i j (k + 1 - (j + 1))) = (wA p.n i ++ (wB p.n i (j - (i + 1)) ++ wC i j (k - (j + 1)))) ++ [itC i j k]) := by
                show _ = _
                rw [show k + 1 - (j + 1) = (k - (j + 1)) + 1 by omega, wC_succ, show j + 1 + (k - (j + 1)) = k by omega, app3]
              have HLN : Hid ((wA p.n i ++ (wB p.n i (j - (i + 1)) ++ wC i j (k - (j + 1)))).length ≤ 1000) := by
                show _ ≤ _
                simp only [List.length_append, wC_len]
                have := wA_len (n := p.n) (m := i) hn6 (by omega)
                have := wB_len (n := p.n) (i := i) (m := j - (i + 1)) hn6 (by omega)
                omega
              obtain ⟨L, hL⟩ : ∃ L, wA p.n i ++ (wB p.n i (j - (i + 1)) ++ wC i j (k - (j + 1))) = L := ⟨_, rfl⟩
              rw [hL] at HC HSk HLN
              have hltK : (k : Int) + 1 ≤ (p.n : Int) := by omega
              have HCT : Hid (Calls Try.prog 160 #[.slice (some ⟨wr.heap.size, 0, none⟩) 3 3, .int .i64 1, .pointer (some ⟨w.heap.size + 1, 0, none⟩), .pointer (some ⟨w.heap.size, 0, none⟩)] (wr.alloc (.cells #[.int .i64 ((k : Int) + 1), .int .i64 ((j : Int) + 1), .int .i64 ((i : Int) + 1)] 2)) fun e w' => e = .returned (.tuple #[]) ∧ CB w0 p (L ++ [itC i j k]) w') :=
                HADD.out L (itC i j k) wr _ _ (CG.c (by omega) (by omega) hltk) HC.out (below_alloc _ _) (Ints.lit3 wr _ _ _) HLN.out
              clear hL
              go_wp2_with (go_at_call 160; (with_reducible refine HCT.out.mono ?_); rintro e w5 ⟨rfl, hC5⟩)
              have HC5 := Lib.hid hC5
              clear hC5
              go_wp2_with fail
              go_roundw
              case rel => exact ⟨k + 1, by omega, by omega, by go_num, by rw [HSk.out]; exact HC5.out⟩
              case measure => (simp [intOf]; try omega)
            · obtain rfl : k = p.n := by omega
              go_wp2_with fail
              go_roundw
              case rel => exact ⟨j + 1, by omega, by omega, by go_num, by rw [HSj.out]; exact HC.out⟩
              case measure => (simp [intOf]; try omega)
        · obtain rfl : j = p.n := by omega
          go_wp2_with fail
          go_roundw
          case rel => exact ⟨i + 1, by omega, by go_num, by rw [HS.out]; exact HC.out⟩
          case measure => (simp [intOf]; try omega)
    · obtain rfl : i = p.n := by omega
      go_wp2_with fail
      go_loopw [10] (fun t wr => ∃ i : Nat, i ≤ p.n ∧ t = .int .i64 ((i : Int) + 1) ∧ CB w0 p (wA p.n p.n ++ w2A p i) wr) (fun t _ => p.n + 1 - (intOf t).toNat)
      case atStart => exact ⟨0, Nat.zero_le _, by go_num, by rw [show w2A p 0 = [] from rfl, List.append_nil]; exact HC.out⟩
      case round =>
        clear HC
        obtain ⟨i, hi, rfl, hC⟩ := hrel
        have HC := Lib.hid hC
        clear hC
        by_cases hlt : i < p.n
        · have HS := Lib.hid (w2A_succ p i)
          have hltI : (i : Int) + 1 ≤ (p.n : Int) := by omega
          go_wp2_with fail
          go_loopw [11] (fun t wr => ∃ j : Nat, i + 1 ≤ j ∧ j ≤ p.n ∧ t = .int .i64 ((j : Int) + 1) ∧ CB w0 p (wA p.n p.n ++ (w2A p i ++ w2 p i (j - (i + 1)))) wr) (fun t _ => p.n + 1 - (intOf t).toNat)
          case atStart => exact ⟨i + 1, Nat.le_refl _, by omega, by go_num, by rw [Nat.sub_self, show w2 p i 0 = [] from rfl, List.append_nil]; exact HC.out⟩
          case round =>
            clear HC
            obtain ⟨j, hij, hj, rfl, hC⟩ := hrel
            have HC := Lib.hid hC
            clear hC
            by_cases hltj : j < p.n
            · have HSj : Hid (wA p.n p.n ++ (w2A p i ++ w2 p i (j + 1 - (i + 1))) = (wA p.n p.n ++ (w2A p i ++ w2 p i (j - (i + 1)))) ++ [it2 p i j]) := by
                show _ = _
                rw [show j + 1 - (i + 1) = (j - (i + 1)) + 1 by omega, w2_succ, show i + 1 + (j - (i + 1)) = j by omega, app3]
              have HLN : Hid ((wA p.n p.n ++ (w2A p i ++ w2 p i (j - (i + 1)))).length ≤ 1000) := by
                show _ ≤ _
                simp only [List.length_append, w2_len]
                have := wA_len (n := p.n) (m := p.n) hn6 hn6
                have := w2A_len (p := p) (m := p.n) hn6 hn6
                have := w2A_len (p := p) (m := i) hn6 (by omega)
                omega
              obtain ⟨L, hL⟩ : ∃ L, wA p.n p.n ++ (w2A p i ++ w2 p i (j - (i + 1))) = L := ⟨_, rfl⟩
              rw [hL] at HC HSj HLN
              have hltJ : (j : Int) + 1 ≤ (p.n : Int) := by omega
              have hBr := HC.out.below
              have HBr := Lib.hid hBr
              have r7 := HVd.out.rk j (by omega)
              obtain ⟨m, hm⟩ : ∃ m : Nat, p.r j = (m : Int) := ⟨(p.r j).toNat, by omega⟩
              rw [hm] at r7
              obtain ⟨bo, oo, heo, hco⟩ := R1.out.at (j := j) (by show j < p.n; omega)
              obtain rfl : p1 = some ⟨bo, oo, none⟩ := by simpa using heo
              have HCO : Hid (w.cell? ⟨bo, oo + j, none⟩ = some (.int .i64 m)) := by show _ = _; rw [hco, ← hm]; rfl
              have KP : Hid (∀ wx, Below w0.heap.size w0 wx → wx.cell? ⟨w.heap.size, 0, none⟩ = some (.pointer (some ⟨pb, 0, none⟩)) ∧ wx.cell? ⟨pb, 0, none⟩ = some (.slice (some ⟨bo, oo, none⟩) p.n q1) ∧ wx.cell? ⟨bo, oo + j, none⟩ = some (.int .i64 m)) := fun wx hb =>
                ⟨(KEEP.out wx hb).1, (KEEP.out wx hb).2.1, below_cells (below_size G0.out hb) _ _ HCO.out⟩
              clear hBr
              obtain ⟨it, hit⟩ : ∃ it, it2 p i j = it := ⟨_, rfl⟩
              have HG : Hid (CG p it) := hit ▸ CG.two HVd.out (by omega) hltj
              have HW : Hid (it.1 = List.replicate m ((j : Int) + 1) ++ [(i : Int) + 1]) := by show _ = _; rw [← hit]; unfold it2; rw [hm]; rfl
              have HT2 : Hid ((it.2 : Int) = (m : Int) - 1) := by show _ = _; rw [← hit]; unfold it2; rw [hm]; simp only [Int.toNat_natCast]; omega
              rw [hit] at HSj
              have HAD : Hid (∀ (wy : World) (vx : Value), Below wr.heap.size wr wy → Ints wy wr.heap.size vx it.1 → Calls Try.prog 160 #[vx, .int .i64 ((m : Int) - 1), .pointer (some ⟨w.heap.size + 1, 0, none⟩), .pointer (some ⟨w.heap.size, 0, none⟩)] wy fun e w' => e = .returned (.tuple #[]) ∧ CB w0 p (L ++ [it]) w') := fun wy vx hb hx => by
                have h := HADD.out L it wr wy vx HG.out HC.out hb hx HLN.out
                rwa [HT2.out] at h
              have W1 : IntKind.i64.wrap ((j : Int) + 1 - 1) = (j : Int) := by rw [IntWalk.i64_in _ (by omega)]; omega
              have W4 : IntKind.i64.wrap (j : Int) = (j : Int) := IntWalk.i64_in _ (by omega)
              have W5 : (j : Int) < (p.n : Int) := by omega
              have W3 : IntKind.i64.wrap ((m : Int) - 1) = (m : Int) - 1 := IntWalk.i64_in _ (by omega)
              clear hL hm hco heo hit
              go_wp2_with fail
              go_region_held3 (fun wx => wx.cell? ⟨w.heap.size, 0, none⟩ = some (.pointer (some ⟨pb, 0, none⟩)) ∧ wx.cell? ⟨pb, 0, none⟩ = some (.slice (some ⟨bo, oo, none⟩) p.n q1) ∧ wx.cell? ⟨bo, oo + j, none⟩ = some (.int .i64 m))
                (first
                  | exact KP.out _ (below_size HBr.out (Below.refl _ _).drew)
                  | exact KP.out _ hC7.below
                  | exact KP.out _ (below_size HBr.out hK6)
                  | exact KP.out _ (below_size HBr.out hK5)
                  | exact KP.out _ (ball (below_size HBr.out hK5) _)
                  | exact KP.out _ (below_size HBr.out (below_alloc _ _).drew)
                  | exact KP.out _ (below_size HBr.out (below_alloc _ _)))
                (first
                  | ((go_at_call 162); (with_reducible refine (i_cpLetters ((j : Int) + 1) m _ (by omega)).mono ?_); (rintro e w5 ⟨u5, rfl, hI5, hB5⟩); (have hK5 : Below wr.heap.size wr w5 := (by first | exact below_size (Below.refl _ _).drew hB5 | exact below_size (below_alloc wr _).drew hB5)); (obtain ⟨a5, c5, rfl, _, _⟩ := hI5.rd.formN (n := m) (by simp)))
                  | ((go_at_call 160); (with_reducible refine (HAD.out _ _ hK6 (by rw [HW.out]; exact hI6)).mono ?_); (rintro e w7 ⟨rfl, hC7⟩))
                  | (obtain ⟨v6, w6, hr6, hI6, hB6⟩ := run_appI (w5.alloc (.cells #[.int .i64 ((i : Int) + 1)] 2)) 22 wr.heap.size _ _ ((hI5.mono (B' := wr.heap.size) (Nat.le_refl _)).below (below_alloc w5 _)) _ _ (Rd.lit1 w5 ((i : Int) + 1)) (by simp; omega) (by simp) (by have := hK5.size; simp; omega)
                     have hK6 : Below wr.heap.size wr w6 := (ball hK5 _).trans hB6
                     obtain ⟨a6, c6, rfl, _, _⟩ := hI6.rd.formN (n := m + 1) (by simp)
                     refine step_of_run rfl (.tmp 69) (.tmp 71) 22 rfl _ _ (by simp [Act.eval, Act.put]) (by simp [Act.eval, Act.put]) _ _ hr6 ?_)
                  | (obtain ⟨v6, w6, hr6, hI6, hB6⟩ := run_appI w5 22 wr.heap.size _ _ (hI5.mono (B' := wr.heap.size) (by simp)) (.slice (some ⟨wr.heap.size, 0, none⟩) 1 1) _ ((Rd.lit1 wr ((i : Int) + 1)).below (below_size (Below.refl _ _).drew hB5)) (by simp; omega) (by simp) hK5.size
                     have hK6 : Below wr.heap.size wr w6 := hK5.trans hB6
                     obtain ⟨a6, c6, rfl, _, _⟩ := hI6.rd.formN (n := m + 1) (by simp)
                     refine step_of_run rfl (.tmp 69) (.tmp 71) 22 rfl _ _ (by simp [Act.eval, Act.put]) (by simp [Act.eval, Act.put]) _ _ hr6 ?_))
              all_goals
                have HC7 := Lib.hid hC7
                clear hI5 hB5 hK5 hI6 hB6 hK6 hr6 hC7 KP HAD
                go_wp2_with fail
                go_roundw
                case rel => exact ⟨j + 1, by omega, by omega, by go_num, by rw [HSj.out]; exact HC7.out⟩
                case measure => (simp [intOf]; try omega)
            · obtain rfl : j = p.n := by omega
              go_wp2_with fail
              go_roundw
              case rel => exact ⟨i + 1, by omega, by go_num, by rw [HS.out]; exact HC.out⟩
              case measure => (simp [intOf]; try omega)
        · obtain rfl : i = p.n := by omega
          go_wp2_with fail
          go_loopw [12] (fun t wr => ∃ i : Nat, i ≤ p.n ∧ t = .int .i64 ((i : Int) + 1) ∧ CB w0 p ((wA p.n p.n ++ w2A p p.n) ++ w3A p i) wr) (fun t _ => p.n + 1 - (intOf t).toNat)
          case atStart => exact ⟨0, Nat.zero_le _, by go_num, by rw [show w3A p 0 = [] from rfl, List.append_nil]; exact HC.out⟩
          case round =>
            clear HC
            obtain ⟨i, hi, rfl, hC⟩ := hrel
            have HC := Lib.hid hC
            clear hC
            by_cases hlt : i < p.n
            · have HS := Lib.hid (w3A_succ p i)
              have hltI : (i : Int) + 1 ≤ (p.n : Int) := by omega
              go_wp2_with fail
              go_loopw [13] (fun t wr => ∃ j : Nat, i + 1 ≤ j ∧ j ≤ p.n ∧ t = .int .i64 ((j : Int) + 1) ∧ CB w0 p ((wA p.n p.n ++ w2A p p.n) ++ (w3A p i ++ w3 p i (j - (i + 1)))) wr) (fun t _ => p.n + 1 - (intOf t).toNat)
              case atStart => exact ⟨i + 1, Nat.le_refl _, by omega, by go_num, by rw [Nat.sub_self, show w3 p i 0 = [] from rfl, List.append_nil]; exact HC.out⟩
              case round =>
                clear HC
                obtain ⟨j, hij, hj, rfl, hC⟩ := hrel
                have HC := Lib.hid hC
                clear hC
                by_cases hltj : j < p.n
                · have HSj : Hid ((wA p.n p.n ++ w2A p p.n) ++ (w3A p i ++ w3 p i (j + 1 - (i + 1))) = ((wA p.n p.n ++ w2A p p.n) ++ (w3A p i ++ w3 p i (j - (i + 1)))) ++ [it3 p i j]) := by
                    show _ = _
                    rw [show j + 1 - (i + 1) = (j - (i + 1)) + 1 by omega, w3_succ, show i + 1 + (j - (i + 1)) = j by omega, app3]
                  have HLN : Hid (((wA p.n p.n ++ w2A p p.n) ++ (w3A p i ++ w3 p i (j - (i + 1)))).length ≤ 1000) := by
                    show _ ≤ _
                    simp only [List.length_append, w3_len]
                    have := wA_len (n := p.n) (m := p.n) hn6 hn6
                    have := w2A_len (p := p) (m := p.n) hn6 hn6
                    have := w3A_len (p := p) (m := i) hn6 (by omega)
                    omega
                  obtain ⟨L, hL⟩ : ∃ L, (wA p.n p.n ++ w2A p p.n) ++ (w3A p i ++ w3 p i (j - (i + 1))) = L := ⟨_, rfl⟩
                  rw [hL] at HC HSj HLN
                  have hltJ : (j : Int) + 1 ≤ (p.n : Int) := by omega
                  have hBr := HC.out.below
                  have HBr := Lib.hid hBr
                  have r7 := HVd.out.rk i (by omega)
                  obtain ⟨m, hm⟩ : ∃ m : Nat, p.r i = (m : Int) := ⟨(p.r i).toNat, by omega⟩
                  rw [hm] at r7
                  obtain ⟨bo, oo, heo, hco⟩ := R1.out.at (j := i) (by show i < p.n; omega)
                  obtain rfl : p1 = some ⟨bo, oo, none⟩ := by simpa using heo
                  have HCO : Hid (w.cell? ⟨bo, oo + i, none⟩ = some (.int .i64 m)) := by show _ = _; rw [hco, ← hm]; rfl
                  have KP : Hid (∀ wx, Below w0.heap.size w0 wx → wx.cell? ⟨w.heap.size, 0, none⟩ = some (.pointer (some ⟨pb, 0, none⟩)) ∧ wx.cell? ⟨pb, 0, none⟩ = some (.slice (some ⟨bo, oo, none⟩) p.n q1) ∧ wx.cell? ⟨bo, oo + i, none⟩ = some (.int .i64 m)) := fun wx hb =>
                    ⟨(KEEP.out wx hb).1, (KEEP.out wx hb).2.1, below_cells (below_size G0.out hb) _ _ HCO.out⟩
                  clear hBr
                  obtain ⟨it, hit⟩ : ∃ it, it3 p i j = it := ⟨_, rfl⟩
                  have HG : Hid (CG p it) := hit ▸ CG.three HVd.out (by omega) hltj
                  have HW : Hid (it.1 = ((j : Int) + 1) :: List.replicate m ((i : Int) + 1)) := by show _ = _; rw [← hit]; unfold it3; rw [hm]; rfl
                  have HT2 : Hid ((it.2 : Int) = 1) := by show _ = _; rw [← hit]; rfl
                  rw [hit] at HSj
                  have HAD : Hid (∀ (wy : World) (vx : Value), Below wr.heap.size wr wy → Ints wy wr.heap.size vx it.1 → Calls Try.prog 160 #[vx, .int .i64 1, .pointer (some ⟨w.heap.size + 1, 0, none⟩), .pointer (some ⟨w.heap.size, 0, none⟩)] wy fun e w' => e = .returned (.tuple #[]) ∧ CB w0 p (L ++ [it]) w') := fun wy vx hb hx => by
                    have h := HADD.out L it wr wy vx HG.out HC.out hb hx HLN.out
                    rwa [HT2.out] at h
                  obtain ⟨m0, m1, m2⟩ := KP.out _ HBr.out
                  obtain ⟨_, _, l0, l1⟩ := KEEP.out _ HBr.out
                  have l2 := World.block_lt_of_cell? wr _ m2
                  clear hL hm hco heo hit
                  go_wp2_with (first
                    | (go_at_call 162; (with_reducible refine (i_cpLetters ((i : Int) + 1) m _ (by omega)).mono ?_); rintro e w5 ⟨u5, rfl, hI5, hB5⟩; have hK5 : Below wr.heap.size wr w5 := below_size (below_alloc wr _) hB5; obtain ⟨a5, c5, rfl, _, _⟩ := hI5.rd.formN (n := m) (by simp))
                    | (go_at_call 160; (with_reducible refine (HAD.out _ _ hK6 (by rw [HW.out]; exact hI6)).mono ?_); rintro e w7 ⟨rfl, hC7⟩)
                    | (at_builtin; obtain ⟨v6, w6, hr6, hI6, hB6⟩ := run_appI w5 22 wr.heap.size (.slice (some ⟨wr.heap.size, 0, none⟩) 1 1) _ ((Ints.litC wr ((j : Int) + 1)).below hB5) _ _ hI5.rd (by simp) (by simp; omega) hK5.size; have hK6 : Below wr.heap.size wr w6 := hK5.trans hB6; rw [List.singleton_append] at hI6; obtain ⟨a6, c6, rfl, _, _⟩ := hI6.rd.formN (n := m + 1) (by simp); refine wp_of_run _ rfl _ _ _ rfl _ _ rfl rfl _ _ hr6 ?_))
                  all_goals
                    have HC7 := Lib.hid hC7
                    clear hC7 KP HAD
                    go_wp2_with fail
                    go_roundw
                    case rel => exact ⟨j + 1, by omega, by omega, by go_num, by rw [HSj.out]; exact HC7.out⟩
                    case measure => (simp [intOf]; try omega)
                · obtain rfl : j = p.n := by omega
                  go_wp2_with fail
                  go_roundw
                  case rel => exact ⟨i + 1, by omega, by go_num, by rw [HS.out]; exact HC.out⟩
                  case measure => (simp [intOf]; try omega)
            · obtain rfl : i = p.n := by omega
              go_wp2_with fail
              go_loopw [14] (fun t wr => ∃ i : Nat, i ≤ p.n ∧ t = .int .i64 ((i : Int) + 1) ∧ CB w0 p (((wA p.n p.n ++ w2A p p.n) ++ w3A p p.n) ++ w4 p i) wr) (fun t _ => p.n + 1 - (intOf t).toNat)
              case atStart => exact ⟨0, Nat.zero_le _, by go_num, by rw [show w4 p 0 = [] from rfl, List.append_nil]; exact HC.out⟩
              case round =>
                clear HC
                obtain ⟨i, hi, rfl, hC⟩ := hrel
                have HC := Lib.hid hC
                clear hC
                by_cases hlt : i < p.n
                · have HSj : Hid (((wA p.n p.n ++ w2A p p.n) ++ w3A p p.n) ++ w4 p (i + 1) = (((wA p.n p.n ++ w2A p p.n) ++ w3A p p.n) ++ w4 p i) ++ [it4 p i]) := by
                    show _ = _
                    rw [w4_succ, app2]
                  have HLN : Hid ((((wA p.n p.n ++ w2A p p.n) ++ w3A p p.n) ++ w4 p i).length ≤ 1000) := by
                    show _ ≤ _
                    simp only [List.length_append, w4_len]
                    have := wA_len (n := p.n) (m := p.n) hn6 hn6
                    have := w2A_len (p := p) (m := p.n) hn6 hn6
                    have := w3A_len (p := p) (m := p.n) hn6 hn6
                    omega
                  obtain ⟨L, hL⟩ : ∃ L, ((wA p.n p.n ++ w2A p p.n) ++ w3A p p.n) ++ w4 p i = L := ⟨_, rfl⟩
                  rw [hL] at HC HSj HLN
                  have hltI : (i : Int) + 1 ≤ (p.n : Int) := by omega
                  have hBr := HC.out.below
                  have HBr := Lib.hid hBr
                  have r7 := HVd.out.rk i hlt
                  obtain ⟨m, hm⟩ : ∃ m : Nat, p.r i = (m : Int) := ⟨(p.r i).toNat, by omega⟩
                  rw [hm] at r7
                  obtain ⟨bo, oo, heo, hco⟩ := R1.out.at (j := i) (by show i < p.n; omega)
                  obtain rfl : p1 = some ⟨bo, oo, none⟩ := by simpa using heo
                  have HCO : Hid (w.cell? ⟨bo, oo + i, none⟩ = some (.int .i64 m)) := by show _ = _; rw [hco, ← hm]; rfl
                  have KP : Hid (∀ wx, Below w0.heap.size w0 wx → wx.cell? ⟨w.heap.size, 0, none⟩ = some (.pointer (some ⟨pb, 0, none⟩)) ∧ wx.cell? ⟨pb, 0, none⟩ = some (.slice (some ⟨bo, oo, none⟩) p.n q1) ∧ wx.cell? ⟨bo, oo + i, none⟩ = some (.int .i64 m)) := fun wx hb =>
                    ⟨(KEEP.out wx hb).1, (KEEP.out wx hb).2.1, below_cells (below_size G0.out hb) _ _ HCO.out⟩
                  clear hBr
                  obtain ⟨it, hit⟩ : ∃ it, it4 p i = it := ⟨_, rfl⟩
                  have HG : Hid (CG p it) := hit ▸ CG.four HVd.out hlt
                  have HW : Hid (it.1 = List.replicate (m + 1) ((i : Int) + 1)) := by show _ = _; rw [← hit]; unfold it4; rw [hm]; rfl
                  have HT2 : Hid ((it.2 : Int) = 1) := by show _ = _; rw [← hit]; rfl
                  rw [hit] at HSj
                  have HAD : Hid (∀ (wy : World) (vx : Value), Below wr.heap.size wr wy → Ints wy wr.heap.size vx it.1 → Calls Try.prog 160 #[vx, .int .i64 1, .pointer (some ⟨w.heap.size + 1, 0, none⟩), .pointer (some ⟨w.heap.size, 0, none⟩)] wy fun e w' => e = .returned (.tuple #[]) ∧ CB w0 p (L ++ [it]) w') := fun wy vx hb hx => by
                    have h := HADD.out L it wr wy vx HG.out HC.out hb hx HLN.out
                    rwa [HT2.out] at h
                  have HSM : Hid (∀ wx, Calls Try.prog 162 #[.int .i64 ((i : Int) + 1), .int .i64 ((m : Int) + 1)] wx (RetInts wx (List.replicate (m + 1) ((i : Int) + 1)))) := fun wx => by
                    have h := i_cpLetters ((i : Int) + 1) (m + 1) wx (by omega)
                    rwa [show ((m + 1 : Nat) : Int) = (m : Int) + 1 by omega] at h
                  obtain ⟨m0, m1, m2⟩ := KP.out _ HBr.out
                  clear hL hm hco heo hit
                  go_wp2_with (first
                    | (go_at_call 162; (with_reducible refine (HSM.out _).mono ?_); rintro e w5 ⟨u5, rfl, hI5, hB5⟩; obtain ⟨a5, c5, rfl, _, _⟩ := hI5.rd.formN (n := m + 1) (by simp))
                    | (go_at_call 160; (with_reducible refine (HAD.out _ _ hB5 (by rw [HW.out]; exact hI5)).mono ?_); rintro e w7 ⟨rfl, hC7⟩))
                  all_goals
                    have HC7 := Lib.hid hC7
                    clear hC7 KP HAD
                    go_wp2_with fail
                    go_roundw
                    case rel => exact ⟨i + 1, by omega, by go_num, by rw [HSj.out]; exact HC7.out⟩
                    case measure => (simp [intOf]; try omega)
                · obtain rfl : i = p.n := by omega
                  obtain ⟨aL, cL, hcL, hCO⟩ := HC.out.list
                  have HFIN : Hid (CO w.heap.size w (.slice aL (((wA p.n p.n ++ w2A p p.n) ++ w3A p p.n) ++ w4 p p.n).length cL) p (cpL p) wr) := by
                    obtain ⟨S, h1, h2, h3⟩ := hCO
                    have e : ((wA p.n p.n ++ w2A p p.n) ++ w3A p p.n) ++ w4 p p.n = cpL p := by unfold cpL; simp only [List.append_assoc]
                    rw [e] at h1 ⊢
                    exact ⟨S, h1, fun k hk => ⟨by have := (h2 k hk).1; have := HSZ.out; omega, (h2 k hk).2⟩, below_size G0.out h3⟩
                  rw [HSZ.out] at hcL
                  generalize (((wA p.n p.n ++ w2A p p.n) ++ w3A p p.n) ++ w4 p p.n).length = nL at *
                  clear hCO
                  go_wp2_with fail
                  go_ret
                  exact ⟨_, rfl, HFIN.out⟩
--== end
end Go.Proofs.Ythnpndheaailjaa
