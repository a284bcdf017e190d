/-
  Critical pairs: all of them, by the program. (Printed by mkcrf.py.)
  The reference's first fault: l08Fault, l08Consistent, l08Group.
  The program's faults: levelFault, consistentFrom.
  CriticalPairs and CriticalPairsJoin: both sides.
  The laws' helpers on lists of critical pairs: comparisons, marks.
  The draw of critical pairs' presentations, and what a pair's word steps to.
  Comparing integers, a code's length.
  What the walks of the laws share, for arguments with depth: lists of lists, presentations that came in.
  A list of bytes that came in.
  The walk of the law FnCriticalPairs.
-/
import Derived.Test.YtiikoappknejgaaZk
import Derived.Test.YtiikoappknejgaaZj
import Derived.Test.YtiikoappknejgaaZi
import Derived.Test.YtiikoappknejgaaZf
import Derived.Test.YtiikoappknejgaaZb
import Derived.Deep.Slices
import Derived.Deep.RegionHeld3
namespace Go.Proofs.Ytiikoappknejgaa
set_option linter.unusedVariables false
set_option linter.unusedSimpArgs false
set_option maxRecDepth 100000
open Go.RowKit

--== impl.criticalPairs
theorem CB.new (w0 : World) (p : Pres) : CB w0 p [] (w0.alloc (.cells #[.slice none 0 0] 30)) :=
  ⟨_, heap_alloc_new w0 _, fun _ => False, OT.nil _ _, fun k hk => hk.elim, below_alloc _ _⟩
theorem CB.list {w0 w : World} {p : Pres} {L : List Itm} (h : CB w0 p L w) : ∃ a c, w.cell? ⟨w0.heap.size, 0, none⟩ = some (.slice a L.length c) ∧ CO (w0.heap.size + 1) w0 (.slice a L.length c) p L w := by
  obtain ⟨v, hb, hO⟩ := h
  obtain ⟨a, c, rfl⟩ := hO.form
  exact ⟨a, c, cell_of_one hb, hO⟩
set_option maxHeartbeats 3000000 in
theorem i_criticalPairs {p : Pres} (hV : ValidP p) (vp : Value) (w : World) (hp : PtrP w vp p) :
    Calls Try.prog 19 #[vp] w fun e w' => ∃ v, e = .returned v ∧ CO w.heap.size w v p (cpL p) w' := by
  have hn6 := hV.n6
  have HPT := Lib.hid hp
  obtain ⟨pb, v1, v2, v3, rfl, c1, c2, c3, R1, R2, R3⟩ := hp
  obtain ⟨p1, q1, rfl, _, _⟩ := R1.formN (n := p.n) rfl
  have R1 := Lib.hid R1
  have C1 := Lib.hid c1
  have HVd := Lib.hid hV
  have hmf : ∀ (fn : Fn) (first cap : Array Value) (w : World), (Instr.makeFunc fn first cap).run Try.prog w = .ok (.func fn first cap) w := fun _ _ _ _ => rfl
  have HSZ : Hid ((w.alloc (Obj.cells #[.pointer (some ⟨pb, 0, none⟩)] 49)).heap.size = w.heap.size + 1) := by show _ = _; simp
  have G0 := Lib.hid (below_alloc w (Obj.cells #[.pointer (some ⟨pb, 0, none⟩)] 49))
  have X0 : Hid ((w.alloc (Obj.cells #[.pointer (some ⟨pb, 0, none⟩)] 49)).cell? ⟨w.heap.size, 0, none⟩ = some (.pointer (some ⟨pb, 0, none⟩))) := cell_of_one (heap_alloc_new w _)
  have HC0 := Lib.hid (CB.new (w.alloc (Obj.cells #[.pointer (some ⟨pb, 0, none⟩)] 49)) p)
  have m0 : (w.alloc (Obj.cells #[.pointer (some ⟨pb, 0, none⟩)] 49)).cell? ⟨w.heap.size, 0, none⟩ = some (.pointer (some ⟨pb, 0, none⟩)) := X0.out
  have l0 : pb < w.heap.size := World.block_lt_of_cell? w _ c1
  clear c2 c3 R2 R3 hV
  go_enter Try.func19, Try.ntmps19
  go_wp2_with fail
  generalize w.alloc (Obj.cells #[.pointer (some ⟨pb, 0, none⟩)] 49) = w0 at *
  generalize w0.alloc (.cells #[.slice none 0 0] 30) = wS at *
  have KEEP : Hid (∀ wx, Below w0.heap.size w0 wx → wx.cell? ⟨w.heap.size, 0, none⟩ = some (.pointer (some ⟨pb, 0, none⟩)) ∧ wx.cell? ⟨pb, 0, none⟩ = some (.slice p1 p.n q1) ∧ w.heap.size < wx.heap.size ∧ pb < wx.heap.size) := fun wx hb =>
    ⟨below_cells hb _ _ X0.out, below_cells (below_size G0.out hb) _ _ C1.out, by have := hb.size; have := HSZ.out; omega, by have := hb.size; have := HSZ.out; omega⟩
  have HADD : Hid (∀ (L : List Itm) (it : Itm) (wx wy : World) (vx : Value), CG p it → CB w0 p L wx → Below wx.heap.size wx wy → Ints wy wx.heap.size vx it.1 → L.length ≤ 1000 → Calls Try.prog 40 #[vx, .int .i64 it.2, .pointer (some ⟨w.heap.size + 1, 0, none⟩), .pointer (some ⟨w.heap.size, 0, none⟩)] wy fun e w' => e = .returned (.tuple #[]) ∧ CB w0 p (L ++ [it]) w') := fun L it wx wy vx hg hC hB hx hl => by
    have h := i_cpAdd HVd.out L it hg vx _ w.heap.size w0 wx wy hC hB hx (HPT.out.below G0.out) X0.out hl
    rwa [HSZ.out] at h
  clear m0 l0
  go_loopw [7] (fun t wr => ∃ i : Nat, i ≤ p.n ∧ t = .int .i64 ((i : Int) + 1) ∧ CB w0 p (wA p.n i) wr) (fun t _ => p.n + 1 - (intOf t).toNat)
  case atStart => exact ⟨0, Nat.zero_le _, by go_num, HC0.out⟩
  case round =>
    clear HC0
    obtain ⟨i, hi, rfl, hC⟩ := hrel
    have HC := Lib.hid hC
    clear hC
    by_cases hlt : i < p.n
    · have HS := Lib.hid (wA_succ p.n i)
      have hltI : (i : Int) + 1 ≤ (p.n : Int) := by omega
      go_wp2_with fail
      go_loopw [8] (fun t wr => ∃ j : Nat, i + 1 ≤ j ∧ j ≤ p.n ∧ t = .int .i64 ((j : Int) + 1) ∧ CB w0 p (wA p.n i ++ wB p.n i (j - (i + 1))) wr) (fun t _ => p.n + 1 - (intOf t).toNat)
      case atStart => exact ⟨i + 1, Nat.le_refl _, by omega, by go_num, by rw [Nat.sub_self, show wB p.n i 0 = [] from rfl, List.append_nil]; exact HC.out⟩
      case round =>
        clear HC
        obtain ⟨j, hij, hj, rfl, hC⟩ := hrel
        have HC := Lib.hid hC
        clear hC
        by_cases hltj : j < p.n
        · have HSj : Hid (wB p.n i (j + 1 - (i + 1)) = wB p.n i (j - (i + 1)) ++ wC i j (p.n - (j + 1))) := by
            show _ = _
            rw [show j + 1 - (i + 1) = (j - (i + 1)) + 1 by omega, wB_succ, show i + 1 + (j - (i + 1)) = j by omega]
          have hltJ : (j : Int) + 1 ≤ (p.n : Int) := by omega
          go_wp2_with fail
          go_loopw [9] (fun t wr => ∃ k : Nat, j + 1 ≤ k ∧ k ≤ p.n ∧ t = .int .i64 ((k : Int) + 1) ∧ CB w0 p (wA p.n i ++ (wB p.n i (j - (i + 1)) ++ wC i j (k - (j + 1)))) wr) (fun t _ => p.n + 1 - (intOf t).toNat)
          case atStart => exact ⟨j + 1, Nat.le_refl _, by omega, by go_num, by rw [Nat.sub_self, show wC i j 0 = [] from rfl, List.append_nil]; exact HC.out⟩
          case round =>
            clear HC
            obtain ⟨k, hjk, hk, rfl, hC⟩ := hrel
            have HC := Lib.hid hC
            clear hC
            by_cases hltk : k < p.n
            · have HSk : Hid (wA p.n i ++ (wB p.n i (j - (i + 1)) ++ wC i j (k + 1 - (j + 1))) = (wA p.n i ++ (wB p.n i (j - (i + 1)) ++ wC i j (k - (j + 1)))) ++ [itC i j k]) := by
                show _ = _
                rw [show k + 1 - (j + 1) = (k - (j + 1)) + 1 by omega, wC_succ, show j + 1 + (k - (j + 1)) = k by omega, app3]
              have HLN : Hid ((wA p.n i ++ (wB p.n i (j - (i + 1)) ++ wC i j (k - (j + 1)))).length ≤ 1000) := by
                show _ ≤ _
                simp only [List.length_append, wC_len]
                have := wA_len (n := p.n) (m := i) hn6 (by omega)
                have := wB_len (n := p.n) (i := i) (m := j - (i + 1)) hn6 (by omega)
                omega
              obtain ⟨L, hL⟩ : ∃ L, wA p.n i ++ (wB p.n i (j - (i + 1)) ++ wC i j (k - (j + 1))) = L := ⟨_, rfl⟩
              rw [hL] at HC HSk HLN
              have hltK : (k : Int) + 1 ≤ (p.n : Int) := by omega
              have HCT : Hid (Calls Try.prog 40 #[.slice (some ⟨wr.heap.size, 0, none⟩) 3 3, .int .i64 1, .pointer (some ⟨w.heap.size + 1, 0, none⟩), .pointer (some ⟨w.heap.size, 0, none⟩)] (wr.alloc (.cells #[.int .i64 ((k : Int) + 1), .int .i64 ((j : Int) + 1), .int .i64 ((i : Int) + 1)] 2)) fun e w' => e = .returned (.tuple #[]) ∧ CB w0 p (L ++ [itC i j k]) w') :=
                HADD.out L (itC i j k) wr _ _ (CG.c (by omega) (by omega) hltk) HC.out (below_alloc _ _) (Ints.lit3 wr _ _ _) HLN.out
              clear hL
              go_wp2_with (go_at_call 40; (with_reducible refine HCT.out.mono ?_); rintro e w5 ⟨rfl, hC5⟩)
              have HC5 := Lib.hid hC5
              clear hC5
              go_wp2_with fail
              go_roundw
              case rel => exact ⟨k + 1, by omega, by omega, by go_num, by rw [HSk.out]; exact HC5.out⟩
              case measure => (simp [intOf]; try omega)
            · obtain rfl : k = p.n := by omega
              go_wp2_with fail
              go_roundw
              case rel => exact ⟨j + 1, by omega, by omega, by go_num, by rw [HSj.out]; exact HC.out⟩
              case measure => (simp [intOf]; try omega)
        · obtain rfl : j = p.n := by omega
          go_wp2_with fail
          go_roundw
          case rel => exact ⟨i + 1, by omega, by go_num, by rw [HS.out]; exact HC.out⟩
          case measure => (simp [intOf]; try omega)
    · obtain rfl : i = p.n := by omega
      go_wp2_with fail
      go_loopw [10] (fun t wr => ∃ i : Nat, i ≤ p.n ∧ t = .int .i64 ((i : Int) + 1) ∧ CB w0 p (wA p.n p.n ++ w2A p i) wr) (fun t _ => p.n + 1 - (intOf t).toNat)
      case atStart => exact ⟨0, Nat.zero_le _, by go_num, by rw [show w2A p 0 = [] from rfl, List.append_nil]; exact HC.out⟩
      case round =>
        clear HC
        obtain ⟨i, hi, rfl, hC⟩ := hrel
        have HC := Lib.hid hC
        clear hC
        by_cases hlt : i < p.n
        · have HS := Lib.hid (w2A_succ p i)
          have hltI : (i : Int) + 1 ≤ (p.n : Int) := by omega
          go_wp2_with fail
          go_loopw [11] (fun t wr => ∃ j : Nat, i + 1 ≤ j ∧ j ≤ p.n ∧ t = .int .i64 ((j : Int) + 1) ∧ CB w0 p (wA p.n p.n ++ (w2A p i ++ w2 p i (j - (i + 1)))) wr) (fun t _ => p.n + 1 - (intOf t).toNat)
          case atStart => exact ⟨i + 1, Nat.le_refl _, by omega, by go_num, by rw [Nat.sub_self, show w2 p i 0 = [] from rfl, List.append_nil]; exact HC.out⟩
          case round =>
            clear HC
            obtain ⟨j, hij, hj, rfl, hC⟩ := hrel
            have HC := Lib.hid hC
            clear hC
            by_cases hltj : j < p.n
            · have HSj : Hid (wA p.n p.n ++ (w2A p i ++ w2 p i (j + 1 - (i + 1))) = (wA p.n p.n ++ (w2A p i ++ w2 p i (j - (i + 1)))) ++ [it2 p i j]) := by
                show _ = _
                rw [show j + 1 - (i + 1) = (j - (i + 1)) + 1 by omega, w2_succ, show i + 1 + (j - (i + 1)) = j by omega, app3]
              have HLN : Hid ((wA p.n p.n ++ (w2A p i ++ w2 p i (j - (i + 1)))).length ≤ 1000) := by
                show _ ≤ _
                simp only [List.length_append, w2_len]
                have := wA_len (n := p.n) (m := p.n) hn6 hn6
                have := w2A_len (p := p) (m := p.n) hn6 hn6
                have := w2A_len (p := p) (m := i) hn6 (by omega)
                omega
              obtain ⟨L, hL⟩ : ∃ L, wA p.n p.n ++ (w2A p i ++ w2 p i (j - (i + 1))) = L := ⟨_, rfl⟩
              rw [hL] at HC HSj HLN
              have hltJ : (j : Int) + 1 ≤ (p.n : Int) := by omega
              have hBr := HC.out.below
              have HBr := Lib.hid hBr
              have r7 := HVd.out.rk j (by omega)
              obtain ⟨m, hm⟩ : ∃ m : Nat, p.r j = (m : Int) := ⟨(p.r j).toNat, by omega⟩
              rw [hm] at r7
              obtain ⟨bo, oo, heo, hco⟩ := R1.out.at (j := j) (by show j < p.n; omega)
              obtain rfl : p1 = some ⟨bo, oo, none⟩ := by simpa using heo
              have HCO : Hid (w.cell? ⟨bo, oo + j, none⟩ = some (.int .i64 m)) := by show _ = _; rw [hco, ← hm]; rfl
              have KP : Hid (∀ wx, Below w0.heap.size w0 wx → wx.cell? ⟨w.heap.size, 0, none⟩ = some (.pointer (some ⟨pb, 0, none⟩)) ∧ wx.cell? ⟨pb, 0, none⟩ = some (.slice (some ⟨bo, oo, none⟩) p.n q1) ∧ wx.cell? ⟨bo, oo + j, none⟩ = some (.int .i64 m)) := fun wx hb =>
                ⟨(KEEP.out wx hb).1, (KEEP.out wx hb).2.1, below_cells (below_size G0.out hb) _ _ HCO.out⟩
              clear hBr
              obtain ⟨it, hit⟩ : ∃ it, it2 p i j = it := ⟨_, rfl⟩
              have HG : Hid (CG p it) := hit ▸ CG.two HVd.out (by omega) hltj
              have HW : Hid (it.1 = List.replicate m ((j : Int) + 1) ++ [(i : Int) + 1]) := by show _ = _; rw [← hit]; unfold it2; rw [hm]; rfl
              have HT2 : Hid ((it.2 : Int) = (m : Int) - 1) := by show _ = _; rw [← hit]; unfold it2; rw [hm]; simp only [Int.toNat_natCast]; omega
              rw [hit] at HSj
              have HAD : Hid (∀ (wy : World) (vx : Value), Below wr.heap.size wr wy → Ints wy wr.heap.size vx it.1 → Calls Try.prog 40 #[vx, .int .i64 ((m : Int) - 1), .pointer (some ⟨w.heap.size + 1, 0, none⟩), .pointer (some ⟨w.heap.size, 0, none⟩)] wy fun e w' => e = .returned (.tuple #[]) ∧ CB w0 p (L ++ [it]) w') := fun wy vx hb hx => by
                have h := HADD.out L it wr wy vx HG.out HC.out hb hx HLN.out
                rwa [HT2.out] at h
              have W1 : IntKind.i64.wrap ((j : Int) + 1 - 1) = (j : Int) := by rw [IntWalk.i64_in _ (by omega)]; omega
              have W4 : IntKind.i64.wrap (j : Int) = (j : Int) := IntWalk.i64_in _ (by omega)
              have W5 : (j : Int) < (p.n : Int) := by omega
              have W3 : IntKind.i64.wrap ((m : Int) - 1) = (m : Int) - 1 := IntWalk.i64_in _ (by omega)
              clear hL hm hco heo hit
              go_wp2_with fail
              go_region_held3 (fun wx => wx.cell? ⟨w.heap.size, 0, none⟩ = some (.pointer (some ⟨pb, 0, none⟩)) ∧ wx.cell? ⟨pb, 0, none⟩ = some (.slice (some ⟨bo, oo, none⟩) p.n q1) ∧ wx.cell? ⟨bo, oo + j, none⟩ = some (.int .i64 m))
                (first
                  | exact KP.out _ (below_size HBr.out (Below.refl _ _).drew)
                  | exact KP.out _ hC7.below
                  | exact KP.out _ (below_size HBr.out hK6)
                  | exact KP.out _ (below_size HBr.out hK5)
                  | exact KP.out _ (ball (below_size HBr.out hK5) _)
                  | exact KP.out _ (below_size HBr.out (below_alloc _ _).drew)
                  | exact KP.out _ (below_size HBr.out (below_alloc _ _)))
                (first
                  | ((go_at_call 41); (with_reducible refine (i_cpLetters ((j : Int) + 1) m _ (by omega)).mono ?_); (rintro e w5 ⟨u5, rfl, hI5, hB5⟩); (have hK5 : Below wr.heap.size wr w5 := (by first | exact below_size (Below.refl _ _).drew hB5 | exact below_size (below_alloc wr _).drew hB5)); (obtain ⟨a5, c5, rfl, _, _⟩ := hI5.rd.formN (n := m) (by simp)))
                  | ((go_at_call 40); (with_reducible refine (HAD.out _ _ hK6 (by rw [HW.out]; exact hI6)).mono ?_); (rintro e w7 ⟨rfl, hC7⟩))
                  | (obtain ⟨v6, w6, hr6, hI6, hB6⟩ := run_appI (w5.alloc (.cells #[.int .i64 ((i : Int) + 1)] 2)) 24 wr.heap.size _ _ ((hI5.mono (B' := wr.heap.size) (Nat.le_refl _)).below (below_alloc w5 _)) _ _ (Rd.lit1 w5 ((i : Int) + 1)) (by simp; omega) (by simp) (by have := hK5.size; simp; omega)
                     have hK6 : Below wr.heap.size wr w6 := (ball hK5 _).trans hB6
                     obtain ⟨a6, c6, rfl, _, _⟩ := hI6.rd.formN (n := m + 1) (by simp)
                     refine step_of_run rfl (.tmp 69) (.tmp 71) 24 rfl _ _ (by simp [Act.eval, Act.put]) (by simp [Act.eval, Act.put]) _ _ hr6 ?_)
                  | (obtain ⟨v6, w6, hr6, hI6, hB6⟩ := run_appI w5 24 wr.heap.size _ _ (hI5.mono (B' := wr.heap.size) (by simp)) (.slice (some ⟨wr.heap.size, 0, none⟩) 1 1) _ ((Rd.lit1 wr ((i : Int) + 1)).below (below_size (Below.refl _ _).drew hB5)) (by simp; omega) (by simp) hK5.size
                     have hK6 : Below wr.heap.size wr w6 := hK5.trans hB6
                     obtain ⟨a6, c6, rfl, _, _⟩ := hI6.rd.formN (n := m + 1) (by simp)
                     refine step_of_run rfl (.tmp 69) (.tmp 71) 24 rfl _ _ (by simp [Act.eval, Act.put]) (by simp [Act.eval, Act.put]) _ _ hr6 ?_))
              all_goals
                have HC7 := Lib.hid hC7
                clear hI5 hB5 hK5 hI6 hB6 hK6 hr6 hC7 KP HAD
                go_wp2_with fail
                go_roundw
                case rel => exact ⟨j + 1, by omega, by omega, by go_num, by rw [HSj.out]; exact HC7.out⟩
                case measure => (simp [intOf]; try omega)
            · obtain rfl : j = p.n := by omega
              go_wp2_with fail
              go_roundw
              case rel => exact ⟨i + 1, by omega, by go_num, by rw [HS.out]; exact HC.out⟩
              case measure => (simp [intOf]; try omega)
        · obtain rfl : i = p.n := by omega
          go_wp2_with fail
          go_loopw [12] (fun t wr => ∃ i : Nat, i ≤ p.n ∧ t = .int .i64 ((i : Int) + 1) ∧ CB w0 p ((wA p.n p.n ++ w2A p p.n) ++ w3A p i) wr) (fun t _ => p.n + 1 - (intOf t).toNat)
          case atStart => exact ⟨0, Nat.zero_le _, by go_num, by rw [show w3A p 0 = [] from rfl, List.append_nil]; exact HC.out⟩
          case round =>
            clear HC
            obtain ⟨i, hi, rfl, hC⟩ := hrel
            have HC := Lib.hid hC
            clear hC
            by_cases hlt : i < p.n
            · have HS := Lib.hid (w3A_succ p i)
              have hltI : (i : Int) + 1 ≤ (p.n : Int) := by omega
              go_wp2_with fail
              go_loopw [13] (fun t wr => ∃ j : Nat, i + 1 ≤ j ∧ j ≤ p.n ∧ t = .int .i64 ((j : Int) + 1) ∧ CB w0 p ((wA p.n p.n ++ w2A p p.n) ++ (w3A p i ++ w3 p i (j - (i + 1)))) wr) (fun t _ => p.n + 1 - (intOf t).toNat)
              case atStart => exact ⟨i + 1, Nat.le_refl _, by omega, by go_num, by rw [Nat.sub_self, show w3 p i 0 = [] from rfl, List.append_nil]; exact HC.out⟩
              case round =>
                clear HC
                obtain ⟨j, hij, hj, rfl, hC⟩ := hrel
                have HC := Lib.hid hC
                clear hC
                by_cases hltj : j < p.n
                · have HSj : Hid ((wA p.n p.n ++ w2A p p.n) ++ (w3A p i ++ w3 p i (j + 1 - (i + 1))) = ((wA p.n p.n ++ w2A p p.n) ++ (w3A p i ++ w3 p i (j - (i + 1)))) ++ [it3 p i j]) := by
                    show _ = _
                    rw [show j + 1 - (i + 1) = (j - (i + 1)) + 1 by omega, w3_succ, show i + 1 + (j - (i + 1)) = j by omega, app3]
                  have HLN : Hid (((wA p.n p.n ++ w2A p p.n) ++ (w3A p i ++ w3 p i (j - (i + 1)))).length ≤ 1000) := by
                    show _ ≤ _
                    simp only [List.length_append, w3_len]
                    have := wA_len (n := p.n) (m := p.n) hn6 hn6
                    have := w2A_len (p := p) (m := p.n) hn6 hn6
                    have := w3A_len (p := p) (m := i) hn6 (by omega)
                    omega
                  obtain ⟨L, hL⟩ : ∃ L, (wA p.n p.n ++ w2A p p.n) ++ (w3A p i ++ w3 p i (j - (i + 1))) = L := ⟨_, rfl⟩
                  rw [hL] at HC HSj HLN
                  have hltJ : (j : Int) + 1 ≤ (p.n : Int) := by omega
                  have hBr := HC.out.below
                  have HBr := Lib.hid hBr
                  have r7 := HVd.out.rk i (by omega)
                  obtain ⟨m, hm⟩ : ∃ m : Nat, p.r i = (m : Int) := ⟨(p.r i).toNat, by omega⟩
                  rw [hm] at r7
                  obtain ⟨bo, oo, heo, hco⟩ := R1.out.at (j := i) (by show i < p.n; omega)
                  obtain rfl : p1 = some ⟨bo, oo, none⟩ := by simpa using heo
                  have HCO : Hid (w.cell? ⟨bo, oo + i, none⟩ = some (.int .i64 m)) := by show _ = _; rw [hco, ← hm]; rfl
                  have KP : Hid (∀ wx, Below w0.heap.size w0 wx → wx.cell? ⟨w.heap.size, 0, none⟩ = some (.pointer (some ⟨pb, 0, none⟩)) ∧ wx.cell? ⟨pb, 0, none⟩ = some (.slice (some ⟨bo, oo, none⟩) p.n q1) ∧ wx.cell? ⟨bo, oo + i, none⟩ = some (.int .i64 m)) := fun wx hb =>
                    ⟨(KEEP.out wx hb).1, (KEEP.out wx hb).2.1, below_cells (below_size G0.out hb) _ _ HCO.out⟩
                  clear hBr
                  obtain ⟨it, hit⟩ : ∃ it, it3 p i j = it := ⟨_, rfl⟩
                  have HG : Hid (CG p it) := hit ▸ CG.three HVd.out (by omega) hltj
                  have HW : Hid (it.1 = ((j : Int) + 1) :: List.replicate m ((i : Int) + 1)) := by show _ = _; rw [← hit]; unfold it3; rw [hm]; rfl
                  have HT2 : Hid ((it.2 : Int) = 1) := by show _ = _; rw [← hit]; rfl
                  rw [hit] at HSj
                  have HAD : Hid (∀ (wy : World) (vx : Value), Below wr.heap.size wr wy → Ints wy wr.heap.size vx it.1 → Calls Try.prog 40 #[vx, .int .i64 1, .pointer (some ⟨w.heap.size + 1, 0, none⟩), .pointer (some ⟨w.heap.size, 0, none⟩)] wy fun e w' => e = .returned (.tuple #[]) ∧ CB w0 p (L ++ [it]) w') := fun wy vx hb hx => by
                    have h := HADD.out L it wr wy vx HG.out HC.out hb hx HLN.out
                    rwa [HT2.out] at h
                  obtain ⟨m0, m1, m2⟩ := KP.out _ HBr.out
                  obtain ⟨_, _, l0, l1⟩ := KEEP.out _ HBr.out
                  have l2 := World.block_lt_of_cell? wr _ m2
                  clear hL hm hco heo hit
                  go_wp2_with (first
                    | (go_at_call 41; (with_reducible refine (i_cpLetters ((i : Int) + 1) m _ (by omega)).mono ?_); rintro e w5 ⟨u5, rfl, hI5, hB5⟩; have hK5 : Below wr.heap.size wr w5 := below_size (below_alloc wr _) hB5; obtain ⟨a5, c5, rfl, _, _⟩ := hI5.rd.formN (n := m) (by simp))
                    | (go_at_call 40; (with_reducible refine (HAD.out _ _ hK6 (by rw [HW.out]; exact hI6)).mono ?_); rintro e w7 ⟨rfl, hC7⟩)
                    | (at_builtin; obtain ⟨v6, w6, hr6, hI6, hB6⟩ := run_appI w5 24 wr.heap.size (.slice (some ⟨wr.heap.size, 0, none⟩) 1 1) _ ((Ints.litC wr ((j : Int) + 1)).below hB5) _ _ hI5.rd (by simp) (by simp; omega) hK5.size; have hK6 : Below wr.heap.size wr w6 := hK5.trans hB6; rw [List.singleton_append] at hI6; obtain ⟨a6, c6, rfl, _, _⟩ := hI6.rd.formN (n := m + 1) (by simp); refine wp_of_run _ rfl _ _ _ rfl _ _ rfl rfl _ _ hr6 ?_))
                  all_goals
                    have HC7 := Lib.hid hC7
                    clear hC7 KP HAD
                    go_wp2_with fail
                    go_roundw
                    case rel => exact ⟨j + 1, by omega, by omega, by go_num, by rw [HSj.out]; exact HC7.out⟩
                    case measure => (simp [intOf]; try omega)
                · obtain rfl : j = p.n := by omega
                  go_wp2_with fail
                  go_roundw
                  case rel => exact ⟨i + 1, by omega, by go_num, by rw [HS.out]; exact HC.out⟩
                  case measure => (simp [intOf]; try omega)
            · obtain rfl : i = p.n := by omega
              go_wp2_with fail
              go_loopw [14] (fun t wr => ∃ i : Nat, i ≤ p.n ∧ t = .int .i64 ((i : Int) + 1) ∧ CB w0 p (((wA p.n p.n ++ w2A p p.n) ++ w3A p p.n) ++ w4 p i) wr) (fun t _ => p.n + 1 - (intOf t).toNat)
              case atStart => exact ⟨0, Nat.zero_le _, by go_num, by rw [show w4 p 0 = [] from rfl, List.append_nil]; exact HC.out⟩
              case round =>
                clear HC
                obtain ⟨i, hi, rfl, hC⟩ := hrel
                have HC := Lib.hid hC
                clear hC
                by_cases hlt : i < p.n
                · have HSj : Hid (((wA p.n p.n ++ w2A p p.n) ++ w3A p p.n) ++ w4 p (i + 1) = (((wA p.n p.n ++ w2A p p.n) ++ w3A p p.n) ++ w4 p i) ++ [it4 p i]) := by
                    show _ = _
                    rw [w4_succ, app2]
                  have HLN : Hid ((((wA p.n p.n ++ w2A p p.n) ++ w3A p p.n) ++ w4 p i).length ≤ 1000) := by
                    show _ ≤ _
                    simp only [List.length_append, w4_len]
                    have := wA_len (n := p.n) (m := p.n) hn6 hn6
                    have := w2A_len (p := p) (m := p.n) hn6 hn6
                    have := w3A_len (p := p) (m := p.n) hn6 hn6
                    omega
                  obtain ⟨L, hL⟩ : ∃ L, ((wA p.n p.n ++ w2A p p.n) ++ w3A p p.n) ++ w4 p i = L := ⟨_, rfl⟩
                  rw [hL] at HC HSj HLN
                  have hltI : (i : Int) + 1 ≤ (p.n : Int) := by omega
                  have hBr := HC.out.below
                  have HBr := Lib.hid hBr
                  have r7 := HVd.out.rk i hlt
                  obtain ⟨m, hm⟩ : ∃ m : Nat, p.r i = (m : Int) := ⟨(p.r i).toNat, by omega⟩
                  rw [hm] at r7
                  obtain ⟨bo, oo, heo, hco⟩ := R1.out.at (j := i) (by show i < p.n; omega)
                  obtain rfl : p1 = some ⟨bo, oo, none⟩ := by simpa using heo
                  have HCO : Hid (w.cell? ⟨bo, oo + i, none⟩ = some (.int .i64 m)) := by show _ = _; rw [hco, ← hm]; rfl
                  have KP : Hid (∀ wx, Below w0.heap.size w0 wx → wx.cell? ⟨w.heap.size, 0, none⟩ = some (.pointer (some ⟨pb, 0, none⟩)) ∧ wx.cell? ⟨pb, 0, none⟩ = some (.slice (some ⟨bo, oo, none⟩) p.n q1) ∧ wx.cell? ⟨bo, oo + i, none⟩ = some (.int .i64 m)) := fun wx hb =>
                    ⟨(KEEP.out wx hb).1, (KEEP.out wx hb).2.1, below_cells (below_size G0.out hb) _ _ HCO.out⟩
                  clear hBr
                  obtain ⟨it, hit⟩ : ∃ it, it4 p i = it := ⟨_, rfl⟩
                  have HG : Hid (CG p it) := hit ▸ CG.four HVd.out hlt
                  have HW : Hid (it.1 = List.replicate (m + 1) ((i : Int) + 1)) := by show _ = _; rw [← hit]; unfold it4; rw [hm]; rfl
                  have HT2 : Hid ((it.2 : Int) = 1) := by show _ = _; rw [← hit]; rfl
                  rw [hit] at HSj
                  have HAD : Hid (∀ (wy : World) (vx : Value), Below wr.heap.size wr wy → Ints wy wr.heap.size vx it.1 → Calls Try.prog 40 #[vx, .int .i64 1, .pointer (some ⟨w.heap.size + 1, 0, none⟩), .pointer (some ⟨w.heap.size, 0, none⟩)] wy fun e w' => e = .returned (.tuple #[]) ∧ CB w0 p (L ++ [it]) w') := fun wy vx hb hx => by
                    have h := HADD.out L it wr wy vx HG.out HC.out hb hx HLN.out
                    rwa [HT2.out] at h
                  have HSM : Hid (∀ wx, Calls Try.prog 41 #[.int .i64 ((i : Int) + 1), .int .i64 ((m : Int) + 1)] wx (RetInts wx (List.replicate (m + 1) ((i : Int) + 1)))) := fun wx => by
                    have h := i_cpLetters ((i : Int) + 1) (m + 1) wx (by omega)
                    rwa [show ((m + 1 : Nat) : Int) = (m : Int) + 1 by omega] at h
                  obtain ⟨m0, m1, m2⟩ := KP.out _ HBr.out
                  clear hL hm hco heo hit
                  go_wp2_with (first
                    | (go_at_call 41; (with_reducible refine (HSM.out _).mono ?_); rintro e w5 ⟨u5, rfl, hI5, hB5⟩; obtain ⟨a5, c5, rfl, _, _⟩ := hI5.rd.formN (n := m + 1) (by simp))
                    | (go_at_call 40; (with_reducible refine (HAD.out _ _ hB5 (by rw [HW.out]; exact hI5)).mono ?_); rintro e w7 ⟨rfl, hC7⟩))
                  all_goals
                    have HC7 := Lib.hid hC7
                    clear hC7 KP HAD
                    go_wp2_with fail
                    go_roundw
                    case rel => exact ⟨i + 1, by omega, by go_num, by rw [HSj.out]; exact HC7.out⟩
                    case measure => (simp [intOf]; try omega)
                · obtain rfl : i = p.n := by omega
                  obtain ⟨aL, cL, hcL, hCO⟩ := HC.out.list
                  have HFIN : Hid (CO w.heap.size w (.slice aL (((wA p.n p.n ++ w2A p p.n) ++ w3A p p.n) ++ w4 p p.n).length cL) p (cpL p) wr) := by
                    obtain ⟨S, h1, h2, h3⟩ := hCO
                    have e : ((wA p.n p.n ++ w2A p p.n) ++ w3A p p.n) ++ w4 p p.n = cpL p := by unfold cpL; simp only [List.append_assoc]
                    rw [e] at h1 ⊢
                    exact ⟨S, h1, fun k hk => ⟨by have := (h2 k hk).1; have := HSZ.out; omega, (h2 k hk).2⟩, below_size G0.out h3⟩
                  rw [HSZ.out] at hcL
                  generalize (((wA p.n p.n ++ w2A p p.n) ++ w3A p p.n) ++ w4 p p.n).length = nL at *
                  clear hCO
                  go_wp2_with fail
                  go_ret
                  exact ⟨_, rfl, HFIN.out⟩
--== end
end Go.Proofs.Ytiikoappknejgaa
namespace Go.Proofs.Ytiikoappknejgaa
set_option linter.unusedVariables false
set_option linter.unusedSimpArgs false
set_option maxRecDepth 100000
open Go.RowKit
end Go.Proofs.Ytiikoappknejgaa
namespace Go.Proofs.Ytiikoappknejgaa
set_option linter.unusedVariables false
set_option linter.unusedSimpArgs false
set_option maxRecDepth 100000
open Go.RowKit
end Go.Proofs.Ytiikoappknejgaa
namespace Go.Proofs.Ytiikoappknejgaa
set_option linter.unusedVariables false
set_option linter.unusedSimpArgs false
set_option maxRecDepth 100000
open Go.RowKit

--== plain
/-- what CriticalPairs returns: how many, their parts, the code -/
def cpN (p : Pres) : Nat := if validB p = true then (cpL p).length else 0
def cpF (p : Pres) : List (List Int) := if validB p = true then flC p (cpL p) else []
def cpK (p : Pres) : Int := if validB p = true then 0 else 1
theorem cp_yes {p : Pres} (h : validB p = true) : cpN p = (cpL p).length ∧ cpF p = flC p (cpL p) ∧ cpK p = 0 := ⟨if_pos h, if_pos h, if_pos h⟩
theorem cp_not {p : Pres} (h : validB p = false) : cpN p = 0 ∧ cpF p = [] ∧ cpK p = 1 := by unfold cpN cpF cpK; rw [h]; exact ⟨rfl, rfl, rfl⟩
/-- the join of a list of items: index and code -/
def jnC (p : Pres) (m : Nat) : List Itm → Nat → Int × Int
  | [], _ => (-1, 0)
  | it :: r, k => if collC p m (stepL p it.1 0) = 0 ∧ collC p m (stepL p it.1 it.2) = 0 then (if collL p m (stepL p it.1 0) = collL p m (stepL p it.1 it.2) then jnC p m r (k + 1) else ((k : Int), 0)) else (0, 3)
def cjI (p : Pres) (l : Int) : Int := if validB p = true then (if inB l 0 2000 = true then (jnC p l.toNat (cpL p) 0).1 else 0) else 0
def cjK (p : Pres) (l : Int) : Int := if validB p = true then (if inB l 0 2000 = true then (jnC p l.toNat (cpL p) 0).2 else 2) else 1
theorem cj_no {p : Pres} {l : Int} (h : validB p = false) : cjI p l = 0 ∧ cjK p l = 1 := by simp [cjI, cjK, h]
theorem cj_lim {p : Pres} {l : Int} (h : validB p = true) (h2 : inB l 0 2000 = false) : cjI p l = 0 ∧ cjK p l = 2 := by simp [cjI, cjK, h, h2]
theorem cj_go {p : Pres} {m : Nat} (h : validB p = true) (h2 : inB (m : Int) 0 2000 = true) : cjI p m = (jnC p m (cpL p) 0).1 ∧ cjK p m = (jnC p m (cpL p) 0).2 := by simp [cjI, cjK, h, h2]
theorem flC_at (p : Pres) (A B : List Itm) (it : Itm) (t : Nat) : (flC p (A ++ it :: B)).getD (A.length * 3 + t) [] = (pr3 p it ++ flC p B).getD t [] := by
  have e : flC p (A ++ it :: B) = flC p A ++ (pr3 p it ++ flC p B) := by simp [flC]
  rw [e, ← flC_len]
  exact gapp_at _ _ _ _
theorem coll_two (p : Pres) (m : Nat) (w : List Int) : collC p m w = 0 ∨ (collC p m w = 3 ∧ collN p m w = 0 ∧ collL p m w = []) := by
  cases h : colW p m w with
  | none => exact .inr (coll_none h)
  | some x => obtain ⟨u, f⟩ := x; exact .inl (coll_some h).1
theorem collL_n {p : Pres} {m : Nat} {w : List Int} (h : collC p m w = 0) : (collL p m w).length = p.n := by
  cases h2 : colW p m w with
  | none => rw [(coll_none h2).1] at h; exact absurd h (by decide)
  | some x => obtain ⟨u, f⟩ := x; rw [(coll_some h2).2.2]; exact vecL_len _ _
theorem CG.left {p : Pres} (hV : ValidP p) {it : Itm} (h : CG p it) : PosW p.n (stepL p it.1 0) ∧ (stepL p it.1 0).length ≤ 256 :=
  ⟨stepL_pos h.lt0 hV h.pos, by have := stepL_len h.lt0 hV h.pos; have := h.len; omega⟩
theorem CG.right {p : Pres} (hV : ValidP p) {it : Itm} (h : CG p it) : PosW p.n (stepL p it.1 it.2) ∧ (stepL p it.1 it.2).length ≤ 256 :=
  ⟨stepL_pos h.at' hV h.pos, by have := stepL_len h.at' hV h.pos; have := h.len; omega⟩
--== pairs
def RetT (w : World) (n : Nat) (F : List (List Int)) (c : Int) (e : Ending) (w' : World) : Prop := ∃ v, e = .returned (.tuple #[v, .int .i64 c]) ∧ OT w' (win w.heap.size w'.heap.size) v n F ∧ Below w.heap.size w w'
theorem CO.out {B : Nat} {w w0 w' : World} {v : Value} {p : Pres} {L : List Itm} (h : CO B w0 v p L w') (hB : w.heap.size ≤ B) : OT w' (win w.heap.size w'.heap.size) v L.length (flC p L) := by
  obtain ⟨S, h1, h2, _⟩ := h
  exact h1.mono fun k _ hk => ⟨by have := (h2 k hk).1; omega, (h2 k hk).2⟩
--== impl.CriticalPairs
set_option maxHeartbeats 2000000 in
theorem i_CriticalPairs (v1 v2 v3 : Value) (p : Pres) (w : World) (hp : RdP w v1 v2 v3 p) : Calls Try.prog 7 #[.agg #[v1, v2, v3]] w (RetT w (cpN p) (cpF p) (cpK p)) := by
  have HP := Lib.hid hp
  obtain ⟨p1, q1, rfl, _, _⟩ := hp.1.form
  obtain ⟨p2, q2, rfl, _, _⟩ := hp.2.1.form
  obtain ⟨p3, q3, rfl, _, _⟩ := hp.2.2.form
  have G0 := Lib.hid (below_alloc w (Obj.cells #[Value.slice p1 p.orders.length q1, Value.slice p2 p.powers.length q2, Value.slice p3 p.conj.length q3] 28))
  have X0 := Lib.hid (Bx.new w (Value.slice p1 p.orders.length q1) (Value.slice p2 p.powers.length q2) (Value.slice p3 p.conj.length q3))
  obtain ⟨cb, hc⟩ : ∃ cb, validB p = cb := ⟨_, rfl⟩
  have HCB := Lib.hid hc
  clear hp hc
  go_enter Try.func7, Try.ntmps7
  go_wp2_with fail
  generalize w.alloc (Obj.cells #[Value.slice p1 p.orders.length q1, Value.slice p2 p.powers.length q2, Value.slice p3 p.conj.length q3] 28) = w0 at *
  refine (i_IsPresentation _ _ _ p _ (HP.out.below G0.out)).mono ?_
  rintro e w1 ⟨rfl, hb⟩
  rw [HCB.out]
  have HB1 := Lib.hid hb
  clear hb
  cases cb with
  | false =>
    have HX := Lib.hid (cp_not HCB.out)
    have hB9 := below_size G0.out HB1.out
    go_wp2_with fail
    go_ret2
    exact ⟨_, ret_tup HX.out.2.2.symm, by rw [HX.out.1, HX.out.2.1]; exact OT.nil _ _, hB9⟩
  | true =>
    have HX := Lib.hid (cp_yes HCB.out)
    have PT := Lib.hid ((X0.out.below HB1.out X0.out.lt).ptr (HP.out.below (below_size G0.out HB1.out)))
    go_wp2_with fail
    refine (i_criticalPairs (validB_true.1 HCB.out) _ _ PT.out).mono ?_
    rintro e w2 ⟨v2, rfl, hC⟩
    have HO : Hid (OT w2 (win w.heap.size w2.heap.size) v2 (cpL p).length (flC p (cpL p))) := hC.out (below_size G0.out HB1.out).size
    have HB2 := Lib.hid (below_size (below_size G0.out HB1.out) hC.below)
    obtain ⟨a2, c2, rfl⟩ := hC.form
    clear hC
    generalize (cpL p).length = nl at *
    go_wp2_with fail
    go_ret2
    exact ⟨_, ret_tup HX.out.2.2.symm, by rw [HX.out.1, HX.out.2.1]; exact HO.out, HB2.out⟩
--== spec.CriticalPairs
set_option maxHeartbeats 2000000 in
theorem s_CriticalPairs (v1 v2 v3 : Value) (p : Pres) (w : World) (hp : RdP w v1 v2 v3 p) : Calls Try.prog 8 #[.agg #[v1, v2, v3]] w (RetT w (cpN p) (cpF p) (cpK p)) := by
  have HP := Lib.hid hp
  obtain ⟨p1, q1, rfl, _, _⟩ := hp.1.form
  obtain ⟨p2, q2, rfl, _, _⟩ := hp.2.1.form
  obtain ⟨p3, q3, rfl, _, _⟩ := hp.2.2.form
  have G0 := Lib.hid (below_alloc w (Obj.cells #[Value.slice p1 p.orders.length q1, Value.slice p2 p.powers.length q2, Value.slice p3 p.conj.length q3] 28))
  have X0 := Lib.hid (Bx.new w (Value.slice p1 p.orders.length q1) (Value.slice p2 p.powers.length q2) (Value.slice p3 p.conj.length q3))
  obtain ⟨cb, hc⟩ : ∃ cb, validB p = cb := ⟨_, rfl⟩
  have HCB := Lib.hid hc
  clear hp hc
  go_enter Try.func8, Try.ntmps8
  go_wp2_with fail
  generalize w.alloc (Obj.cells #[Value.slice p1 p.orders.length q1, Value.slice p2 p.powers.length q2, Value.slice p3 p.conj.length q3] 28) = w0 at *
  refine (s_IsPresentation _ _ _ p _ (HP.out.below G0.out)).mono ?_
  rintro e w1 ⟨rfl, hb⟩
  rw [HCB.out]
  have HB1 := Lib.hid hb
  clear hb
  cases cb with
  | false =>
    have HX := Lib.hid (cp_not HCB.out)
    have hB9 := below_size G0.out HB1.out
    go_wp2_with fail
    go_ret2
    exact ⟨_, ret_tup HX.out.2.2.symm, by rw [HX.out.1, HX.out.2.1]; exact OT.nil _ _, hB9⟩
  | true =>
    have HX := Lib.hid (cp_yes HCB.out)
    have m0 := below_cells HB1.out _ _ X0.out.c0
    have m1 := below_cells HB1.out _ _ X0.out.c1
    have m2 := below_cells HB1.out _ _ X0.out.c2
    go_wp2_with fail
    refine (s_l09Pairs (validB_true.1 HCB.out) _ _ _ _ (HP.out.below (below_size G0.out HB1.out))).mono ?_
    rintro e w2 ⟨v2, rfl, hC⟩
    have HO : Hid (OT w2 (win w.heap.size w2.heap.size) v2 (cpL p).length (flC p (cpL p))) := hC.out (below_size G0.out HB1.out).size
    have HB2 := Lib.hid (below_size (below_size G0.out HB1.out) hC.below)
    obtain ⟨a2, c2, rfl⟩ := hC.form
    clear hC m0 m1 m2
    generalize (cpL p).length = nl at *
    go_wp2_with fail
    go_ret2
    exact ⟨_, ret_tup HX.out.2.2.symm, by rw [HX.out.1, HX.out.2.1]; exact HO.out, HB2.out⟩
--== end
end Go.Proofs.Ytiikoappknejgaa
namespace Go.Proofs.Ytiikoappknejgaa
set_option linter.unusedVariables false
set_option linter.unusedSimpArgs false
set_option maxRecDepth 100000
open Go.RowKit

--== plain (sizes)
theorem cat_bd (b : Nat) : ∀ L : List (List Int), (∀ r ∈ L, r.length ≤ b) → (cat L).length ≤ L.length * b
  | [], _ => by simp [cat]
  | x :: L, h => by
    have h1 := cat_bd b L fun r hr => h r (List.mem_cons_of_mem _ hr)
    have h2 := h x List.mem_cons_self
    rw [show cat (x :: L) = x ++ cat L from rfl, List.length_append, List.length_cons, Nat.succ_mul]
    omega
theorem len_CriticalPairsN (p : Pres) : cpN p ≤ 1000000000 := by
  cases h : validB p with
  | false => rw [(cp_not h).1]; decide
  | true =>
    rw [(cp_yes h).1]
    have := cpL_len (validB_true.1 h).n6
    omega
theorem len_CriticalPairs (p : Pres) : (cat (cpF p)).length ≤ 1000000000 := by
  cases h : validB p with
  | false => rw [(cp_not h).2.1]; simp [cat]
  | true =>
    have hV := validB_true.1 h
    rw [(cp_yes h).2.1]
    have h1 := cpL_len hV.n6
    have h2 := cat_bd 256 (flC p (cpL p)) (fun r hr => by
      unfold flC at hr
      obtain ⟨it, hit, hr⟩ := List.mem_flatMap.1 hr
      have hg := cpL_good hV hit
      simp only [pr3, List.mem_cons, List.not_mem_nil, or_false] at hr
      rcases hr with rfl | rfl | rfl
      · have := hg.len; omega
      · exact (hg.left hV).2
      · exact (hg.right hV).2)
    rw [flC_len] at h2
    omega
--== marks
theorem OT.at0 {w : World} {S : Nat → Prop} {ao : Option Addr} {n cap : Nat} {F : List (List Int)} (h : OT w S (.slice ao n cap) n F) (hn : 0 < n) : ∃ g, ao = some ⟨g, 0, none⟩ := by
  obtain ⟨vs, T, h1, _⟩ := h
  rcases h1.2 with ⟨h2, h3⟩ | ⟨g, cap', cur, h2, _⟩
  · omega
  · simp only [Value.slice.injEq] at h2
    exact ⟨g, h2.1⟩
theorem OT.focus {w : World} {S : Nat → Prop} {g n cap : Nat} {F : List (List Int)} (h : OT w S (.slice (some ⟨g, 0, none⟩) n cap) n F) {j : Nat} (hj : j < n * 3) :
    ∃ r T, w.cell? ⟨g, j, none⟩ = some r ∧ O1 w T r (F.getD j []) ∧ (∀ k, T k → S k) ∧ ∀ w' d', ChgS T w w' → O1 w' T r d' → OT w' S (.slice (some ⟨g, 0, none⟩) n cap) n (F.set j d') := by
  obtain ⟨vs, T, h1, h0, h2, h3, h4, h5⟩ := h
  have hvl : vs.length = n * 3 := h1.1
  refine ⟨vs.getD j undef, T j, ?_, (h3 j hj).2, (h3 j hj).1, fun w' d' hC hO => ?_⟩
  · rw [h1.cellAt j hj, List.getD, List.getElem?_eq_getElem (by omega)]; rfl
  · refine ⟨vs, T, own_keepS h1 fun g' hg => hC.block g' (World.ownsRow.lt h1 g' hg).2 (h4 j hj g' hg), by rw [List.length_set]; exact h0, h2, fun i hi => ⟨(h3 i hi).1, ?_⟩, h4, h5⟩
    by_cases e : j = i
    · subst e
      rw [gset_self _ _ _ _ (by omega)]; exact hO
    · rw [gset_ne _ _ _ _ _ e]
      exact local_O1.chg (h3 i hi).2 hC fun k hk hk2 => h5 j i hj hi e k hk2 hk
theorem off2_bd {F : List (List Int)} (hc : (cat F).length ≤ 1000000000) (j : Nat) : off2 F j ≤ 1000000000 := Nat.le_trans (off2_le F j) hc
--== end
end Go.Proofs.Ytiikoappknejgaa
namespace Go.Proofs.Ytiikoappknejgaa
set_option linter.unusedVariables false
set_option linter.unusedSimpArgs false
set_option maxRecDepth 100000
open Go.RowKit
attribute [local go_sem ↓] Go.wp_at_zero Go.wp_at_succ

--== plain
theorem posB_of {n : Nat} {w : List Int} (h : PosW n w) : posB n w = true := by
  unfold posB
  rw [List.all_eq_true]
  intro x hx
  obtain ⟨j, hj, rfl⟩ := getD_of_mem hx 0
  obtain ⟨q, e, hq⟩ := h j hj
  rw [e]
  exact inB_true.2 ⟨by omega, by omega⟩
theorem cpL_len9 {p : Pres} (hV : ValidP p) {it : Itm} (h : it ∈ cpL p) : it.1.length ≤ 9 := by
  unfold cpL at h
  simp only [List.mem_append] at h
  rcases h with h | h | h | h
  · unfold wA wB wC at h
    simp only [List.mem_flatMap, List.mem_map, List.mem_range] at h
    obtain ⟨i, hi, d, hd, c, hc, rfl⟩ := h
    simp [itC]
  · unfold w2A w2 at h
    simp only [List.mem_flatMap, List.mem_map, List.mem_range] at h
    obtain ⟨i, hi, d, hd, rfl⟩ := h
    have := hV.rk (i + 1 + d) (by omega)
    simp [it2]; omega
  · unfold w3A w3 at h
    simp only [List.mem_flatMap, List.mem_map, List.mem_range] at h
    obtain ⟨i, hi, d, hd, rfl⟩ := h
    have := hV.rk i (by omega)
    simp [it3]; omega
  · unfold w4 at h
    simp only [List.mem_map, List.mem_range] at h
    obtain ⟨i, hi, rfl⟩ := h
    have := hV.rk i hi
    simp [it4]; omega
/-- the word of pair i steps to the left word, at index 0 -/
theorem cp_step {p : Pres} (hV : ValidP p) {i : Nat} (hi : i < (cpL p).length) : ∃ w l r, (flC p (cpL p)).getD (i * 3 + 0) [] = w ∧ (flC p (cpL p)).getD (i * 3 + 1) [] = l ∧ (flC p (cpL p)).getD (i * 3 + 2) [] = r ∧ csK p w = 0 ∧ csT p w = 0 ∧ csL p w = l := by
  obtain ⟨A, it, B, hAB, hA⟩ : ∃ A it B, cpL p = A ++ it :: B ∧ A.length = i := ⟨(cpL p).take i, (cpL p)[i], (cpL p).drop (i + 1), by rw [← List.drop_eq_getElem_cons hi, List.take_append_drop], by rw [List.length_take]; omega⟩
  have hG : CG p it := cpL_good hV (by rw [hAB]; simp)
  have h9 : it.1.length ≤ 9 := cpL_len9 hV (by rw [hAB]; simp)
  have hpos : posV p it.1 = true := by
    unfold posV
    rw [validB_true.2 hV, posM_in (by omega), posB_of hG.pos]; rfl
  have hf : firstR p.orders it.1 = ((0 : Nat) : Int) := firstR_some hG.lt0 hG.r0 fun i hi => by omega
  obtain ⟨h1, h2, h3⟩ := cs_at hpos hf
  have e : ∀ t, (flC p (cpL p)).getD (i * 3 + t) [] = (pr3 p it ++ flC p B).getD t [] := fun t => by
    have := flC_at p A B it t
    rw [← hAB, hA] at this
    exact this
  exact ⟨it.1, stepL p it.1 0, stepL p it.1 it.2, e 0, e 1, e 2, h1, h2, h3⟩
--== spec.DrawCriticalPairs
def DrawC (w : World) (e : Ending) (w' : World) : Prop := ∃ p v1 v2 v3, e = .returned (.agg #[v1, v2, v3]) ∧ RdP w' v1 v2 v3 p ∧ Below w.heap.size w w'
set_option maxHeartbeats 4000000 in
theorem s_DrawCriticalPairs (v : Value) (n : Nat) (w : World) (h : RdU w v n) (hn : n ≤ 1000000) : Calls Try.prog 6 #[v] w (DrawC w) := by
  have g0 := below_alloc w (Obj.cells #[Value.slice none 0 0, Value.slice none 0 0, Value.slice none 0 0] 28)
  have x0 := Bx.new w (Value.slice none 0 0) (Value.slice none 0 0) (Value.slice none 0 0)
  have z0 : (w.alloc (Obj.cells #[Value.slice none 0 0, Value.slice none 0 0, Value.slice none 0 0] 28)).heap.size = w.heap.size + 1 := by simp
  have HR := Lib.hid (h.below g0 (Nat.le_refl _))
  clear h
  go_enter Try.func6, Try.ntmps6
  go_wp2_with fail
  generalize w.alloc (Obj.cells #[Value.slice none 0 0, Value.slice none 0 0, Value.slice none 0 0] 28) = w1 at *
  refine (s_l01From v n w1 HR.out hn).mono ?_
  rintro e w2 ⟨b, rfl, hS2⟩
  have hb2 := hS2.be
  have hlo := hS2.lo
  have hs2 := hS2.be.size
  have HS2 := Lib.hid hS2
  clear hS2
  go_wp2_with fail
  refine (s_l08Draw w2 HS2.out).mono ?_
  rintro e w3 ⟨p, v1, v2, v3, -, rfl, hP, hS3, hC3⟩
  obtain ⟨⟨a1, c1, rfl⟩, ⟨a2, c2, rfl⟩, ⟨a3, c3, rfl⟩⟩ := hP.forms
  have x3 := x0.below hS3.be (by omega)
  have g3 := below_size g0 hS3.be
  have q0 := x3.c0
  have q1 := x3.c1
  have q2 := x3.c2
  have f0 := x3.fr 0
  have f1 := x3.fr 1
  have f2 := x3.fr 2
  have nb : ¬ win w2.heap.size w3.heap.size w.heap.size := fun hh => by have := hh.1; omega
  have HO := Lib.hid (OP.sets (OP.sets (OP.sets hP nb 0 (Value.slice a1 p.orders.length c1)) nb 1 (Value.slice a2 p.powers.length c2)) nb 2 (Value.slice a3 p.conj.length c3))
  have HB := Lib.hid (set3B g3 (Nat.le_refl _) (Value.slice a1 p.orders.length c1) (Value.slice a2 p.powers.length c2) (Value.slice a3 p.conj.length c3))
  clear x3 g3 hP hS3 hC3 x0 g0
  go_wp2_with fail
  exact bodyPost_ret (v := .agg #[Value.slice a1 p.orders.length c1, Value.slice a2 p.powers.length c2, Value.slice a3 p.conj.length c3]) (by simp [results, Try.results6, go_sem, q0, q1, q2]) rfl ⟨p, _, _, _, rfl, HO.out.rd, HB.out⟩
--== end
end Go.Proofs.Ytiikoappknejgaa
namespace Go.Proofs.Ytiikoappknejgaa
set_option linter.unusedVariables false
set_option linter.unusedSimpArgs false
set_option maxRecDepth 100000
open Go.RowKit

theorem codeOf_word {k : Int} {xs : List Int} (h : isWordB k xs = true) : codeOf k [xs] = 0 := by
  unfold isWordB at h
  rw [Bool.and_eq_true] at h
  rw [codeOf_in _ h.1]
  simp [h.2]
theorem rd_formN {w : World} {v : Value} {xs : List Int} (h : Rd w v xs) {n : Nat} (e : xs.length = n) : ∃ ao cap, v = .slice ao n cap ∧ n ≤ cap ∧ cap ≤ 9223372036854775807 := by subst e; exact h.form
--== laws.big
theorem l_big (v : Value) (n : Nat) (w : World) (h : RdU w v n) : Calls Try.prog 5 #[v] w fun e w' => e = .returned (.bool (decide (4096 < n))) ∧ w = w' := by
  obtain ⟨ao, cap, rfl, h1, h2, _⟩ := h
  by_cases hb : 4096 < n
  · rw [decide_eq_true hb]
    go_enter Try.func5, Try.ntmps5
    go_wp2
    go_ret
    exact ⟨ret_bool (decide_eq_true (by omega)), rfl⟩
  · rw [decide_eq_false hb]
    go_enter Try.func5, Try.ntmps5
    go_wp2
    go_ret
    exact ⟨ret_bool (decide_eq_false (by omega)), rfl⟩
--== laws.likeInts
set_option maxHeartbeats 400000 in
theorem l_likeInts (va vb : Value) (xs ys : List Int) (w : World) (ha : Rd w va xs) (hb : Rd w vb ys) :
    Calls Try.prog 9 #[va, vb] w (RetQuiet w (.bool (decide (xs = ys)))) := by
  obtain ⟨ao, cap, rfl, ha1, ha2, _, hA⟩ := ha
  obtain ⟨bo, cap', rfl, hb1, hb2, _, hB⟩ := hb
  by_cases hl : xs.length = ys.length
  · have HL := Lib.hid hl
    have hl1 : ((xs.length : Int) != ys.length) = false := by simp [hl]
    have hl2 : xs.length ≤ ys.length := by omega
    have hl3 : ys.length ≤ xs.length := by omega
    clear hl
    go_enter Try.func9, Try.ntmps9
    go_wp2
    go_loopw [5] (fun i wr => ∃ k : Nat, k ≤ xs.length ∧ i = .int .i64 k ∧ (∀ j, j < k → xs.getD j 0 = ys.getD j 0) ∧ ∃ n, wr = w.drewN n) (fun i _ => xs.length - (intOf i).toNat)
    case atStart => exact ⟨0, Nat.zero_le _, rfl, fun j h => by omega, 0, rfl⟩
    case round =>
      obtain ⟨k, hk, rfl, hpre, n, rfl⟩ := hrel
      have HP := Lib.hid hpre
      clear hpre
      by_cases hlt : k < xs.length
      · rcases hA with hA | ⟨b, off, rfl, hA⟩
        · omega
        rcases hB with hB | ⟨b', off', rfl, hB⟩
        · omega
        have hA' := hA k hlt
        have hB' := hB k (by omega)
        clear hA hB
        by_cases hab : xs.getD k 0 = ys.getD k 0
        · have HAB := Lib.hid hab
          rw [← hab] at hB'
          clear hab
          have HX : Hid (∀ j, j < k + 1 → xs.getD j 0 = ys.getD j 0) := fun j hj => by
            by_cases h : j < k
            · exact HP.out j h
            · obtain rfl : j = k := by omega
              exact HAB.out
          clear HP HAB
          generalize xs.getD k 0 = x at hA' hB'
          go_wp2
          go_quiet (fail)
          go_wp2
          go_roundw
          case rel => exact ⟨k + 1, by omega, by go_num, HX.out, by first | exact ⟨_, rfl⟩ | exact drewN_drewN _ _ _⟩
          case measure => simp [intOf]; omega
        · have HAB := Lib.hid hab
          have hab1 : (xs.getD k 0 != ys.getD k 0) = true := by simpa using hab
          clear hab HP
          have HX : Hid (decide (xs = ys) = false) := decide_eq_false fun e => HAB.out (by rw [e])
          clear HAB
          generalize xs.getD k 0 = x at hA' hab1
          generalize ys.getD k 0 = y at hB' hab1
          go_wp2
          go_quiet (fail)
          go_wp2
          go_ret
          exact ⟨ret_bool HX.out.symm, by first | exact ⟨_, rfl⟩ | exact drewN_drewN _ _ _⟩
      · go_wp2
        go_ret
        exact ⟨ret_bool (decide_eq_true (all_eq HL.out fun j hj => HP.out j (by omega))).symm, n, rfl⟩
  · have HL := Lib.hid hl
    have hl1 : ((xs.length : Int) != ys.length) = true := by simp; omega
    clear hl
    go_enter Try.func9, Try.ntmps9
    go_wp2
    go_ret
    exact ⟨ret_bool (decide_eq_false fun e => HL.out (by rw [e])).symm, 0, rfl⟩
theorem l_like (va vb : Value) (xs ys : List Int) (w : World) (ha : Rd w va xs) (hb : Rd w vb ys) : Calls Try.prog 9 #[va, vb] w (RetV w (.bool (decide (xs = ys)))) :=
  (l_likeInts va vb xs ys w ha hb).mono fun _ _ h => h.below
theorem l_like_same (va vb : Value) (xs : List Int) (w : World) (ha : Rd w va xs) (hb : Rd w vb xs) : Calls Try.prog 9 #[va, vb] w (RetV w (.bool true)) :=
  (l_like va vb xs xs w ha hb).mono fun _ _ h => by rwa [decide_eq_true rfl] at h
end Go.Proofs.Ytiikoappknejgaa
namespace Go.Proofs.Ytiikoappknejgaa
set_option linter.unusedVariables false
set_option linter.unusedSimpArgs false
set_option maxRecDepth 100000
open Go.ChangeShapes Go.WideShapes Go.ChangeAt Go.RowKit

section
variable {H : Type} {enc : TypeId × Value → H} {w : World} {fuel : Nat} {v : Value}
theorem rd_addr {a : Addr} {u : Value} (h : w.cell? (a.add 0) = some u) : ∃ b off, a = ⟨b, off, none⟩ := by
  obtain ⟨b, off, spot⟩ := a
  have hspot : spot = none := by simpa [Addr.add] using World.cell?_spot h
  subst hspot
  exact ⟨b, off, rfl⟩
theorem rd1_of {x : DataW H × List MemPlace} (h : DataW.trod enc Try.prog w 0 (fun _ => true) true fuel 24 [v] = some x) : ∃ xs, Rd w v xs := by
  rcases open_ints Try.underlying24 Try.underlying2 (by kernel_rfl) h with ⟨hcs, _⟩ | ⟨a, l, c, zs, hcs, _, hl, hm, hz, _, hcell, hwz⟩
  · obtain rfl : v = .slice none 0 0 := by simpa using hcs
    exact ⟨[], Rd.nil w⟩
  · obtain rfl : v = .slice (some a) l c := by simpa using hcs
    have hz' : zs.length = c := by simpa using hz
    have : IsRow .i64 w (some a) l c zs := .inr ⟨a, rfl, hl, hm, hz', hcell, hwz⟩
    exact ⟨_, this.rd⟩
theorem rd2_of {x : DataW H × List MemPlace} (h : DataW.trod enc Try.prog w 0 (fun _ => true) true fuel 25 [v] = some x) : ∃ xss, Rd2 w v xss := by
  rcases Go.Deep.open_slice1 Try.underlying25 (by kernel_rfl) h with ⟨hcs, _⟩ | ⟨a, len, cap, m, n, V, D, Pl, hcs, _, hl, hm, hmm, _, hx⟩
  · obtain rfl : v = .slice none 0 0 := by simpa using hcs
    exact ⟨[], Rd2.nil w⟩
  · obtain rfl : v = .slice (some a) len cap := by simpa using hcs
    simp only [if_true] at hmm
    subst hmm
    obtain ⟨X, hX⟩ := Go.Deep.choose_lt (α := List Int) (p := fun i xs => Rd w (V i) xs) (fun i hi => rd1_of (hx i hi).2)
    refine ⟨(List.range len).map X, (List.range len).map V, ⟨some a, m, by simp, by simpa using hl, by unfold maxLen at hm; omega, fun h => by (cases h), ?_⟩, by simp, fun i hi => ?_⟩
    · by_cases h0 : len = 0
      · exact .inl (by simpa using h0)
      · obtain ⟨b, off, rfl⟩ := rd_addr (hx 0 (by omega)).1
        refine .inr ⟨b, off, rfl, fun j hj => ?_⟩
        simp only [List.length_map, List.length_range] at hj
        have := (hx j (by omega)).1
        rw [Addr.add_lit] at this
        rw [this, List.getElem?_map, List.getElem?_range hj]; rfl
    · simp only [List.length_map, List.length_range] at hi
      simp only [List.getD_eq_getElem?_getD, List.getElem?_map, List.getElem?_range hi, Option.map_some, Option.getD_some]
      exact hX i (by omega)
theorem rd3_of {x : DataW H × List MemPlace} (h : DataW.trod enc Try.prog w 0 (fun _ => true) true fuel 26 [v] = some x) : ∃ xss, Rd3 w v xss := by
  rcases Go.Deep.open_slice1 Try.underlying26 (by kernel_rfl) h with ⟨hcs, _⟩ | ⟨a, len, cap, m, n, V, D, Pl, hcs, _, hl, hm, hmm, _, hx⟩
  · obtain rfl : v = .slice none 0 0 := by simpa using hcs
    exact ⟨[], Rd3.nil w⟩
  · obtain rfl : v = .slice (some a) len cap := by simpa using hcs
    simp only [if_true] at hmm
    subst hmm
    obtain ⟨X, hX⟩ := Go.Deep.choose_lt (α := List (List Int)) (p := fun i xs => Rd2 w (V i) xs) (fun i hi => rd2_of (hx i hi).2)
    refine ⟨(List.range len).map X, (List.range len).map V, ⟨some a, m, by simp, by simpa using hl, by unfold maxLen at hm; omega, fun h => by (cases h), ?_⟩, by simp, fun i hi => ?_⟩
    · by_cases h0 : len = 0
      · exact .inl (by simpa using h0)
      · obtain ⟨b, off, rfl⟩ := rd_addr (hx 0 (by omega)).1
        refine .inr ⟨b, off, rfl, fun j hj => ?_⟩
        simp only [List.length_map, List.length_range] at hj
        have := (hx j (by omega)).1
        rw [Addr.add_lit] at this
        rw [this, List.getElem?_map, List.getElem?_range hj]; rfl
    · simp only [List.length_map, List.length_range] at hi
      simp only [List.getD_eq_getElem?_getD, List.getElem?_map, List.getElem?_range hi, Option.map_some, Option.getD_some]
      exact hX i (by omega)
end
theorem OP.formsE {w : World} {S : Nat → Prop} {v1 v2 v3 : Value} {p : Pres} (h : OP w S v1 v2 v3 p) :
    ∃ a1 n1 c1 a2 n2 c2 a3 n3 c3, v1 = .slice a1 n1 c1 ∧ v2 = .slice a2 n2 c2 ∧ v3 = .slice a3 n3 c3 := by
  obtain ⟨r1, r2, r3⟩ := h.rd
  obtain ⟨a1, c1, e1, _⟩ := r1.form
  obtain ⟨a2, c2, e2, _⟩ := r2.form
  obtain ⟨a3, c3, e3, _⟩ := r3.form
  exact ⟨a1, _, c1, a2, _, c2, a3, _, c3, e1, e2, e3⟩
end Go.Proofs.Ytiikoappknejgaa
namespace Go.Proofs.Ytiikoappknejgaa
set_option linter.unusedVariables false
set_option linter.unusedSimpArgs false
set_option maxRecDepth 100000
open Go.ChangeShapes Go.WideShapes Go.ChangeAt Go.RowKit

section
variable {H : Type} {enc : TypeId × Value → H} {w : World} {fuel : Nat} {v : Value}
theorem rdU_of {x : DataW H × List MemPlace} (h : DataW.trod enc Try.prog w 0 (fun _ => true) true fuel 22 [v] = some x) : ∃ n, RdU w v n := by
  rcases open_ints Try.underlying22 Try.underlying5 (by kernel_rfl) h with ⟨hcs, _⟩ | ⟨a, l, c, zs, hcs, _, hl, hm, hz, _, hcell, hwz⟩
  · obtain rfl : v = .slice none 0 0 := by simpa using hcs
    exact ⟨0, none, 0, rfl, by simp, by simp, .inl rfl⟩
  · obtain rfl : v = .slice (some a) l c := by simpa using hcs
    have hz' : zs.length = c := by simpa using hz
    refine ⟨l, some a, c, rfl, hl, by unfold maxLen at hm; omega, ?_⟩
    by_cases h0 : l = 0
    · exact .inl h0
    · have hc := hcell 0 (by omega)
      obtain ⟨b, off, rfl⟩ := rd_addr hc
      refine .inr ⟨b, off, rfl, fun j hj => ?_⟩
      have hj' := hcell j (by omega)
      rw [Addr.add_lit] at hj'
      have hw := hwz _ (getD_mem (xs := zs) (k := j) (by omega))
      have h1 : IntKind.u8.min = 0 := rfl
      have h2 : IntKind.u8.max = 255 := rfl
      simp only [Lit.wf, Bool.and_eq_true, decide_eq_true_eq] at hw
      refine ⟨(zs.getD j 0).toNat, by omega, ?_⟩
      rw [hj']
      congr 2
      omega
end
end Go.Proofs.Ytiikoappknejgaa
namespace Go.Proofs.Ytiikoappknejgaa.fnCriticalPairs
set_option linter.unusedVariables false
set_option linter.unusedSimpArgs false
set_option maxRecDepth 100000
open Go.RowKit

attribute [local go_sem ↓] Go.wp_at_zero Go.wp_at_succ
set_option maxHeartbeats 8000000 in
theorem core (v : Value) (n : Nat) (w : World) (h : RdU w v n) : Calls Try.prog 3 #[v] w (RetV w (.bool true)) := by
  by_cases hb : 4096 < n
  · have hd : decide (4096 < n) = true := decide_eq_true hb
    go_enter Try.func3, Try.ntmps3
    go_wp2_with fail
    refine (l_big v n w h).mono ?_
    rintro e w' ⟨rfl, rfl⟩
    rw [hd]
    go_wp2_with fail
    go_ret
    exact ⟨rfl, Below.refl _ _⟩
  · have hd : decide (4096 < n) = false := decide_eq_false hb
    have hn : n ≤ 1000000 := by omega
    clear hb
    go_enter Try.func3, Try.ntmps3
    go_wp2_with fail
    refine (l_big v n w h).mono ?_
    rintro e w' ⟨rfl, rfl⟩
    rw [hd]
    clear hd
    go_wp2_with fail
    refine (s_DrawCriticalPairs v n w h hn).mono ?_
    rintro e w1 ⟨p, v1, v2, v3, rfl, hP, hB1⟩
    obtain ⟨p1, q1, rfl, _, _⟩ := hP.1.form
    obtain ⟨p2, q2, rfl, _, _⟩ := hP.2.1.form
    obtain ⟨p3, q3, rfl, _, _⟩ := hP.2.2.form
    have g1 := below_alloc w1 (Obj.cells #[Value.slice p1 p.orders.length q1, Value.slice p2 p.powers.length q2, Value.slice p3 p.conj.length q3] 28)
    have x1 := Bx.new w1 (Value.slice p1 p.orders.length q1) (Value.slice p2 p.powers.length q2) (Value.slice p3 p.conj.length q3)
    have hP1 : RdP (w1.alloc (Obj.cells #[Value.slice p1 p.orders.length q1, Value.slice p2 p.powers.length q2, Value.slice p3 p.conj.length q3] 28)) _ _ _ p := ⟨hP.1.below g1, hP.2.1.below g1, hP.2.2.below g1⟩
    have HW1 := Lib.hid (below_size hB1 g1)
    have n0 := x1.c0
    have n1 := x1.c1
    have n2 := x1.c2
    have HP := Lib.hid hP1
    have HX := Lib.hid x1
    clear hP hB1 g1 hP1 h x1
    go_wp2_with fail
    generalize w1.alloc (Obj.cells #[Value.slice p1 p.orders.length q1, Value.slice p2 p.powers.length q2, Value.slice p3 p.conj.length q3] 28) = w2 at *
    generalize w1.heap.size = b3 at *
    have HIC := Lib.hid (fun wx (hx : RdP wx (Value.slice p1 p.orders.length q1) (Value.slice p2 p.powers.length q2) (Value.slice p3 p.conj.length q3) p) => i_CriticalPairs _ _ _ p wx hx)
    refine (HIC.out w2 HP.out).mono ?_
    rintro e w3 ⟨va, rfl, hA, hB3⟩
    have HA := Lib.hid hA.rt
    obtain ⟨aa, ac, rfl, _, _⟩ := HA.out.form
    have HW3 := Lib.hid (below_size HW1.out hB3)
    have HP3 : Hid (RdP w3 (Value.slice p1 p.orders.length q1) (Value.slice p2 p.powers.length q2) (Value.slice p3 p.conj.length q3) p) := ⟨HP.out.1.below hB3, HP.out.2.1.below hB3, HP.out.2.2.below hB3⟩
    have HX3 := Lib.hid (HX.out.below hB3 HX.out.lt)
    clear n0 n1 n2
    have n0 := HX3.out.c0
    have n1 := HX3.out.c1
    have n2 := HX3.out.c2
    clear hA hB3
    go_wp2_with fail
    refine (s_CriticalPairs _ _ _ p w3 HP3.out).mono ?_
    rintro e w4 ⟨vb, rfl, hB, hB4⟩
    have HBR := Lib.hid hB.rt
    obtain ⟨ba, bc, rfl, _, _⟩ := HBR.out.form
    have HA4 := Lib.hid (HA.out.below hB4)
    have HW4 := Lib.hid (below_size HW3.out hB4)
    have HP4 : Hid (RdP w4 (Value.slice p1 p.orders.length q1) (Value.slice p2 p.powers.length q2) (Value.slice p3 p.conj.length q3) p) := ⟨HP3.out.1.below hB4, HP3.out.2.1.below hB4, HP3.out.2.2.below hB4⟩
    have HX4 := Lib.hid (HX3.out.below hB4 HX3.out.lt)
    clear hB hB4 n0 n1 n2
    cases hvb : validB p with
    | false =>
      obtain ⟨e1, e2, e3⟩ := cp_not hvb
      rw [e1, e3]
      have hw := HW4.out
      go_wp2_with fail
      go_ret
      exact ⟨rfl, hw⟩
    | true =>
      have HV := Lib.hid (validB_true.1 hvb)
      obtain ⟨e1, e2, e3⟩ := cp_yes hvb
      rw [e1, e2] at HA4 HBR
      rw [e1, e3]
      have HST : Hid (∀ i, i < (cpL p).length → ∃ w l r, (flC p (cpL p)).getD (i * 3 + 0) [] = w ∧ (flC p (cpL p)).getD (i * 3 + 1) [] = l ∧ (flC p (cpL p)).getD (i * 3 + 2) [] = r ∧ csK p w = 0 ∧ csT p w = 0 ∧ csL p w = l) := fun i hi => cp_step HV.out hi
      obtain ⟨nl, hnl⟩ : ∃ nl, (cpL p).length = nl := ⟨_, rfl⟩
      have hnl3 : nl ≤ 300 := by rw [← hnl]; exact cpL_len HV.out.n6
      rw [hnl] at HA4 HBR HST ⊢
      generalize flC p (cpL p) = F at *
      clear hnl e1 e2 e3 HA hvb
      go_wp2_with fail
      go_loopw [8] (fun i wr => ∃ j : Nat, j ≤ nl ∧ i = .int .i64 j ∧ Below w4.heap.size w4 wr) (fun i _ => nl - (intOf i).toNat)
      case atStart => exact ⟨0, Nat.zero_le _, rfl, Below.refl _ _⟩
      case round =>
        obtain ⟨j, hj, rfl, hB⟩ := hrel
        by_cases hlt : j < nl
        · obtain ⟨b, off, rfl, hat⟩ := (HA4.out.below hB).at hlt
          obtain ⟨b', off', rfl, hbt⟩ := (HBR.out.below hB).at hlt
          obtain ⟨wd, lf, rt, ew, el, er, c1, c2, c3⟩ := HST.out j hlt
          have HC1 := Lib.hid c1
          have HC2 := Lib.hid c2
          have HC3 := Lib.hid c3
          clear c1 c2 c3
          obtain ⟨r0, hc0, hr0⟩ := hat 0 (by omega)
          obtain ⟨r1, hc1, hr1⟩ := hat 1 (by omega)
          obtain ⟨r2, hc2, hr2⟩ := hat 2 (by omega)
          obtain ⟨s0, hd0, hs0⟩ := hbt 0 (by omega)
          obtain ⟨s2, hd2, hs2⟩ := hbt 2 (by omega)
          rw [ew] at hr0 hs0
          rw [el] at hr1
          rw [er] at hr2 hs2
          rw [Nat.add_zero] at hc0 hd0
          obtain ⟨a0, z0, rfl, _, _⟩ := hr0.form
          obtain ⟨a1, z1, rfl, _, _⟩ := hr1.form
          obtain ⟨a2, z2, rfl, _, _⟩ := hr2.form
          obtain ⟨k0, y0, rfl, _, _⟩ := hs0.form
          obtain ⟨k2, y2, rfl, _, _⟩ := hs2.form
          obtain ⟨m0, hm0⟩ : ∃ m, wd.length = m := ⟨_, rfl⟩
          rw [hm0] at hc0 hd0
          have G := below_alloc wr (.cells #[.slice a0 m0 z0, .slice a1 lf.length z1, .slice a2 rt.length z2] 34)
          have RB := Lib.hid (Bq.new wr (.slice a0 m0 z0) (.slice a1 lf.length z1) (.slice a2 rt.length z2))
          have l9 := RB.out.lt
          have hBG := below_size hB G
          have X := (HX4.out.below hB HX4.out.lt).below G (HX4.out.below hB HX4.out.lt).lt
          have hd0' := below_cells G _ _ hd0
          have hd2' := below_cells G _ _ hd2
          have R0 := Lib.hid (hr0.below G)
          have S0 := Lib.hid (hs0.below G)
          have R1 := Lib.hid (hr1.below G)
          have R2 := Lib.hid (hr2.below G)
          have S2 := Lib.hid (hs2.below G)
          have n0 := X.c0
          have n1 := X.c1
          have n2 := X.c2
          have t0 := RB.out.c0
          have t1 := RB.out.c1
          have t2 := RB.out.c2
          have HBG := Lib.hid hBG
          rw [hm0] at R0 S0
          have HPG : Hid (RdP _ (Value.slice p1 p.orders.length q1) (Value.slice p2 p.powers.length q2) (Value.slice p3 p.conj.length q3) p) := ⟨HP4.out.1.below hBG, HP4.out.2.1.below hBG, HP4.out.2.2.below hBG⟩
          have HL : Hid (∀ (xs : List Int) (wx : World) (va vb : Value), Rd wx va xs → Rd wx vb xs → Calls Try.prog 9 #[va, vb] wx (RetQuiet wx (.bool true))) := fun xs wx va vb h1 h2 => by
            have := l_likeInts va vb xs xs wx h1 h2
            rwa [decide_eq_true rfl] at this
          have hj1 : (j : Int) < (nl : Int) := by omega
          clear hat hbt hd0 hd2 hr0 hr1 hr2 hs0 hs2 ew el er hBG hm0
          go_wp2_with fail
          clear hc0 hc1 hc2
          generalize wr.alloc (Obj.cells #[Value.slice a0 m0 z0, Value.slice a1 lf.length z1, Value.slice a2 rt.length z2] 34) = w5 at *
          generalize wr.heap.size = b9 at *
          go_quiet ((go_at_call 9; first | exact Calls.quiet_of (HL.out wd _ _ _ (Rd.drewN R0.out) (Rd.drewN S0.out)) | exact Calls.quiet_of (HL.out rt _ _ _ (Rd.drewN R2.out) (Rd.drewN S2.out))))
          go_wp2_with fail
          have BD := below_drewN (Below.refl w5.heap.size w5) nq
          refine (i_CollectStep _ _ _ p _ wd (w5.drewN nq) ⟨HPG.out.1.below BD, HPG.out.2.1.below BD, HPG.out.2.2.below BD⟩ (Rd.drewN R0.out)).mono ?_
          rintro e w6 ⟨u6, rfl, hI6, hB6⟩
          rw [HC3.out] at hI6
          rw [HC2.out, HC1.out]
          have hb56 := below_size BD hB6
          have t1' := (RB.out.below hb56 RB.out.lt).c1
          have R16 := Lib.hid (R1.out.below hb56)
          have HI6 := Lib.hid hI6.rd
          have hB0 := Lib.hid (below_size HBG.out hb56)
          obtain ⟨a6, c6, rfl, _, _⟩ := hI6.form
          clear hI6 hB6 hb56 BD n0 n1 n2 t0 t1 t2 hd0' hd2' l9 X G hB
          go_wp2_with fail
          refine (l_like_same _ _ lf w6 HI6.out R16.out).mono ?_
          rintro e w7 ⟨rfl, hB7⟩
          have hB8 := below_size hB0.out hB7
          clear hB7
          go_wp2_with fail
          go_roundw
          case rel => exact ⟨j + 1, by omega, by go_num, hB8⟩
          case measure => simp [intOf]; omega
        · obtain rfl : j = nl := by omega
          have hw := below_size HW4.out hB
          go_wp2_with fail
          go_ret
          exact ⟨rfl, hw⟩
end Go.Proofs.Ytiikoappknejgaa.fnCriticalPairs
