/-
  The reference's numerals.
-/
import Derived.Test.YtnedihpppbjmdaaGreatDoorAgb
import Derived.PlainAid
import Derived.Lib.Hide
namespace Go.Proofs.YtnedihpppbjmdaaGreatDoor
set_option linter.unusedVariables false
set_option linter.unusedSimpArgs false
set_option maxRecDepth 100000
open Go.RowKit Go.PlainAid

theorem run_b2s1 (w : World) (y : Int) : (convert 22 9 (.slice (some ⟨w.heap.size, 0, none⟩) 1 1)).run Tryz.prog (w.alloc (.cells #[.int .u8 y] 5)) = .ok (.string (strOfNums [y])) (w.alloc (.cells #[.int .u8 y] 5)) := by
  refine run_convert_bytes_arg _ _ _ Tryz.underlying22 Tryz.underlying5 w.heap.size 0 1 1 [y] rfl (fun i hi => ?_) _ Tryz.underlying9
  obtain rfl : i = 0 := by omega
  simp
theorem run_b2sC (w : World) (g : Nat) (y : Int) (hc : w.cell? ⟨g, 0, none⟩ = some (.int .u8 y)) : (convert 22 9 (.slice (some ⟨g, 0, none⟩) 1 1)).run Tryz.prog w = .ok (.string (strOfNums [y])) w := by
  refine run_convert_bytes_arg _ _ _ Tryz.underlying22 Tryz.underlying5 g 0 1 1 [y] rfl (fun i hi => ?_) _ Tryz.underlying9
  obtain rfl : i = 0 := by omega
  exact hc
theorem num_str {d : Nat} (h : d < 10) : (strOfNums [48 + (d : Int)]).data.toList = [UInt8.ofNat (48 + d)] := by
  rw [strOfNums_data, List.map_cons, List.map_nil, show (48 + (d : Int)).toNat = 48 + d by omega]
--== spec.l01Dec
set_option maxHeartbeats 4000000 in
theorem s_l01Dec : ∀ (n : Nat) (w : World), n ≤ 1000000 → Calls Tryz.prog 39 #[.int .i64 (n : Int)] w (RetTx w (Lib.decDigits n)) := by
  intro n
  induction n using Nat.strongRecOn with
  | ind n ih =>
    intro w hn
    by_cases h : n < 10
    · have h1 : (n : Int) < 10 := by omega
      have HD : Hid ((strOfNums [48 + (n : Int)]).data.toList = Lib.decDigits n) := by
        show _ = _
        rw [num_str h, Lib.decDigits_one h]
      have hr := run_b2s1 w (48 + (n : Int))
      go_enter Tryz.func39, Tryz.ntmps39
      go_wp2_with fail
      go_ret
      exact ⟨_, rfl, HD.out, below_alloc w _⟩
    · have h1 : ¬ (n : Int) < 10 := by omega
      have HIH : Hid (∀ wx, Calls Tryz.prog 39 #[.int .i64 ((n / 10 : Nat) : Int)] wx (RetTx wx (Lib.decDigits (n / 10)))) := fun wx => ih (n / 10) (by omega) wx (by omega)
      have HD : Hid ((strOfNums [48 + ((n % 10 : Nat) : Int)]).data.toList = [UInt8.ofNat (48 + n % 10)]) := num_str (by omega)
      have HL : Hid (Lib.decDigits n = Lib.decDigits (n / 10) ++ [UInt8.ofNat (48 + n % 10)]) := dec_last h
      have HSZ : Hid ((Lib.decDigits (n / 10)).length ≤ 7) := dec_len8 (by omega)
      have e1 : (n : Int).tdiv 10 = ((n / 10 : Nat) : Int) := by rw [Int.tdiv_eq_ediv_of_nonneg (by omega)]; omega
      have e2 : (n : Int).tmod 10 = ((n % 10 : Nat) : Int) := by rw [Int.tmod_eq_emod_of_nonneg (by omega)]; omega
      have hd9 : n % 10 < 10 := by omega
      have hq9 : n / 10 ≤ 1000000 := by omega
      generalize hd : n % 10 = d at *
      generalize hq : n / 10 = q at *
      have W1 : IntKind.i64.wrap (q : Int) = (q : Int) := IntWalk.i64_in _ (by omega)
      have W2 : IntKind.i64.wrap (d : Int) = (d : Int) := IntWalk.i64_in _ (by omega)
      have W3 : IntKind.i64.wrap (48 + (d : Int)) = 48 + (d : Int) := IntWalk.i64_in _ (by omega)
      have W4 : IntKind.u8.wrap (48 + (d : Int)) = 48 + (d : Int) := IntWalk.u8_in _ (by omega)
      have hr := run_b2sC (w.alloc (.cells #[.int .u8 (48 + (d : Int))] 5)).drew w.heap.size (48 + (d : Int)) (by show (w.alloc (.cells #[.int .u8 (48 + (d : Int))] 5)).cell? _ = _; simp)
      have HC : Hid (∀ wx, Below (w.heap.size + 1) (w.alloc (.cells #[.int .u8 (48 + (d : Int))] 5)).drew wx → (convert 22 9 (.slice (some ⟨w.heap.size, 0, none⟩) 1 1)).run Tryz.prog wx = .ok (.string (strOfNums [48 + (d : Int)])) wx) := fun wx hb => run_b2sC wx w.heap.size _ ((hb.cell (Nat.lt_succ_self _)).trans (by show (w.alloc (.cells #[.int .u8 (48 + (d : Int))] 5)).cell? _ = _; simp))
      have HS1 : (w.alloc (.cells #[.int .u8 (48 + (d : Int))] 5)).drew.heap.size = w.heap.size + 1 := by show (w.alloc (.cells #[.int .u8 (48 + (d : Int))] 5)).heap.size = _; simp
      have HS2 := Lib.hid HS1
      clear HS1
      have HB0 : Hid (Below w.heap.size w (w.alloc (.cells #[.int .u8 (48 + (d : Int))] 5)).drew) := (below_alloc w _).drew
      have HR : Hid (∀ wx : World, (convert 22 9 (.slice (some ⟨wx.heap.size, 0, none⟩) 1 1)).run Tryz.prog (wx.alloc (.cells #[.int .u8 (48 + (d : Int))] 5)) = .ok (.string (strOfNums [48 + (d : Int)])) (wx.alloc (.cells #[.int .u8 (48 + (d : Int))] 5))) := fun wx => run_b2s1 wx _
      have hz1 : (strOfNums [48 + (d : Int)]).size = 1 := by rw [ba_size, HD.out]; rfl
      clear ih hd hq
      go_enter Tryz.func39, Tryz.ntmps39
      go_upto_region 3 with (fail)
      go_region_law (first
          | (go_simp; (go_at_call 39); (with_reducible refine (HIH.out (w.alloc (.cells #[.int .u8 (48 + (d : Int))] 5)).drew).mono ?_); (rintro e w5 ⟨s, rfl, hs, hB5⟩); (have hr5 := HC.out w5 (hB5.mono (Nat.le_of_eq HS2.out.symm))); (have hsz : s.size ≤ 7 := by (rw [ba_size, hs]; exact HSZ.out)); (have hlim : ¬ 9223372036854775807 < s.size + 1 := by omega); (have hbe : Below w.heap.size w w5 := below_size HB0.out hB5))
          | (go_simp; (go_at_call 39); (with_reducible refine (HIH.out _).mono ?_); (rintro e w5 ⟨s, rfl, hs, hB5⟩); (have hr5 := HR.out w5); (have hsz : s.size ≤ 7 := by (rw [ba_size, hs]; exact HSZ.out)); (have hlim : ¬ 9223372036854775807 < s.size + 1 := by omega); (have hbe : Below w.heap.size w (w5.alloc (.cells #[.int .u8 (48 + (d : Int))] 5)) := below_size (below_size (Below.refl _ _).drew hB5) (below_alloc _ _))))
      all_goals
        have HQ : Hid ((s ++ strOfNums [48 + (d : Int)]).data.toList = Lib.decDigits n) := by
          show _ = _
          rw [ba_app, hs, HD.out, HL.out]
        have HBE := Lib.hid hbe
        clear hbe hB5 hr5 hr hs
        go_wp2_with fail
        go_ret
        exact ⟨_, rfl, HQ.out, HBE.out⟩
end Go.Proofs.YtnedihpppbjmdaaGreatDoor
