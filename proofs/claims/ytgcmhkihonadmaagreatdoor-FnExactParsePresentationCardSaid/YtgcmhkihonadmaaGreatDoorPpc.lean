/-
  Cutting a text at a byte: the reference's walk.
-/
import Derived.Test.YtgcmhkihonadmaaGreatDoorPpb
import Derived.Lib.Strings
namespace Go.Proofs.YtgcmhkihonadmaaGreatDoor
set_option linter.unusedVariables false
set_option linter.unusedSimpArgs false
set_option maxRecDepth 100000
open Go.RowKit Go.PlainAid

--== plain
theorem Strs.empty (w : World) : Strs (w.alloc (.cells #[] 9)) w.heap.size (.slice (some ⟨w.heap.size, 0, none⟩) 0 0) [] :=
  ⟨rfl, .inr ⟨w.heap.size, 0, #[], rfl, Nat.le_refl _, heap_alloc_new w _, Nat.le_refl _, by simp [maxLen], rfl, rfl⟩⟩
def RetStrs (w : World) (l : List Txt) (e : Ending) (w' : World) : Prop := ∃ v ss, e = .returned v ∧ Strs w' w.heap.size v ss ∧ ss.map (·.data.toList) = l ∧ Below w.heap.size w w'
theorem data_len (s : ByteArray) : s.data.toList.length = s.size := Array.length_toList
theorem drop_at {s : ByteArray} {i : Nat} (h : i < s.size) : ∃ x : UInt8, s.data.toList.drop i = x :: s.data.toList.drop (i + 1) ∧ bt s i = (x.toNat : Int) := by
  have hl : i < s.data.toList.length := by rw [data_len]; exact h
  refine ⟨s.data.toList[i], (List.drop_eq_getElem_cons hl), ?_⟩
  rw [← get_bt s i h]; rfl
theorem take_mid {l : Txt} {f i : Nat} {x : UInt8} (hf : f ≤ i) (h : l.drop i = x :: l.drop (i + 1)) : (l.drop f).take (i + 1 - f) = (l.drop f).take (i - f) ++ [x] := by
  have e : (l.drop f).drop (i - f) = x :: l.drop (i + 1) := by rw [List.drop_drop, show f + (i - f) = i by omega]; exact h
  have hx : (l.drop f)[i - f]? = some x := by
    have := congrArg (fun m => m[0]?) e
    simpa using this
  rw [show i + 1 - f = (i - f) + 1 by omega, List.take_add_one, hx]; rfl
--== spec.l01Split
set_option maxHeartbeats 4000000 in
theorem s_l01Split (s : ByteArray) (b : UInt8) (w : World) (hs : s.size ≤ 100000000) :
    Calls Tryz.prog 9 #[.string s, .int .u8 (b.toNat : Int)] w (RetStrs w (spl b s.data.toList)) := by
  have hb : b.toNat < 256 := b.toNat_lt
  have hE := Strs.empty w
  have hB0 := below_alloc w (Obj.cells #[] 9)
  go_enter Tryz.func9, Tryz.ntmps9
  go_wp2_with fail
  go_loopw [5, 6, 7] (fun u f t wr => ∃ (i k : Nat) (ss : List ByteArray), i ≤ s.size ∧ k ≤ i ∧ ss.length ≤ i ∧ t = .int .i64 i ∧ f = .int .i64 k ∧ Strs wr w.heap.size u ss ∧ Hid (splG b (ss.map (·.data.toList)) ((s.data.toList.drop k).take (i - k)) (s.data.toList.drop i) = spl b s.data.toList) ∧ Below w.heap.size w wr) (fun _ _ t _ => s.size - (intOf t).toNat)
  case atStart => exact ⟨0, 0, [], Nat.zero_le _, Nat.le_refl _, Nat.le_refl _, rfl, rfl, hE, rfl, hB0⟩
  case round =>
    clear hE hB0
    obtain ⟨i, k, ss, hi, hk, hl, rfl, rfl, hO, HS, hB⟩ := hrel
    have HB := Lib.hid hB
    have HO := Lib.hid hO
    obtain ⟨a4, q4, rfl, hcap⟩ := hO.form
    by_cases hlt : i < s.size
    · obtain ⟨x, hd, hx⟩ := drop_at hlt
      have HTM := Lib.hid (take_mid hk hd)
      have HSX : Hid (splG b (ss.map (·.data.toList)) ((s.data.toList.drop k).take (i - k)) (x :: s.data.toList.drop (i + 1)) = spl b s.data.toList) := by
        show _ = _
        rw [← hd]; exact HS.out
      by_cases hxb : x = b
      · have hq : (((s[i]'hlt).toNat : Int) == (b.toNat : Int)) = true := by rw [get_bt, hx, hxb]; exact beq_self_eq_true _
        obtain ⟨v6, w6, hr6, hO6, hB6⟩ := run_appStr wr w.heap.size _ ss HO.out (s.extract k i) (by omega) hB.size
        have HB6 := Lib.hid (HB.out.trans hB6)
        have HO6 := Lib.hid hO6
        clear hB hO hd hx HS hB6 hO6
        go_wp2_with (at_builtin; refine wp_of_run _ rfl _ _ _ rfl _ _ rfl rfl _ _ hr6 ?_)
        go_roundw
        case rel => exact ⟨i + 1, i + 1, ss ++ [s.extract k i], by omega, Nat.le_refl _, by rw [List.length_append]; simp; omega, by go_num, by go_num, HO6.out, by
          show _ = _
          rw [List.map_append, List.map_cons, List.map_nil, Lib.extract_data, Nat.sub_self, List.take_zero, ← HSX.out, hxb, splG_hit], HB6.out⟩
        case measure => (simp [intOf]; try omega)
      · have hq : (((s[i]'hlt).toNat : Int) == (b.toNat : Int)) = false := by
          rw [get_bt, hx, beq_eq_false_iff_ne]
          exact fun e => hxb (UInt8.toNat_inj.1 (by omega))
        clear hB hO hd hx HS
        go_wp2_with fail
        go_roundw
        case rel => exact ⟨i + 1, k, ss, by omega, by omega, by omega, by go_num, rfl, HO.out, by
          show _ = _
          rw [HTM.out, ← HSX.out, splG_miss hxb], HB.out⟩
        case measure => (simp [intOf]; try omega)
    · obtain rfl : i = s.size := by omega
      obtain ⟨v6, w6, hr6, hO6, hB6⟩ := run_appStr wr w.heap.size _ ss HO.out (s.extract k s.size) (by omega) hB.size
      have HB6 := Lib.hid (HB.out.trans hB6)
      have HX : Hid ((ss ++ [s.extract k s.size]).map (·.data.toList) = spl b s.data.toList) := by
        show _ = _
        have hd : s.data.toList.drop s.size = [] := List.drop_eq_nil_of_le (Nat.le_of_eq (data_len s))
        rw [← HS.out, List.map_append, List.map_cons, List.map_nil, Lib.extract_data, hd]; rfl
      have HO6 := Lib.hid hO6
      clear hB hO hB6 hO6
      go_wp2_with (at_builtin; refine wp_of_run _ rfl _ _ _ rfl _ _ rfl rfl _ _ hr6 ?_)
      go_ret
      exact ⟨_, _, rfl, HO6.out, HX.out, HB6.out⟩
--== end
end Go.Proofs.YtgcmhkihonadmaaGreatDoor
