/-
  The reference's sorting of prime powers.
-/
import Derived.Test.YtnedihpppbjmdaaGreatDoorAba
namespace Go.Proofs.YtnedihpppbjmdaaGreatDoor
set_option linter.unusedVariables false
set_option linter.unusedSimpArgs false
set_option maxRecDepth 100000
open Go.RowKit

/-- where the inner loop stands: x is to be laid into A ++ B, between the two -/
def InsI (P C : List Nat) (x : Nat) (j : Nat) (zs : List Nat) : Prop := ∃ A B, P = A ++ B ∧ zs = A ++ x :: (B ++ C) ∧ A.length = j ∧ ∀ y ∈ B, bef x y = true
theorem InsI.start (P C : List Nat) (x : Nat) : InsI P C x P.length (P ++ x :: C) := ⟨P, [], by simp, by simp, rfl, by simp⟩
theorem set_two (A T : List Nat) (a x : Nat) : ((A ++ a :: x :: T).set (A.length + 1) a).set A.length x = A ++ x :: a :: T := by
  rw [List.set_append_right _ _ (by omega), show A.length + 1 - A.length = 1 by omega, List.set_append_right _ _ (by omega), Nat.sub_self]
  rfl
theorem InsI.step {P C : List Nat} {x j : Nat} {zs : List Nat} (h : InsI P C x (j + 1) zs) (hb : bef x (zs.getD j 0) = true) :
    InsI P C x j ((zs.set (j + 1) (zs.getD j 0)).set j x) := by
  obtain ⟨A, B, rfl, rfl, hA, hB⟩ := h
  rcases List.eq_nil_or_concat A with rfl | ⟨A', a, rfl⟩
  · simp at hA
  · rw [List.concat_eq_append] at *
    have hj : A'.length = j := by simpa using hA
    have e1 : (A' ++ [a] ++ x :: (B ++ C)).getD j 0 = a := by
      rw [List.append_assoc, List.getD_eq_getElem?_getD, List.getElem?_append_right (by omega), ← hj, Nat.sub_self]; rfl
    rw [e1] at hb ⊢
    refine ⟨A', a :: B, by simp, ?_, hj, fun y hy => ?_⟩
    · rw [← hj, List.append_assoc, List.singleton_append, set_two]; simp
    · rcases List.mem_cons.1 hy with rfl | hy
      · exact hb
      · exact hB y hy
theorem InsI.len {P C : List Nat} {x j : Nat} {zs : List Nat} (h : InsI P C x j zs) : zs.length = P.length + 1 + C.length ∧ j ≤ P.length := by
  obtain ⟨A, B, rfl, rfl, hA, _⟩ := h
  simp; omega
theorem InsI.at {P C : List Nat} {x j : Nat} {zs : List Nat} (h : InsI P C x j zs) : zs.getD j 0 = x := by
  obtain ⟨A, B, rfl, rfl, hA, _⟩ := h
  rw [List.getD_eq_getElem?_getD, List.getElem?_append_right (by omega), ← hA, Nat.sub_self]; rfl
theorem InsI.perm {P C : List Nat} {x j : Nat} {zs : List Nat} (h : InsI P C x j zs) : zs.Perm (P ++ x :: C) := by
  obtain ⟨A, B, rfl, rfl, _, _⟩ := h
  rw [List.append_assoc]
  exact List.Perm.append_left A List.perm_middle.symm
theorem InsI.done {P C : List Nat} {x j : Nat} {zs : List Nat} (h : InsI P C x j zs) (hP : SortedP P) (he : j = 0 ∨ bef x (zs.getD (j - 1) 0) = false) : SortedP (zs.take (P.length + 1)) := by
  obtain ⟨A, B, rfl, rfl, hA, hB⟩ := h
  have e1 : (A ++ x :: (B ++ C)).take ((A ++ B).length + 1) = A ++ x :: B := by
    have : A ++ x :: (B ++ C) = (A ++ x :: B) ++ C := by simp
    rw [this, List.take_left' (by simp; omega)]
  rw [e1]
  obtain ⟨h1, h2, h3⟩ := List.pairwise_append.1 hP
  refine List.pairwise_append.2 ⟨h1, List.pairwise_cons.2 ⟨fun b hb => bef_asymm (hB b hb), h2⟩, fun a ha b hb => ?_⟩
  rcases List.mem_cons.1 hb with rfl | hb
  · rcases he with he | he
    · have : A = [] := List.eq_nil_of_length_eq_zero (by omega)
      subst this; simp at ha
    · rcases List.eq_nil_or_concat A with rfl | ⟨A', a', rfl⟩
      · simp at ha
      · rw [List.concat_eq_append] at *
        have hj : A'.length = j - 1 := by simp at hA; omega
        have e2 : (A' ++ [a'] ++ b :: (B ++ C)).getD (j - 1) 0 = a' := by
          rw [List.append_assoc, List.getD_eq_getElem?_getD, List.getElem?_append_right (by omega), ← hj, Nat.sub_self]; rfl
        rw [e2] at he
        rcases List.mem_append.1 ha with ha | ha
        · exact bef_ntrans he ((List.pairwise_append.1 h1).2.2 a ha a' (by simp))
        · obtain rfl := List.mem_singleton.1 ha; exact he
  · exact h3 a ha b hb
theorem nI_set (xs : List Nat) (j y : Nat) : (nI xs).set j (y : Int) = nI (xs.set j y) := by unfold nI; rw [List.map_set]
theorem nI_getD (xs : List Nat) (j : Nat) : (nI xs).getD j 0 = ((xs.getD j 0 : Nat) : Int) := by
  unfold nI
  rw [List.getD_eq_getElem?_getD, List.getElem?_map, List.getD_eq_getElem?_getD]
  cases xs[j]? <;> rfl
theorem getD_mem_nat {xs : List Nat} {j : Nat} (h : j < xs.length) : xs.getD j 0 ∈ xs := by
  rw [List.getD_eq_getElem?_getD, List.getElem?_eq_getElem h]; exact List.getElem_mem h
theorem split_at {xs : List Nat} {i : Nat} (h : i < xs.length) : xs = xs.take i ++ xs.getD i 0 :: xs.drop (i + 1) := by
  have h1 := List.take_append_drop i xs
  rw [List.drop_eq_getElem_cons h] at h1
  rw [List.getD_eq_getElem?_getD, List.getElem?_eq_getElem h]
  exact h1.symm
theorem perm_short {S T : List Nat} (h : T.Perm S) (hs : SortedP (T.take T.length)) : T = sortP S := sortP_uniq h (by rwa [List.take_length] at hs)
theorem sorted_short {T : List Nat} (h : T.length ≤ 1) : SortedP T := by
  match T, h with
  | [], _ => exact List.Pairwise.nil
  | [a], _ => exact List.pairwise_singleton _ _
--== spec.l05Sorted
set_option maxHeartbeats 8000000 in
theorem s_l05Sorted (v : Value) (S : List Nat) (w : World) (hv : Rd w v (nI S)) (hS : ∀ q ∈ S, PPw q) (hn : S.length ≤ 1000000) : Calls Tryz.prog 36 #[v] w (RetInts w (nI (sortP S))) := by
  have HS := Lib.hid hS
  have HV := Lib.hid hv
  obtain ⟨ao, cap, rfl, _, _⟩ := hv.form
  rw [nI_length] at *
  have HO : Hid (Calls Tryz.prog 51 #[.slice ao S.length cap] w (RetInts w (nI S))) := s_l01Own _ _ w HV.out (by rw [nI_length]; omega)
  by_cases h1 : S.length ≤ 1
  · have HE : Hid (sortP S = S) := (sortP_uniq (List.Perm.refl S) (sorted_short h1)).symm
    clear hv hS
    go_enter Tryz.func36, Tryz.ntmps36
    go_wp2_with fail
    refine HO.out.mono ?_
    rintro e w1 ⟨u, rfl, hI, hB⟩
    have HI := Lib.hid hI
    obtain ⟨a1, c1, rfl, _, _⟩ := rd_formN hI.rd (nI_length S)
    clear hI
    go_wp2_with fail
    refine wp_loop_rounds 1 ?_
    rw [rounds_succ]
    go_wp2_with fail
    go_ret
    exact ⟨_, rfl, by rw [HE.out]; exact HI.out, hB⟩
  · obtain ⟨n, hnn⟩ : ∃ n, S.length = n := ⟨_, rfl⟩
    have HN := Lib.hid hnn
    rw [hnn] at HO h1 hn ⊢
    clear hv hS HV hnn
    go_enter Tryz.func36, Tryz.ntmps36
    go_wp2_with fail
    refine HO.out.mono ?_
    rintro e w1 ⟨u, rfl, hI, hB⟩
    have HI := Lib.hid hI
    have HB := Lib.hid hB
    obtain ⟨a1, c1, he1, hc1, hc2⟩ := rd_formN hI.rd (n := n) (by rw [nI_length, HN.out])
    subst he1
    obtain ⟨g, rfl⟩ : ∃ g, a1 = some ⟨g, 0, none⟩ := by
      obtain ⟨g, cap', he, _⟩ := hI.open (by rw [nI_length, HN.out]; omega)
      cases he; exact ⟨_, rfl⟩
    have HG := Lib.hid (hI.lt g rfl)
    clear hI HO hB
    go_wp2_with fail
    go_loopw [4] (fun iv wr => ∃ (i : Nat) (ys : List Nat), iv = .int .i64 i ∧ 1 ≤ i ∧ i ≤ n ∧ ys.length = n ∧ ys.Perm S ∧ SortedP (ys.take i) ∧ Ints wr w.heap.size (.slice (some ⟨g, 0, none⟩) n c1) (nI ys) ∧ Below w.heap.size w wr) (fun iv _ => n - (intOf iv).toNat)
    case atStart => exact ⟨1, S, rfl, Nat.le_refl _, by omega, HN.out, List.Perm.refl _, sorted_short (by simp; omega), HI.out, HB.out⟩
    case round =>
      obtain ⟨i, ys, rfl, hi1, hin, hyl, hyp, hys, hI, hB⟩ := hrel
      have HYL := Lib.hid hyl
      have HYP := Lib.hid hyp
      have HYS := Lib.hid hys
      have HI2 := Lib.hid hI
      have HB2 := Lib.hid hB
      have hYQ : ∀ q ∈ ys, PPw q := fun q hq => HS.out q (hyp.mem_iff.1 hq)
      have HYQ := Lib.hid hYQ
      clear hyl hyp hys hI hB hYQ HI HB
      by_cases hlt : i < n
      · go_wp2_with fail
        obtain ⟨wo, hwo⟩ : ∃ x, x = wr := ⟨_, rfl⟩
        subst hwo
        go_loopw [5] (fun jv wq => ∃ (j : Nat) (zs : List Nat), jv = .int .i64 j ∧ j ≤ i ∧ InsI (ys.take i) (ys.drop (i + 1)) (ys.getD i 0) j zs ∧ Ints wq w.heap.size (.slice (some ⟨g, 0, none⟩) n c1) (nI zs) ∧ Below w.heap.size w wq) (fun jv _ => (intOf jv).toNat)
        case atStart =>
          refine ⟨i, ys, rfl, Nat.le_refl _, ?_, HI2.out, HB2.out⟩
          have h := InsI.start (ys.take i) (ys.drop (i + 1)) (ys.getD i 0)
          rw [← split_at (by rw [HYL.out]; exact hlt), List.length_take, HYL.out, Nat.min_eq_left (by omega)] at h
          exact h
        case round =>
          obtain ⟨j, zs, rfl, hj, hIns, hI, hB⟩ := hrel
          have HIns := Lib.hid hIns
          have hzl : zs.length = n := by
            have := hIns.len.1
            rw [List.length_take, List.length_drop, HYL.out] at this; omega
          have HZL := Lib.hid hzl
          have HZQ : Hid (∀ q ∈ zs, PPw q) := by
            intro q hq
            have h1 := hIns.perm.mem_iff.1 hq
            rw [← split_at (by rw [HYL.out]; exact hlt)] at h1
            exact HYQ.out q h1
          have HIz := Lib.hid hI
          have HBz := Lib.hid hB
          clear hIns hB hzl
          by_cases hj0 : j = 0
          · subst hj0
            have HD := Lib.hid (HIns.out.done HYS.out (.inl rfl))
            clear hI
            go_wp2_with fail
            apply via
            case h =>
              go_region
              all_goals exact ⟨rfl, rfl⟩
            go_wp2_with fail
            go_roundw
            case rel =>
              refine ⟨i + 1, zs, by go_num, by omega, by omega, HZL.out, ?_, ?_, HIz.out, HBz.out.drew⟩
              · have h := HIns.out.perm
                rw [← split_at (by rw [HYL.out]; exact hlt)] at h
                exact h.trans HYP.out
              · have h := HD.out
                rwa [List.length_take, HYL.out, Nat.min_eq_left (by omega)] at h
            case measure => simp [intOf]; omega
          · obtain ⟨k, rfl⟩ : ∃ k, j = k + 1 := ⟨j - 1, by omega⟩
            have hk1 : k + 1 < n := by omega
            obtain ⟨c1', f1'⟩ := hI.cell (by rw [nI_length, HZL.out]) (k + 1) hk1
            obtain ⟨c2', f2'⟩ := hI.cell (by rw [nI_length, HZL.out]) k (by omega)
            rw [nI_getD] at c1' c2'
            rw [HIns.out.at] at c1'
            have HX : Hid (PPw (ys.getD i 0)) := HYQ.out _ (getD_mem_nat (by rw [HYL.out]; exact hlt))
            have HA : Hid (PPw (zs.getD k 0)) := HZQ.out _ (getD_mem_nat (by rw [HZL.out]; omega))
            have HSET : Hid (Ints ((wr.setCell ⟨g, k + 1, none⟩ (.int .i64 ((zs.getD k 0 : Nat) : Int))).setCell ⟨g, k, none⟩ (.int .i64 ((ys.getD i 0 : Nat) : Int))) w.heap.size (.slice (some ⟨g, 0, none⟩) n c1) (nI ((zs.set (k + 1) (zs.getD k 0)).set k (ys.getD i 0))) ∧
                Below w.heap.size w ((wr.setCell ⟨g, k + 1, none⟩ (.int .i64 ((zs.getD k 0 : Nat) : Int))).setCell ⟨g, k, none⟩ (.int .i64 ((ys.getD i 0 : Nat) : Int)))) := by
              obtain ⟨a1, b1⟩ := hI.set (by rw [nI_length, HZL.out]) (k + 1) ((zs.getD k 0 : Nat) : Int)
              obtain ⟨a2, b2⟩ := a1.set (by rw [List.length_set, nI_length, HZL.out]) k ((ys.getD i 0 : Nat) : Int)
              rw [nI_set, nI_set] at a2
              have h0 := HG.out.1
              exact ⟨a2, (HBz.out.trans (b1.below h0 HBz.out.size)).trans (b2.below h0 (Nat.le_trans HBz.out.size b1.size))⟩
            have HST : Hid (bef (ys.getD i 0) (zs.getD k 0) = true → InsI (ys.take i) (ys.drop (i + 1)) (ys.getD i 0) k ((zs.set (k + 1) (zs.getD k 0)).set k (ys.getD i 0))) := fun h => HIns.out.step h
            have HDN : Hid (bef (ys.getD i 0) (zs.getD k 0) = false → SortedP (zs.take (i + 1))) := fun h => by
              have h2 := HIns.out.done HYS.out (.inr h)
              rwa [List.length_take, HYL.out, Nat.min_eq_left (by omega)] at h2
            have q1 : (0 : Int) ≤ (k : Int) + 1 := by omega
            have q2 : (k : Int) + 1 < (n : Int) := by omega
            have q3 : (0 : Int) ≤ (k : Int) := by omega
            have q4 : (k : Int) < (n : Int) := by omega
            have W2 : IntKind.i64.wrap (k : Int) = (k : Int) := IntWalk.i64_in _ (by omega)
            have W1 : IntKind.i64.wrap ((k : Int) + 1 - 1) = (k : Int) := by rw [show (k : Int) + 1 - 1 = (k : Int) by omega]; exact IntWalk.i64_in _ (by omega)
            clear hI
            generalize hx : ys.getD i 0 = x at *
            generalize ha : zs.getD k 0 = a at *
            have Hx := Lib.hid hx
            clear hx ha
            have HBF : Hid (∀ wx, Calls Tryz.prog 52 #[.int .i64 x, .int .i64 a] wx fun e w' => e = .returned (.bool (bef x a)) ∧ wx = w') := fun wx => s_l05Before x a HX.out HA.out wx
            obtain ⟨r, hr⟩ : ∃ r, bef x a = r := ⟨_, rfl⟩
            rw [hr] at HBF HST HDN
            clear hr
            cases r
            · go_wp2_with fail
              go_region_held3 (fun wx => wx.cell? ⟨g, k + 1, none⟩ = some (.int .i64 x) ∧ wx.cell? ⟨g, k, none⟩ = some (.int .i64 a))
                (first | exact ⟨c1', c2'⟩)
                (first | ((go_at_call 52); (with_reducible refine (HBF.out _).mono ?_); (rintro e w4 ⟨rfl, rfl⟩)))
              go_wp2_with fail
              go_roundw
              case rel =>
                refine ⟨i + 1, zs, by go_num, by omega, by omega, HZL.out, ?_, HDN.out trivial, HIz.out, HBz.out.drew⟩
                have h := HIns.out.perm
                rw [← Hx.out, ← split_at (by rw [HYL.out]; exact hlt)] at h
                exact h.trans HYP.out
              case measure => simp [intOf]; omega
            · go_wp2_with fail
              go_region_held3 (fun wx => wx.cell? ⟨g, k + 1, none⟩ = some (.int .i64 x) ∧ wx.cell? ⟨g, k, none⟩ = some (.int .i64 a))
                (first | exact ⟨c1', c2'⟩)
                (first | ((go_at_call 52); (with_reducible refine (HBF.out _).mono ?_); (rintro e w4 ⟨rfl, rfl⟩)))
              go_wp2_with fail
              go_roundw
              case rel => exact ⟨k, _, by go_num, by omega, HST.out trivial, HSET.out.1, HSET.out.2.drew⟩
              case measure => simp [intOf]
      · obtain rfl : i = n := by omega
        have HE : Hid (ys = sortP S) := sortP_uniq HYP.out (by have h := HYS.out; rwa [← HYL.out, List.take_length] at h)
        go_wp2_with fail
        go_ret
        exact ⟨_, rfl, by rw [← HE.out]; exact HI2.out, HB2.out⟩
end Go.Proofs.YtnedihpppbjmdaaGreatDoor
