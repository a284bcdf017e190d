/-
  Presentations whose relations are trivial.
-/
import Derived.Test.YthnpndheaailjaaOwn
namespace Go.Proofs.Ythnpndheaailjaa
set_option linter.unusedVariables false
set_option linter.unusedSimpArgs false
set_option maxRecDepth 100000
open Go.RowKit

--== slices.Clone
set_option maxHeartbeats 1000000 in
theorem f_Clone (v : Value) (xs : List Int) (w : World) (hv : Rd w v xs) (hs : xs.length ≤ 1000000) :
    Calls Try.prog 132 #[v] w (RetInts w xs) := by
  obtain ⟨i0, hi, hz0, hz1, hz2⟩ := info_parts Try.info2
  have hR := Lib.hid hv
  obtain ⟨ao, cap, rfl, hc1, hc2, h0, hA⟩ := hv
  cases ao with
  | none =>
    have hx : xs = [] := by have := h0 rfl; exact List.eq_nil_of_length_eq_zero (by omega)
    subst hx
    have hc : cap = 0 := h0 rfl
    subst hc
    have hq : ∀ w : World, (binOp .eql 22 (.slice none 0 0) (.slice none 0 0)).run Try.prog w = .ok (.bool true) w := fun w => run_eql_nil w _ _ _ _ _ Try.underlying22
    go_enter Try.func132, Try.ntmps132
    go_wp2
    go_ret
    exact ⟨_, rfl, Ints.nil _ _, Below.refl _ _⟩
  | some ad =>
    clear h0
    have hq : ∀ w : World, (binOp .eql 22 (.slice (some ad) xs.length cap) (.slice none 0 0)).run Try.prog w = .ok (.bool false) w := fun w => run_eql_nil w _ _ _ _ _ Try.underlying22
    go_enter Try.func132, Try.ntmps132
    go_wp2_with (at_builtin; refine wp_appN _ rfl _ _ rfl w.heap.size i0 Try.underlying22 hi hz0 hz1 hz2 _ [] rfl (Ints.empty w) _ xs rfl (hR.out.below (below_alloc _ _)) (by simp) (by omega) (by simp) ?_)
    intro v' w1 hI hG hB
    go_wp2
    go_ret
    exact ⟨_, rfl, by simpa using hI, (below_alloc _ _).trans hB⟩
--== units
def unitL (n k : Nat) : List Int := (List.replicate n (0 : Int)).set k 1
theorem unitL_length (n k : Nat) : (unitL n k).length = n := by simp [unitL]
--== impl.unitVector
set_option maxHeartbeats 1000000 in
theorem i_unitVector (n k : Nat) (w : World) (hk : k < n) (hn : n ≤ 1000) :
    Calls Try.prog 133 #[.int .i64 n, .int .i64 k] w (RetInts w (unitL n k)) := by
  obtain ⟨i0, hi, hz0, hz1, hz2⟩ := info_parts Try.info2
  go_enter Try.func133, Try.ntmps133
  go_wp2_with (at_make; refine wp_mkInts _ rfl _ _ rfl i0 Try.underlying22 hi hz0 hz1 hz2 _ _ _ _ n rfl rfl rfl rfl (by omega) ?_)
  intro w1 hI hB hlt
  obtain ⟨g, cap, he, _, _, _, _, hcell, hfr⟩ := hI.open (by simp; omega)
  simp only [List.length_replicate, Value.slice.injEq, Option.some.injEq, Addr.mk.injEq, and_true, true_and] at he hcell
  obtain ⟨rfl, rfl⟩ := he
  have hc := hcell k hk
  have hf := hfr k
  have hset := hI.set (by simp) k 1
  clear hcell hfr
  go_wp2
  go_ret
  refine ⟨_, rfl, ?_, hB.trans (hset.2.below (Nat.le_refl _) (by omega))⟩
  exact hset.1
--== spec.l07Unit
set_option maxHeartbeats 1000000 in
theorem s_l07Unit (n k : Nat) (w : World) (hk : k < n) (hn : n ≤ 1000) :
    Calls Try.prog 80 #[.int .i64 n, .int .i64 k] w (RetInts w (unitL n k)) := by
  obtain ⟨i0, hi, hz0, hz1, hz2⟩ := info_parts Try.info2
  go_enter Try.func80, Try.ntmps80
  go_wp2_with (at_make; refine wp_mkInts _ rfl _ _ rfl i0 Try.underlying22 hi hz0 hz1 hz2 _ _ _ _ n rfl rfl rfl rfl (by omega) ?_)
  intro w1 hI hB hlt
  obtain ⟨g, cap, he, _, _, _, _, hcell, hfr⟩ := hI.open (by simp; omega)
  simp only [List.length_replicate, Value.slice.injEq, Option.some.injEq, Addr.mk.injEq, and_true, true_and] at he hcell
  obtain ⟨rfl, rfl⟩ := he
  have hc := hcell k hk
  have hf := hfr k
  have hset := hI.set (by simp) k 1
  clear hcell hfr
  go_wp2
  go_ret
  refine ⟨_, rfl, ?_, hB.trans (hset.2.below (Nat.le_refl _) (by omega))⟩
  exact hset.1
--== trivial relations
def zrow (n : Nat) : List Int := List.replicate n 0
def trivPow (n j : Nat) : List (List Int) := List.replicate j (zrow n)
def trivRow (n i m : Nat) : List (List Int) := (List.range m).map fun t => unitL n (i + 1 + t)
def trivConj (n j : Nat) : List (List (List Int)) := (List.range j).map fun i => trivRow n i (n - 1 - i)
def trivP (os : List Int) (j : Nat) : Pres := ⟨os, trivPow os.length j, trivConj os.length j⟩
def triv (os : List Int) : Pres := trivP os os.length
theorem trivPow_succ (n j : Nat) : trivPow n (j + 1) = trivPow n j ++ [zrow n] := by unfold trivPow; rw [List.replicate_succ']
theorem trivConj_succ (n j : Nat) : trivConj n (j + 1) = trivConj n j ++ [trivRow n j (n - 1 - j)] := by simp [trivConj, List.range_succ]
theorem trivRow_succ (n i m : Nat) : trivRow n i (m + 1) = trivRow n i m ++ [unitL n (i + 1 + m)] := by simp [trivRow, List.range_succ]
theorem trivPow_len (n j : Nat) : (trivPow n j).length = j := by simp [trivPow]
theorem trivConj_len (n j : Nat) : (trivConj n j).length = j := by simp [trivConj]
theorem trivRow_len (n i m : Nat) : (trivRow n i m).length = m := by simp [trivRow]
--== the local presentation
/-- what stands at each round's head -/
def TInv (os : List Int) (w : World) (b2 b4 : Nat) (j : Nat) (wr : World) : Prop :=
  ∃ v1 v2 v3, Bx wr b2 (.slice none 0 0) (.slice none 0 0) (.slice none 0 0) ∧ Bx wr b4 v1 v2 v3 ∧ OP wr (fun k => w.heap.size ≤ k ∧ k ≠ b2 ∧ k ≠ b4) v1 v2 v3 (trivP os j) ∧ Below w.heap.size w wr
theorem ON.empty {α : Type} {e : TypeId} {O : World → (Nat → Prop) → Value → List α → Prop} (w : World) : ON e O (w.alloc (.cells #[] e)) (fun k => k = w.heap.size) (.slice (some ⟨w.heap.size, 0, none⟩) 0 0) [] :=
  ⟨[], fun _ _ => False, ⟨rfl, .inr ⟨w.heap.size, 0, #[], by simp, Nat.zero_le _, heap_alloc_new w _, by simp, by simp [maxLen], by simp, by simp⟩⟩, fun g hg => by simp [Value.ownBlock] at hg; exact hg.symm, fun i hi => by simp at hi, fun i hi => by simp at hi, fun i j hi => by simp at hi⟩
--== impl.trivialRelations
set_option maxHeartbeats 8000000 in
theorem i_trivialRelations (v : Value) (os : List Int) (w : World) (hv : Rd w v os) (hs : os.length ≤ 100) :
    Calls Try.prog 83 #[v] w (RetP w (triv os)) := by
  obtain ⟨i0, hi, hz0, hz1, hz2⟩ := info_parts Try.infoRow
  obtain ⟨ao, cap, rfl, hc1, hc2⟩ := hv.form
  have HV := Lib.hid hv
  have g0 := below_alloc w (Obj.cells #[Value.slice none 0 0, Value.slice none 0 0, Value.slice none 0 0] 32)
  have x0 := Bx.new w (Value.slice none 0 0) (Value.slice none 0 0) (Value.slice none 0 0)
  go_enter Try.func83, Try.ntmps83
  go_wp2_with fail
  refine (f_Clone _ os _ (HV.out.below g0) (by omega)).mono ?_
  rintro e w1 ⟨u1, rfl, hI, hB⟩
  have z1 : w.heap.size < w1.heap.size := by have := hB.size; simp at this; omega
  have g1 := below_size g0 hB
  have x1 := x0.below hB (by simp)
  have j1 := hI.o1
  obtain ⟨a1, q1, rfl, _, _⟩ := hI.form
  clear hI hB hv
  go_wp2_with fail
  have I0 : TInv os w w.heap.size w1.heap.size 0 (w1.alloc (Obj.cells #[Value.slice a1 os.length q1, Value.slice none 0 0, Value.slice none 0 0] 32)) :=
    ⟨_, _, _, x1.old _, Bx.new w1 _ _ _, OP.sub (OP.nil (local_O1.below j1 (below_alloc _ _))) (fun k _ hk => ⟨by have := hk.1; simp at this; omega, by have := hk.1; simp at this; omega, by have := hk.2; omega⟩), g1.alloc (by omega) _⟩
  clear x0 x1 j1 g0 g1
  go_loopw [14] (fun i wr => ∃ j : Nat, j ≤ os.length ∧ i = .int .i64 j ∧ TInv os w w.heap.size w1.heap.size j wr) (fun i _ => os.length - (intOf i).toNat)
  case atStart => exact ⟨0, Nat.zero_le _, rfl, I0⟩
  case round =>
    clear I0
    obtain ⟨j, hj, rfl, v1, v2, v3, X2, X4, hP, hW⟩ := hrel
    have l2 := X2.lt
    have l4 := X4.lt
    obtain ⟨⟨a1', c1', rfl⟩, ⟨a2, c2, rfl⟩, ⟨a3, c3, rfl⟩⟩ := hP.formsN (n1 := os.length) (n2 := j) (n3 := j) rfl (trivPow_len _ _) (trivConj_len _ _)
    have m0 := X4.c0
    have m1 := X4.c1
    have m2 := X4.c2
    by_cases hlt : j < os.length
    · have hmk := run_makeInts os.length (by omega)
      have hPz : OP (wr.drew.alloc (.cells (madeCells #[.int .i64 0] os.length) 2)) (fun k => w.heap.size ≤ k ∧ k < wr.heap.size ∧ k ≠ w.heap.size ∧ k ≠ w1.heap.size) _ _ _ _ := OP.below (OP.sub (w := wr.drew) hP fun k hk h => ⟨h.1, hk, h.2.1, h.2.2⟩) (below_alloc wr.drew _)
      have hy : O1 (wr.drew.alloc (.cells (madeCells #[.int .i64 0] os.length) 2)) (fun k => k = wr.heap.size) (.slice (some ⟨wr.heap.size, 0, none⟩) os.length os.length) (zrow os.length) := ⟨(made_own wr.drew os.length (by omega)).mono (Nat.zero_le _), fun g hg => by simp [Value.ownBlock] at hg; exact hg.symm⟩
      obtain ⟨v2', w3, hr, hP3, hC3⟩ := run_appPow _ 29 _ _ _ _ _ _ hPz _ _ hy rfl (fun k hk h => by omega) (by rw [show (trivP os j).powers.length = j from trivPow_len _ _]; omega)
      have s3 : wr.heap.size < w3.heap.size := by have := hC3.size; simp at this; omega
      have X23 : Bx w3 w.heap.size _ _ _ := (X2.drew.old _).chg hC3 (fun h => h.2.2.1 rfl)
      have X43 : Bx w3 w1.heap.size _ _ _ := (X4.drew.old _).chg hC3 (fun h => h.2.2.2 rfl)
      have W3 : Below w.heap.size w w3 := ((hW.drew).alloc (by have := hW.size; simpa using this) _).trans (hC3.below (fun k hk => hk.1) (by have := hW.size; simp; omega))
      obtain ⟨_, ⟨a2', c2', rfl⟩, _⟩ := hP3.formsN (n1 := os.length) (n2 := j + 1) (n3 := j) rfl (by simp [trivP, trivPow_len]) (trivConj_len _ _)
      have n1 := X43.c1
      have fz := X43.fr 1
      have hP3' : OP w3 (fun k => (w.heap.size ≤ k ∧ k ≠ w.heap.size ∧ k ≠ w1.heap.size)) _ _ _ _ := OP.sub hP3 (fun k hk h => by
        rcases h with ⟨h | h, h2⟩ | ⟨h, _⟩
        · exact ⟨h.1, h.2.2.1, h.2.2.2⟩
        · have : k = wr.heap.size := h; exact ⟨by omega, by omega, by omega⟩
        · simp at h; exact ⟨by omega, by omega, by omega⟩)
      clear hPz hy hP hC3 hP3
      go_wp2_with fail
      apply via
      case h =>
        go_region_law (refine step_of_run rfl (.tmp 18) (.tmp 21) 29 rfl _ _ (by simp [Act.eval, Act.put]) (by simp [Act.eval, Act.put]) _ _ hr ?_)
        all_goals exact ⟨rfl, rfl⟩
      have X24 := X23.other (c := w1.heap.size) (by omega) 1 (Value.slice a2' (j + 1) c2')
      have X44 := X43.set1 (Value.slice a2' (j + 1) c2')
      have hP4 := OP.sets hP3' (b := w1.heap.size) (fun h => h.2.2 rfl) 1 (Value.slice a2' (j + 1) c2')
      have W4 := W3.setCell (p := ⟨w1.heap.size, 1, none⟩) (by show _ ≤ w1.heap.size; omega) (Value.slice a2' (j + 1) c2')
      clear m0 m1 m2 X2 X4 l2 l4 hr X23 X43 W3 hP3' n1 fz hmk hW
      have sE : (w3.setCell ⟨w1.heap.size, 1, none⟩ (Value.slice a2' (j + 1) c2')).heap.size = w3.heap.size := by simp
      generalize w3.setCell ⟨w1.heap.size, 1, none⟩ (Value.slice a2' (j + 1) c2') = w4 at *
      have hP4' : OP w4 (fun k => (w.heap.size ≤ k ∧ k ≠ w.heap.size ∧ k ≠ w1.heap.size) ∧ k < w4.heap.size) _ _ _ _ := OP.sub hP4 fun k hk h => ⟨h, hk⟩
      clear hP4 s3 sE

      go_wp2_with fail
      go_loopw [6, 7] (fun u t wr2 => ∃ m : Nat, j + 1 + m ≤ os.length ∧ t = .int .i64 ((j : Int) + 1 + m) ∧ O2 wr2 (win w4.heap.size wr2.heap.size) u (trivRow os.length j m) ∧ Below w4.heap.size w4 wr2) (fun _ t _ => os.length - (intOf t).toNat)
      case atStart => exact ⟨0, by omega, by go_num, local_O2.nil _ _, Below.refl _ _⟩
      case round =>
        obtain ⟨m, hm, rfl, hO, hB2⟩ := hrel
        obtain ⟨a6, c6, e6, _, _⟩ := hO.rd.form
        rw [trivRow_len] at e6
        subst e6
        have HL := Lib.hid (trivRow_len os.length j m)
        have sz2 := hB2.size
        by_cases hmn : j + 1 + m < os.length
        · have HS := Lib.hid (trivRow_succ os.length j m)
          generalize trivRow os.length j m = R at *
          go_wp2_with fail
          have hcast : (Value.int .i64 ((j : Int) + 1 + m)) = .int .i64 ((j + 1 + m : Nat) : Int) := by go_num
          rw [hcast]
          refine (i_unitVector os.length (j + 1 + m) _ (by omega) (by omega)).mono ?_
          rintro e w5 ⟨u5, rfl, hI5, hB5⟩
          have hO5 := local_O2.below hO hB5
          have hy5 := hI5.o1
          have sz5 := hB5.size
          obtain ⟨a5, c5, rfl, _, _⟩ := hI5.form
          obtain ⟨v6, w6, hr6, hO6, hC6⟩ := run_appO local_O1 w5 29 29 i0 Try.underlying29 hi hz0 hz1 hz2 _ _ _ _ hO5 _ _ hy5 rfl (fun k hk h => by have := hk.1; have := h.2; omega) (by rw [HL.out]; omega)
          have sz6 := hC6.size
          have hO6' : O2 w6 (win w4.heap.size w6.heap.size) v6 (R ++ [unitL os.length (j + 1 + m)]) := local_O2.mono hO6 (fun k hk h => ⟨by
            rcases h with ⟨h | h, _⟩ | h
            · exact h.1
            · have := h.1; omega
            · omega, hk⟩)
          have hB6 : Below w4.heap.size w4 w6 := (hB2.trans (hB5.mono sz2)).trans (hC6.below (fun k hk => hk.1.1) (by omega))
          clear hO5 hO6 hy5 hI5 hB5 hC6
          go_wp2_with (at_builtin; refine wp_of_run _ rfl _ _ _ rfl _ _ rfl rfl _ _ hr6 ?_)
          go_roundw
          case rel => exact ⟨m + 1, by omega, by go_num, by rw [HS.out]; exact hO6', hB6⟩
          case measure => simp [intOf]; omega
        · have hme : m = os.length - 1 - j := by omega
          have X25 := X24.below hB2 X24.lt
          have X45 := X44.below hB2 X44.lt
          have hP5 := OP.below hP4' hB2
          have W5 := W4.trans (hB2.mono W4.size)
          obtain ⟨v3', w6, hr6, hP6, hC6⟩ := run_appConj wr 30 _ _ _ _ _ _ hP5 _ _ hO rfl (fun k hk h => by have := hk.1; have := h.2; omega) (by show (trivP os j).conj.length ≤ _; rw [show (trivP os j).conj.length = j from trivConj_len _ _]; omega)
          have sz6 := hC6.size
          have X26 := X25.chg hC6 (fun h => h.1.2.1 rfl)
          have X46 := X45.chg hC6 (fun h => h.1.2.2 rfl)
          have W6 : Below w.heap.size w w6 := W5.trans (hC6.below (fun k hk => hk.1.1) W5.size)
          have hP6' : OP w6 (fun k => (w.heap.size ≤ k ∧ k ≠ w.heap.size ∧ k ≠ w1.heap.size)) _ _ _ _ := OP.sub hP6 (fun k hk h => by
            have l1 := X24.lt
            have l2 := X44.lt
            rcases h with ⟨h | h, h2⟩ | ⟨h, _⟩
            · exact h.1
            · have := h.1; exact ⟨by omega, by omega, by omega⟩
            · exact ⟨by omega, by omega, by omega⟩)
          obtain ⟨_, _, ⟨a3', c3', rfl⟩⟩ := hP6.formsN (n1 := os.length) (n2 := j + 1) (n3 := j + 1) rfl (by simp [trivP, trivPow_len]) (by simp [trivP, trivConj_len])
          have n2 := X46.c2
          have fz := X46.fr 2
          have o2 := X45.c2
          have X27 := X26.other (c := w1.heap.size) (by omega) 2 (Value.slice a3' (j + 1) c3')
          have X47 := X46.set2 (Value.slice a3' (j + 1) c3')
          have hP7 := OP.sets hP6' (b := w1.heap.size) (fun h => h.2.2 rfl) 2 (Value.slice a3' (j + 1) c3')
          have W7 := W6.setCell (p := ⟨w1.heap.size, 2, none⟩) (by show _ ≤ w1.heap.size; omega) (Value.slice a3' (j + 1) c3')
          have HI : TInv os w w.heap.size w1.heap.size (j + 1) (w6.setCell ⟨w1.heap.size, 2, none⟩ (Value.slice a3' (j + 1) c3')) := by
            refine ⟨_, _, _, X27, X47, ?_, W7⟩
            have hq : trivP os (j + 1) = ⟨(trivP os j).orders, (trivP os j).powers ++ [zrow os.length], (trivP os j).conj ++ [trivRow os.length j m]⟩ := by
              subst hme
              simp only [trivP, trivPow_succ, trivConj_succ]
            rw [hq]
            exact hP7
          clear X24 X44 X25 X45 X26 X46 X27 X47 hP4' hP5 hP6 hP6' hP7 W4 W5 W6 W7 hC6 hO hB2 hme
          go_wp2_with (at_builtin; refine wp_of_run _ rfl _ _ _ rfl _ _ rfl rfl _ _ hr6 ?_)
          go_roundw
          case rel => exact ⟨j + 1, by omega, by go_num, HI⟩
          case measure => simp [intOf]; omega
    · obtain rfl : j = os.length := by omega
      have p0 := X2.c0
      have p1 := X2.c1
      have p2 := X2.c2
      have q0 := X2.fr 0
      have q1' := X2.fr 1
      have q2 := X2.fr 2
      have hP' := OP.sets (OP.sets (OP.sets hP (b := w.heap.size) (fun h => h.2.1 rfl) 0 (Value.slice a1' os.length c1')) (b := w.heap.size) (fun h => h.2.1 rfl) 1 (Value.slice a2 os.length c2)) (b := w.heap.size) (fun h => h.2.1 rfl) 2 (Value.slice a3 os.length c3)
      have hW' := ((hW.setCell (p := ⟨w.heap.size, 0, none⟩) (Nat.le_refl _) (Value.slice a1' os.length c1')).setCell (p := ⟨w.heap.size, 1, none⟩) (Nat.le_refl _) (Value.slice a2 os.length c2)).setCell (p := ⟨w.heap.size, 2, none⟩) (Nat.le_refl _) (Value.slice a3 os.length c3)
      go_wp2_with fail
      refine bodyPost_ret (v := .agg #[Value.slice a1' os.length c1', Value.slice a2 os.length c2, Value.slice a3 os.length c3]) (by simp [results, Try.results83, go_sem, p0, p1, p2]) rfl ⟨_, _, _, rfl, OP.sub hP' (fun k hk h => ⟨h.1, hk⟩), hW'⟩
--== spec.l07Trivial
set_option maxHeartbeats 8000000 in
theorem s_l07Trivial (v : Value) (os : List Int) (w : World) (hv : Rd w v os) (hs : os.length ≤ 100) :
    Calls Try.prog 79 #[v] w (RetP w (triv os)) := by
  obtain ⟨i0, hi, hz0, hz1, hz2⟩ := info_parts Try.infoRow
  obtain ⟨ao, cap, rfl, hc1, hc2⟩ := hv.form
  have HV := Lib.hid hv
  have g0 := below_alloc w (Obj.cells #[Value.slice none 0 0, Value.slice none 0 0, Value.slice none 0 0] 32)
  have x0 := Bx.new w (Value.slice none 0 0) (Value.slice none 0 0) (Value.slice none 0 0)
  go_enter Try.func79, Try.ntmps79
  go_wp2_with fail
  refine (s_l01Own _ os _ (HV.out.below g0) (by omega)).mono ?_
  rintro e w1 ⟨u1, rfl, hI, hB⟩
  have z1 : w.heap.size < w1.heap.size := by have := hB.size; simp at this; omega
  have g1 := below_size g0 hB
  have x1 := x0.below hB (by simp)
  have j1 := hI.o1
  obtain ⟨a1, q1, rfl, _, _⟩ := hI.form
  clear hI hB hv
  go_wp2_with fail
  have I0 : TInv os w w.heap.size w1.heap.size 0 (w1.alloc (Obj.cells #[Value.slice a1 os.length q1, Value.slice none 0 0, Value.slice none 0 0] 32)) :=
    ⟨_, _, _, x1.old _, Bx.new w1 _ _ _, OP.sub (OP.nil (local_O1.below j1 (below_alloc _ _))) (fun k _ hk => ⟨by have := hk.1; simp at this; omega, by have := hk.1; simp at this; omega, by have := hk.2; omega⟩), g1.alloc (by omega) _⟩
  clear x0 x1 j1 g0 g1
  go_loopw [5] (fun i wr => ∃ j : Nat, j ≤ os.length ∧ i = .int .i64 j ∧ TInv os w w.heap.size w1.heap.size j wr) (fun i _ => os.length - (intOf i).toNat)
  case atStart => exact ⟨0, Nat.zero_le _, rfl, I0⟩
  case round =>
    clear I0
    obtain ⟨j, hj, rfl, v1, v2, v3, X2, X4, hP, hW⟩ := hrel
    have l2 := X2.lt
    have l4 := X4.lt
    obtain ⟨⟨a1', c1', rfl⟩, ⟨a2, c2, rfl⟩, ⟨a3, c3, rfl⟩⟩ := hP.formsN (n1 := os.length) (n2 := j) (n3 := j) rfl (trivPow_len _ _) (trivConj_len _ _)
    have m0 := X4.c0
    have m1 := X4.c1
    have m2 := X4.c2
    by_cases hlt : j < os.length
    · have hmk := run_makeInts os.length (by omega)
      have hPz : OP (wr.drew.alloc (.cells (madeCells #[.int .i64 0] os.length) 2)) (fun k => w.heap.size ≤ k ∧ k < wr.heap.size ∧ k ≠ w.heap.size ∧ k ≠ w1.heap.size) _ _ _ _ := OP.below (OP.sub (w := wr.drew) hP fun k hk h => ⟨h.1, hk, h.2.1, h.2.2⟩) (below_alloc wr.drew _)
      have hy : O1 (wr.drew.alloc (.cells (madeCells #[.int .i64 0] os.length) 2)) (fun k => k = wr.heap.size) (.slice (some ⟨wr.heap.size, 0, none⟩) os.length os.length) (zrow os.length) := ⟨(made_own wr.drew os.length (by omega)).mono (Nat.zero_le _), fun g hg => by simp [Value.ownBlock] at hg; exact hg.symm⟩
      obtain ⟨v2', w3, hr, hP3, hC3⟩ := run_appPow _ 29 _ _ _ _ _ _ hPz _ _ hy rfl (fun k hk h => by omega) (by rw [show (trivP os j).powers.length = j from trivPow_len _ _]; omega)
      have s3 : wr.heap.size < w3.heap.size := by have := hC3.size; simp at this; omega
      have X23 : Bx w3 w.heap.size _ _ _ := (X2.drew.old _).chg hC3 (fun h => h.2.2.1 rfl)
      have X43 : Bx w3 w1.heap.size _ _ _ := (X4.drew.old _).chg hC3 (fun h => h.2.2.2 rfl)
      have W3 : Below w.heap.size w w3 := ((hW.drew).alloc (by have := hW.size; simpa using this) _).trans (hC3.below (fun k hk => hk.1) (by have := hW.size; simp; omega))
      obtain ⟨_, ⟨a2', c2', rfl⟩, _⟩ := hP3.formsN (n1 := os.length) (n2 := j + 1) (n3 := j) rfl (by simp [trivP, trivPow_len]) (trivConj_len _ _)
      have n1 := X43.c1
      have fz := X43.fr 1
      have hP3' : OP w3 (fun k => (w.heap.size ≤ k ∧ k ≠ w.heap.size ∧ k ≠ w1.heap.size)) _ _ _ _ := OP.sub hP3 (fun k hk h => by
        rcases h with ⟨h | h, h2⟩ | ⟨h, _⟩
        · exact ⟨h.1, h.2.2.1, h.2.2.2⟩
        · have : k = wr.heap.size := h; exact ⟨by omega, by omega, by omega⟩
        · simp at h; exact ⟨by omega, by omega, by omega⟩)
      clear hPz hy hP hC3 hP3
      go_wp2_with fail
      apply via
      case h =>
        go_region_law (refine step_of_run rfl (.tmp 19) (.tmp 22) 29 rfl _ _ (by simp [Act.eval, Act.put]) (by simp [Act.eval, Act.put]) _ _ hr ?_)
        all_goals exact ⟨rfl, rfl⟩
      have X24 := X23.other (c := w1.heap.size) (by omega) 1 (Value.slice a2' (j + 1) c2')
      have X44 := X43.set1 (Value.slice a2' (j + 1) c2')
      have hP4 := OP.sets hP3' (b := w1.heap.size) (fun h => h.2.2 rfl) 1 (Value.slice a2' (j + 1) c2')
      have W4 := W3.setCell (p := ⟨w1.heap.size, 1, none⟩) (by show _ ≤ w1.heap.size; omega) (Value.slice a2' (j + 1) c2')
      clear m0 m1 m2 X2 X4 l2 l4 hr X23 X43 W3 hP3' n1 fz hmk hW
      have sE : (w3.setCell ⟨w1.heap.size, 1, none⟩ (Value.slice a2' (j + 1) c2')).heap.size = w3.heap.size := by simp
      generalize w3.setCell ⟨w1.heap.size, 1, none⟩ (Value.slice a2' (j + 1) c2') = w4 at *
      have hP4' : OP w4 (fun k => (w.heap.size ≤ k ∧ k ≠ w.heap.size ∧ k ≠ w1.heap.size) ∧ k < w4.heap.size) _ _ _ _ := OP.sub hP4 fun k hk h => ⟨h, hk⟩
      clear hP4 s3 sE

      have E0 : O2 (w4.alloc (.cells #[] 22)) (win w4.heap.size (w4.heap.size + 1)) (.slice (some ⟨w4.heap.size, 0, none⟩) 0 0) [] := local_O2.mono (ON.empty w4) (fun k _ hk => ⟨by omega, by omega⟩)
      go_wp2_with fail
      go_loopw [6, 7] (fun u t wr2 => ∃ m : Nat, j + 1 + m ≤ os.length ∧ t = .int .i64 ((j : Int) + 1 + m) ∧ O2 wr2 (win w4.heap.size wr2.heap.size) u (trivRow os.length j m) ∧ Below w4.heap.size w4 wr2) (fun _ t _ => os.length - (intOf t).toNat)
      case atStart => exact ⟨0, by omega, by go_num, by rw [show trivRow os.length j 0 = [] from rfl]; simpa using E0, below_alloc _ _⟩
      case round =>
        obtain ⟨m, hm, rfl, hO, hB2⟩ := hrel
        obtain ⟨a6, c6, e6, _, _⟩ := hO.rd.form
        rw [trivRow_len] at e6
        subst e6
        have HL := Lib.hid (trivRow_len os.length j m)
        have sz2 := hB2.size
        by_cases hmn : j + 1 + m < os.length
        · have HS := Lib.hid (trivRow_succ os.length j m)
          generalize trivRow os.length j m = R at *
          go_wp2_with fail
          have hcast : (Value.int .i64 ((j : Int) + 1 + m)) = .int .i64 ((j + 1 + m : Nat) : Int) := by go_num
          rw [hcast]
          refine (s_l07Unit os.length (j + 1 + m) _ (by omega) (by omega)).mono ?_
          rintro e w5 ⟨u5, rfl, hI5, hB5⟩
          have hO5 := local_O2.below hO hB5
          have hy5 := hI5.o1
          have sz5 := hB5.size
          obtain ⟨a5, c5, rfl, _, _⟩ := hI5.form
          obtain ⟨v6, w6, hr6, hO6, hC6⟩ := run_appO local_O1 w5 29 29 i0 Try.underlying29 hi hz0 hz1 hz2 _ _ _ _ hO5 _ _ hy5 rfl (fun k hk h => by have := hk.1; have := h.2; omega) (by rw [HL.out]; omega)
          have sz6 := hC6.size
          have hO6' : O2 w6 (win w4.heap.size w6.heap.size) v6 (R ++ [unitL os.length (j + 1 + m)]) := local_O2.mono hO6 (fun k hk h => ⟨by
            rcases h with ⟨h | h, _⟩ | h
            · exact h.1
            · have := h.1; omega
            · omega, hk⟩)
          have hB6 : Below w4.heap.size w4 w6 := (hB2.trans (hB5.mono sz2)).trans (hC6.below (fun k hk => hk.1.1) (by omega))
          clear hO5 hO6 hy5 hI5 hB5 hC6
          go_wp2_with (at_builtin; refine wp_of_run _ rfl _ _ _ rfl _ _ rfl rfl _ _ hr6 ?_)
          go_roundw
          case rel => exact ⟨m + 1, by omega, by go_num, by rw [HS.out]; exact hO6', hB6⟩
          case measure => simp [intOf]; omega
        · have hme : m = os.length - 1 - j := by omega
          have X25 := X24.below hB2 X24.lt
          have X45 := X44.below hB2 X44.lt
          have hP5 := OP.below hP4' hB2
          have W5 := W4.trans (hB2.mono W4.size)
          obtain ⟨v3', w6, hr6, hP6, hC6⟩ := run_appConj wr 30 _ _ _ _ _ _ hP5 _ _ hO rfl (fun k hk h => by have := hk.1; have := h.2; omega) (by show (trivP os j).conj.length ≤ _; rw [show (trivP os j).conj.length = j from trivConj_len _ _]; omega)
          have sz6 := hC6.size
          have X26 := X25.chg hC6 (fun h => h.1.2.1 rfl)
          have X46 := X45.chg hC6 (fun h => h.1.2.2 rfl)
          have W6 : Below w.heap.size w w6 := W5.trans (hC6.below (fun k hk => hk.1.1) W5.size)
          have hP6' : OP w6 (fun k => (w.heap.size ≤ k ∧ k ≠ w.heap.size ∧ k ≠ w1.heap.size)) _ _ _ _ := OP.sub hP6 (fun k hk h => by
            have l1 := X24.lt
            have l2 := X44.lt
            rcases h with ⟨h | h, h2⟩ | ⟨h, _⟩
            · exact h.1
            · have := h.1; exact ⟨by omega, by omega, by omega⟩
            · exact ⟨by omega, by omega, by omega⟩)
          obtain ⟨_, _, ⟨a3', c3', rfl⟩⟩ := hP6.formsN (n1 := os.length) (n2 := j + 1) (n3 := j + 1) rfl (by simp [trivP, trivPow_len]) (by simp [trivP, trivConj_len])
          have n2 := X46.c2
          have fz := X46.fr 2
          have o2 := X45.c2
          have X27 := X26.other (c := w1.heap.size) (by omega) 2 (Value.slice a3' (j + 1) c3')
          have X47 := X46.set2 (Value.slice a3' (j + 1) c3')
          have hP7 := OP.sets hP6' (b := w1.heap.size) (fun h => h.2.2 rfl) 2 (Value.slice a3' (j + 1) c3')
          have W7 := W6.setCell (p := ⟨w1.heap.size, 2, none⟩) (by show _ ≤ w1.heap.size; omega) (Value.slice a3' (j + 1) c3')
          have HI : TInv os w w.heap.size w1.heap.size (j + 1) (w6.setCell ⟨w1.heap.size, 2, none⟩ (Value.slice a3' (j + 1) c3')) := by
            refine ⟨_, _, _, X27, X47, ?_, W7⟩
            have hq : trivP os (j + 1) = ⟨(trivP os j).orders, (trivP os j).powers ++ [zrow os.length], (trivP os j).conj ++ [trivRow os.length j m]⟩ := by
              subst hme
              simp only [trivP, trivPow_succ, trivConj_succ]
            rw [hq]
            exact hP7
          clear X24 X44 X25 X45 X26 X46 X27 X47 hP4' hP5 hP6 hP6' hP7 W4 W5 W6 W7 hC6 hO hB2 hme
          go_wp2_with (at_builtin; refine wp_of_run _ rfl _ _ _ rfl _ _ rfl rfl _ _ hr6 ?_)
          go_roundw
          case rel => exact ⟨j + 1, by omega, by go_num, HI⟩
          case measure => simp [intOf]; omega
    · obtain rfl : j = os.length := by omega
      have p0 := X2.c0
      have p1 := X2.c1
      have p2 := X2.c2
      have q0 := X2.fr 0
      have q1' := X2.fr 1
      have q2 := X2.fr 2
      have hP' := OP.sets (OP.sets (OP.sets hP (b := w.heap.size) (fun h => h.2.1 rfl) 0 (Value.slice a1' os.length c1')) (b := w.heap.size) (fun h => h.2.1 rfl) 1 (Value.slice a2 os.length c2)) (b := w.heap.size) (fun h => h.2.1 rfl) 2 (Value.slice a3 os.length c3)
      have hW' := ((hW.setCell (p := ⟨w.heap.size, 0, none⟩) (Nat.le_refl _) (Value.slice a1' os.length c1')).setCell (p := ⟨w.heap.size, 1, none⟩) (Nat.le_refl _) (Value.slice a2 os.length c2)).setCell (p := ⟨w.heap.size, 2, none⟩) (Nat.le_refl _) (Value.slice a3 os.length c3)
      go_wp2_with fail
      refine bodyPost_ret (v := .agg #[Value.slice a1' os.length c1', Value.slice a2 os.length c2, Value.slice a3 os.length c3]) (by simp [results, Try.results79, go_sem, p0, p1, p2]) rfl ⟨_, _, _, rfl, OP.sub hP' (fun k hk h => ⟨h.1, hk⟩), hW'⟩
end Go.Proofs.Ythnpndheaailjaa
