/-
  Drawn words: that the draws return, and what their results read as.
-/
import Derived.Test.YthnpndheaailjaaSrc
import Derived.Test.YthnpndheaailjaaOwn
namespace Go.Proofs.Ythnpndheaailjaa
set_option linter.unusedVariables false
set_option linter.unusedSimpArgs false
set_option maxRecDepth 100000
open Go.RowKit

theorem Rd.chg1 {w w' : World} {g b n c : Nat} {xs : List Int} (h : Rd w (.slice (some ⟨g, 0, none⟩) n c) xs) (hc : Chg b (b + 1) w w') (hg : g ≠ b) : Rd w' (.slice (some ⟨g, 0, none⟩) n c) xs := by
  obtain ⟨ao, cap, he, h1, h2, h0, h3⟩ := h
  simp only [Value.slice.injEq] at he
  obtain ⟨rfl, rfl, rfl⟩ := he
  refine ⟨_, _, rfl, h1, h2, h0, h3.imp id ?_⟩
  rintro ⟨b', off, e, hcell⟩
  cases e
  refine ⟨_, _, rfl, fun j hj => ?_⟩
  have hj' := hcell j hj
  have hl := World.block_lt_of_cell? w _ hj'
  rw [← hj']
  exact World.cell?_of_block (hc.block _ hl (by show g < b ∨ b + 1 ≤ g; omega))
theorem Chg.tr {b : Nat} {w w1 w2 : World} (h : Chg b (b + 1) w w1) (k : Chg b (b + 1) w1 w2) : Chg b (b + 1) w w2 := h.trans k (Nat.le_refl _) (Nat.le_refl _) (Nat.le_refl _) (Nat.le_refl _)
theorem Chg.bel {b : Nat} {w w1 w2 : World} (h : Chg b (b + 1) w w1) (k : Below w1.heap.size w1 w2) : Chg b (b + 1) w w2 := h.tr (Chg.of_below k _ _)
theorem Chg.belB {b : Nat} {w w1 w2 : World} (h : Chg b (b + 1) w w1) (k : Below w.heap.size w1 w2) : Chg b (b + 1) w w2 :=
  ⟨k.os.trans h.os, k.tape.trans h.tape, k.output.trans h.output, Nat.le_trans h.size k.size, fun i hi hh => (k.block i hi).trans (h.block i hi hh)⟩
theorem Src.belowB {w0 w w' : World} {vc : Value} {n b B : Nat} (h : Src w0 vc n b w) (hb : Below B w w') (hB : b < B) (h0 : w0.heap.size ≤ B) : Src w0 vc n b w' := by
  refine ⟨h.rd, h.n9, h.lo, h.be.trans (hb.mono h0), ?_⟩
  obtain ⟨a, s, h1, h2, h3⟩ := h.box
  exact ⟨a, s, h1, h2, (hb.block b hB).trans h3⟩
theorem Ints.chgb {w w' : World} {B b : Nat} {v : Value} {xs : List Int} (h : Ints w B v xs) (hc : Chg b (b + 1) w w') (hb : b < B) : Ints w' B v xs := h.chg hc fun g hg => .inr (by have := (h.lt g hg).1; omega)
/-- letters that a draw may give -/
def Tiny (xs : List Int) : Prop := ∀ x ∈ xs, -1000 ≤ x ∧ x ≤ 1000
theorem Tiny.nil : Tiny [] := fun x hx => by simp at hx
theorem Tiny.snoc {xs : List Int} (h : Tiny xs) {y : Int} (hy : -1000 ≤ y ∧ y ≤ 1000) : Tiny (xs ++ [y]) := fun x hx => by
  rcases List.mem_append.1 hx with h1 | h1
  · exact h x h1
  · rw [List.mem_singleton.1 h1]; exact hy
theorem Tiny.app {xs ys : List Int} (h : Tiny xs) (h2 : Tiny ys) : Tiny (xs ++ ys) := fun x hx => by
  rcases List.mem_append.1 hx with h1 | h1
  · exact h x h1
  · exact h2 x h1
theorem Tiny.small {xs : List Int} (h : Tiny xs) : Small xs := fun x hx => by have := h x hx; omega
theorem Tiny.inv {xs : List Int} (h : Tiny xs) : Tiny (invW xs) := fun x hx => by
  unfold invW at hx
  rw [List.mem_reverse, List.mem_map] at hx
  obtain ⟨y, hy, rfl⟩ := hx
  have := h y hy
  omega
def FromP (vc : Value) (n : Nat) (w : World) (e : Ending) (w' : World) : Prop := ∃ b, e = .returned (.pointer (some ⟨b, 0, none⟩)) ∧ Src w vc n b w'
def PickP (w0 : World) (vc : Value) (n b : Nat) (w : World) (xs : List Int) (e : Ending) (w' : World) : Prop := ∃ q, q < xs.length ∧ e = .returned (.int .i64 (xs.getD q 0)) ∧ Src w0 vc n b w' ∧ Chg b (b + 1) w w'
def CntP (w0 : World) (vc : Value) (n b : Nat) (w : World) (e : Ending) (w' : World) : Prop := ∃ k : Int, e = .returned (.int .i64 k) ∧ -1 ≤ k ∧ k ≤ 7 ∧ Src w0 vc n b w' ∧ Chg b (b + 1) w w'
def LetP (w0 : World) (vc : Value) (n b : Nat) (w : World) (L : Nat) (e : Ending) (w' : World) : Prop := ∃ v xs, e = .returned v ∧ Tiny xs ∧ xs.length ≤ L ∧ Ints w' w.heap.size v xs ∧ Src w0 vc n b w' ∧ Chg b (b + 1) w w'
--== spec.l01From
set_option maxHeartbeats 2000000 in
theorem s_l01From (v : Value) (n : Nat) (w : World) (h : RdU w v n) (hn : n ≤ 1000000) : Calls Try.prog 106 #[v] w (FromP v n w) := by
  have HR := Lib.hid h
  obtain ⟨ao, cap, rfl, hc1, hc2, hby⟩ := h
  have g0 := below_alloc w (Obj.cells #[.slice ao n cap, .int .i64 0, .int .i64 76001] 152)
  have hS0 : Src w (.slice ao n cap) n w.heap.size (w.alloc (Obj.cells #[.slice ao n cap, .int .i64 0, .int .i64 76001] 152)) :=
    ⟨HR.out, hn, Nat.le_refl _, g0, 0, 76001, Nat.zero_le _, by omega, heap_alloc_new w _⟩
  have HS0 := Lib.hid hS0
  clear g0 hS0
  go_enter Try.func106, Try.ntmps106
  go_wp2_with fail
  go_loopw [4] (fun i wr => ∃ j : Nat, j ≤ n ∧ i = .int .i64 j ∧ Src w (.slice ao n cap) n w.heap.size wr) (fun i _ => n - (intOf i).toNat)
  case atStart => exact ⟨0, Nat.zero_le _, rfl, HS0.out⟩
  case round =>
    obtain ⟨j, hj, rfl, hS⟩ := hrel
    have HS := Lib.hid hS
    by_cases hlt : j < n ∧ j < 64
    · obtain ⟨h1, h2⟩ := hlt
      obtain ⟨a, s, ha, hs, hbx⟩ := hS.box
      obtain ⟨g, off, rfl, hby2⟩ := hby.resolve_left (by omega)
      obtain ⟨z, hz, hcz0⟩ := hby2 j h1
      have hcz : wr.cell? ⟨g, off + j, none⟩ = some (.int .u8 (z : Int)) := (hS.be.cell (World.block_lt_of_cell? _ _ hcz0)).trans hcz0
      obtain ⟨t, ht, hte⟩ : ∃ t : Nat, t < 2147483647 ∧ ((s : Int) * 71 + z) % 2147483647 = (t : Int) := ⟨(((s : Int) * 71 + z) % 2147483647).toNat, by omega, by omega⟩
      have hbx2 := src_set2 hbx (.int .i64 (t : Int))
      have HX2 := Lib.hid hbx2
      have hC2 := Lib.hid (chg_set wr w.heap.size 2 (.int .i64 (t : Int)))
      have p2 : wr.cell? ⟨w.heap.size, 2, none⟩ = some (.int .i64 (s : Int)) := by simp [World.cell?, hbx]
      have f2 : wr.frozen? ⟨w.heap.size, 2, none⟩ = false := by simp [World.frozen?, hbx]
      have W1 : IntKind.i64.wrap ((s : Int) * 71) = (s : Int) * 71 := IntWalk.i64_in _ (by omega)
      have W2 : IntKind.i64.wrap ((s : Int) * 71 + z) = (s : Int) * 71 + z := IntWalk.i64_in _ (by omega)
      have W3 : ((s : Int) * 71 + z).tmod 2147483647 = (t : Int) := by rw [Int.tmod_eq_emod_of_nonneg (by omega)]; exact hte
      have W4 : IntKind.i64.wrap (t : Int) = (t : Int) := IntWalk.i64_in _ (by omega)
      have W5 : IntKind.i64.wrap (z : Int) = (z : Int) := IntWalk.i64_in _ (by omega)
      have hi1 : (0 : Int) ≤ (j : Int) := by omega
      have hi2 : (j : Int) < (n : Int) := by omega
      clear hbx hbx2 hS hby hby2 hcz0 HS0
      go_wp2_with fail
      apply via
      case h =>
        go_region
        all_goals exact ⟨rfl, rfl⟩
      clear W1 W2 W3 W4 W5
      go_wp2_with fail
      go_roundw
      case rel => exact ⟨j + 1, by omega, by go_num, HS.out.chg ((hC2.out).drew 1) ha ht HX2.out⟩
      case measure => simp [intOf]; omega
    · go_wp2_with fail
      all_goals
        go_ret
        exact ⟨_, rfl, HS.out⟩
--== spec.l01Pick
set_option maxHeartbeats 1000000 in
theorem s_l01Pick {w0 : World} {vc : Value} {n b : Nat} (w : World) (h : Src w0 vc n b w) (vl : Value) (xs : List Int) (hv : Rd w vl xs) (hst : ∀ w', Chg b (b + 1) w w' → Rd w' vl xs) (hx : 0 < xs.length) (hl : xs.length ≤ 1000) :
    Calls Try.prog 154 #[.pointer (some ⟨b, 0, none⟩), vl] w (PickP w0 vc n b w xs) := by
  have HST := Lib.hid hst
  have HS := Lib.hid h
  obtain ⟨ao, cap, rfl, _, _⟩ := hv.form
  clear hst hv h
  go_enter Try.func154, Try.ntmps154
  go_wp2_with fail
  refine (s_l01Next w HS.out (xs.length : Int) (by omega) (by omega)).mono ?_
  rintro e w1 ⟨r, rfl, h0, h1, hS, hC⟩
  obtain ⟨q, rfl⟩ : ∃ q : Nat, r = (q : Int) := ⟨r.toNat, by omega⟩
  have hq : q < xs.length := by rcases h1 with h1 | h1 <;> omega
  have hrd := HST.out w1 hC
  have HSS := Lib.hid hS
  have HC := Lib.hid hC
  obtain ⟨bb, off, rfl, hcell⟩ := hrd.at hq
  clear hS hC h1 hrd
  generalize hy : xs.getD q 0 = y at *
  have HY := Lib.hid hy
  clear hy
  go_wp2_with fail
  go_ret
  exact ⟨q, hq, by rw [HY.out]; rfl, HSS.out, HC.out⟩
--== spec.l06Count
theorem lit_keep {b : Nat} {w : World} {vs : Array Value} {xs : List Int} {m : Nat} (hb : b < w.heap.size) (h : Rd (w.alloc (.cells vs 2)) (.slice (some ⟨w.heap.size, 0, none⟩) m m) xs) :
    ∀ w', Chg b (b + 1) (w.alloc (.cells vs 2)) w' → Rd w' (.slice (some ⟨w.heap.size, 0, none⟩) m m) xs := fun w' hc => h.chg1 hc (by omega)
set_option maxHeartbeats 1000000 in
theorem s_l06Count {w0 : World} {vc : Value} {n b : Nat} (w : World) (h : Src w0 vc n b w) : Calls Try.prog 107 #[.pointer (some ⟨b, 0, none⟩)] w (CntP w0 vc n b w) := by
  have HS := Lib.hid h
  clear h
  go_enter Try.func107, Try.ntmps107
  go_wp2_with fail
  refine (s_l01Next w HS.out 20 (by omega) (by omega)).mono ?_
  rintro e w1 ⟨r, rfl, h0, h1, hS, hC⟩
  have HSS := Lib.hid hS
  have HC := Lib.hid hC
  clear hS hC
  by_cases hr : r = 0
  · subst hr
    have hlit := Rd.litI w1 [0, -1, 6, 7] (by simp)
    have hk := lit_keep HSS.out.lt hlit
    have HA := Lib.hid hlit
    have HK := Lib.hid hk
    have hb := Lib.hid (below_alloc w1 (Obj.cells ([0, -1, 6, 7].map (Value.int .i64)).toArray 2))
    clear hlit hk h1
    go_wp2_with fail
    refine (s_l01Pick _ (HSS.out.below hb.out) _ [0, -1, 6, 7] HA.out HK.out (by simp) (by simp)).mono ?_
    rintro e w2 ⟨q, hq, rfl, hS2, hC2⟩
    have HS2 := Lib.hid hS2
    have HC2 := Lib.hid ((HC.out.bel hb.out).tr hC2)
    have hx : -1 ≤ ([0, -1, 6, 7] : List Int).getD q 0 ∧ ([0, -1, 6, 7] : List Int).getD q 0 ≤ 7 := by
      have : q < 4 := hq
      match q, this with
      | 0, _ => decide
      | 1, _ => decide
      | 2, _ => decide
      | 3, _ => decide
    generalize ([0, -1, 6, 7] : List Int).getD q 0 = x at *
    clear hS2 hC2 hq
    go_wp2_with fail
    go_ret
    exact ⟨x, rfl, hx.1, hx.2, HS2.out, HC2.out⟩
  · have hr1 : (r == 0) = false := by simpa using hr
    clear h1 hr
    go_wp2_with fail
    refine (s_l01Next w1 HSS.out 3 (by omega) (by omega)).mono ?_
    rintro e w2 ⟨s, rfl, h2, h3, hS2, hC2⟩
    have HS2 := Lib.hid hS2
    have HC2 := Lib.hid (HC.out.tr hC2)
    have hs : s ≤ 2 := by rcases h3 with h3 | h3 <;> omega
    clear hS2 hC2 h3
    go_wp2_with fail
    go_ret
    exact ⟨_, rfl, by omega, by omega, HS2.out, HC2.out⟩
--== spec.l06Letters
set_option maxHeartbeats 2000000 in
theorem s_l06Letters {w0 : World} {vc : Value} {n b : Nat} (w : World) (h : Src w0 vc n b w) (k : Int) (L : Nat) (hk : k ≤ 100) (hL : L ≤ 1000) :
    Calls Try.prog 155 #[.pointer (some ⟨b, 0, none⟩), .int .i64 k, .int .i64 L] w (LetP w0 vc n b w L) := by
  obtain ⟨i0, hi, hz0, hz1, hz2⟩ := info_parts Try.info2
  have HS := Lib.hid h
  have hbl := h.lt
  have hw0 := h.be.size
  clear h
  go_enter Try.func155, Try.ntmps155
  go_wp2_with fail
  go_loopw [7, 8] (fun u i wr => ∃ (j : Nat) (xs : List Int), j ≤ L ∧ i = .int .i64 j ∧ xs.length = j ∧ Tiny xs ∧ Ints wr w.heap.size u xs ∧ Src w0 vc n b wr ∧ Chg b (b + 1) w wr) (fun _ i _ => L - (intOf i).toNat)
  case atStart => exact ⟨0, [], Nat.zero_le _, rfl, rfl, Tiny.nil, Ints.empty w, HS.out.below (below_alloc _ _), Chg.of_below (below_alloc _ _) _ _⟩
  case round =>
    obtain ⟨j, xs, hj, rfl, hxl, hT, hI, hS, hC⟩ := hrel
    have HXL := Lib.hid hxl
    have HSS := Lib.hid hS
    have HC := Lib.hid hC
    have HT := Lib.hid hT
    have HI := Lib.hid hI
    clear hxl hT hS hC hI
    by_cases hlt : j < L ∧ 0 < k
    · obtain ⟨h1, h2⟩ := hlt
      go_wp2_with fail
      refine (s_l01Next wr HSS.out k (by omega) (by omega)).mono ?_
      rintro e w1 ⟨r, rfl, r0, r1, hS1, hC1⟩
      have hr : r < k := by rcases r1 with r1 | r1 <;> omega
      have HS1 := Lib.hid hS1
      have HC1 := Lib.hid (HC.out.tr hC1)
      have HI1 := Lib.hid (HI.out.chgb hC1 hbl)
      clear hS1 hC1 r1
      go_wp2_with fail
      refine (s_l01Next w1 HS1.out 2 (by omega) (by omega)).mono ?_
      rintro e w2 ⟨s, rfl, s0, s1, hS2, hC2⟩
      have HS2 := Lib.hid hS2
      have HC2 := Lib.hid (HC1.out.tr hC2)
      have HI2 := Lib.hid (HI1.out.chgb hC2 hbl)
      have hlen : xs.length ≤ 1000000000 := by have := HXL.out; omega
      have hsz := HC2.out.size
      clear hS2 hC2 s1
      by_cases hs : s = 0
      · subst hs
        go_wp2_with (at_builtin; refine wp_app1 _ rfl _ _ rfl w.heap.size i0 Try.underlying22 hi hz0 hz1 hz2 _ _ rfl HI2.out (-(1 + r)) rfl hlen hsz ?_)
        intro v' w3 hI3 hG3 hB3
        go_wp2_with fail
        go_roundw
        case rel => exact ⟨j + 1, xs ++ [-(1 + r)], by omega, by go_num, by rw [List.length_append, HXL.out]; rfl, HT.out.snoc (by omega), hI3, HS2.out.belowB hB3 hbl hw0, HC2.out.belB hB3⟩
        case measure => simp [intOf]; omega
      · have hs1 : (s == 0) = false := by simpa using hs
        clear hs
        go_wp2_with (at_builtin; refine wp_app1 _ rfl _ _ rfl w.heap.size i0 Try.underlying22 hi hz0 hz1 hz2 _ _ rfl HI2.out (1 + r) rfl hlen hsz ?_)
        intro v' w3 hI3 hG3 hB3
        go_wp2_with fail
        go_roundw
        case rel => exact ⟨j + 1, xs ++ [1 + r], by omega, by go_num, by rw [List.length_append, HXL.out]; rfl, HT.out.snoc (by omega), hI3, HS2.out.belowB hB3 hbl hw0, HC2.out.belB hB3⟩
        case measure => simp [intOf]; omega
    · go_wp2_with fail
      all_goals
        go_ret
        exact ⟨_, xs, rfl, HT.out, by rw [HXL.out]; exact hj, HI.out, HSS.out, HC.out⟩
end Go.Proofs.Ythnpndheaailjaa
