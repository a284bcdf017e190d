/-
  Drawn abelian groups.
-/
import Derived.Test.YtnedihpppbjmdaaGreatDoorAbp
import Derived.Test.YtnedihpppbjmdaaGreatDoorAbn
namespace Go.Proofs.YtnedihpppbjmdaaGreatDoor
set_option linter.unusedVariables false
set_option linter.unusedSimpArgs false
set_option maxRecDepth 100000
open Go.RowKit

/-- what a draw of a group leaves -/
def GrpP (w0 : World) (vc : Value) (nc b L M : Nat) (w : World) (e : Ending) (w' : World) : Prop := ∃ v fs r, e = .returned (.agg #[v, .int .i64 r]) ∧ fs.length ≤ L ∧ (∀ f ∈ fs, f ≤ M) ∧ -1 ≤ r ∧ r ≤ 11 ∧ Ints w' w.heap.size v (nI fs) ∧ Src w0 vc nc b w' ∧ Chg b (b + 1) w w'
--== a group in a box
theorem B2.set0 {w : World} {b : Nat} {v1 v2 : Value} (h : B2 w b v1 v2) (x : Value) : B2 (w.setCell ⟨b, 0, none⟩ x) b x v2 := by
  have h1 := heap_setCell_same w b 0 #[v1, v2] _ x h
  unfold B2; rw [h1]; simp
theorem B2.set1 {w : World} {b : Nat} {v1 v2 : Value} (h : B2 w b v1 v2) (x : Value) : B2 (w.setCell ⟨b, 1, none⟩ x) b v1 x := by
  have h1 := heap_setCell_same w b 1 #[v1, v2] _ x h
  unfold B2; rw [h1]; simp
theorem below_setCell (w : World) {B b : Nat} (hB : B ≤ b) (o : Nat) (x : Value) : Below B w (w.setCell ⟨b, o, none⟩ x) :=
  ⟨rfl, rfl, rfl, Nat.le_of_eq (by simp), fun k hk => heap_setCell_other w ⟨b, o, none⟩ k x (by show k ≠ b; omega)⟩
/-- a group that a draw makes, in box ba -/
structure AB (w0 : World) (vc : Value) (nc b : Nat) (w : World) (ba : Nat) (fs : List Nat) (r : Int) (v : Value) (wr : World) : Prop where
  src : Src w0 vc nc b wr
  bx : B2 wr ba v (.int .i64 r)
  own : Ints wr (w.heap.size + 1) v (nI fs)
  ne : ¬ v.ownBlock = some ba
  res : B2 wr w.heap.size (.slice none 0 0) (.int .i64 0)
  chg : Chg b (b + 1) w wr
  hb : b < w.heap.size
  hba : w.heap.size + 1 ≤ ba
theorem AB.re {w0 : World} {vc : Value} {nc b : Nat} {w : World} {ba : Nat} {fs fs9 : List Nat} {r r9 : Int} {v v9 : Value} {wr w' : World} (h : AB w0 vc nc b w ba fs r v wr) (hb : Below (w.heap.size + 1) wr w') (bx : B2 w' ba v9 (.int .i64 r9)) (own : Ints w' (w.heap.size + 1) v9 (nI fs9)) (ne : ¬ v9.ownBlock = some ba) : AB w0 vc nc b w ba fs9 r9 v9 w' where
  src := h.src.belowB hb (by have := h.hb; omega) (by have := h.src.lo; have := h.hb; omega)
  bx := bx
  own := own
  ne := ne
  res := h.res.below hb (Nat.lt_succ_self _)
  chg := h.chg.belB (hb.mono (Nat.le_succ _))
  hb := h.hb
  hba := h.hba
theorem AB.sz {w0 : World} {vc : Value} {nc b : Nat} {w : World} {ba : Nat} {fs : List Nat} {r : Int} {v : Value} {wr : World} (h : AB w0 vc nc b w ba fs r v wr) : w.heap.size + 1 ≤ wr.heap.size := by have := h.hba; have := h.bx.lt; omega
theorem AB.bel {w0 : World} {vc : Value} {nc b : Nat} {w : World} {ba : Nat} {fs : List Nat} {r : Int} {v : Value} {wr w' : World} (h : AB w0 vc nc b w ba fs r v wr) (hb : Below wr.heap.size wr w') : AB w0 vc nc b w ba fs r v w' :=
  h.re (hb.mono h.sz) (h.bx.below hb h.bx.lt) (h.own.below hb) h.ne
theorem AB.next {w0 : World} {vc : Value} {nc b : Nat} {w : World} {ba : Nat} {fs : List Nat} {r : Int} {v : Value} {wr w' : World} (h : AB w0 vc nc b w ba fs r v wr) (hS : Src w0 vc nc b w') (hC : Chg b (b + 1) wr w') : AB w0 vc nc b w ba fs r v w' where
  src := hS
  bx := (hC.block ba h.bx.lt (by have := h.hb; have := h.hba; omega)).trans h.bx
  own := h.own.chgb hC (by have := h.hb; omega)
  ne := h.ne
  res := (hC.block _ h.res.lt (by have := h.hb; omega)).trans h.res
  chg := h.chg.tr hC
  hb := h.hb
  hba := h.hba
theorem AB.grow {w0 : World} {vc : Value} {nc b : Nat} {w : World} {ba : Nat} {fs fs9 : List Nat} {r : Int} {v v9 : Value} {wr w9 : World} (h : AB w0 vc nc b w ba fs r v wr) (hI : Ints w9 (w.heap.size + 1) v9 (nI fs9)) (hG : Grew wr w9 v v9) :
    AB w0 vc nc b w ba fs9 r v9 (w9.setCell ⟨ba, 0, none⟩ v9) ∧ w9.cell? ⟨ba, 0, none⟩ = some v ∧ w9.frozen? ⟨ba, 0, none⟩ = false := by
  have hx : B2 w9 ba v (.int .i64 r) := (hG.grown.block ba h.bx.lt (fun e => h.ne e.symm)).trans h.bx
  have hb9 : Below (w.heap.size + 1) wr w9 := hG.below h.sz fun g hg => (h.own.lt g hg).1
  have hne : ¬ v9.ownBlock = some ba := fun e => by
    rcases hG.moved ba e with h1 | h1
    · exact h.ne h1
    · have := h.bx.lt; omega
  refine ⟨h.re (hb9.trans (below_setCell w9 h.hba 0 v9)) (hx.set0 v9) (own_of_block hI fun g hg => heap_setCell_other w9 ⟨ba, 0, none⟩ g v9 (fun e => hne (by rw [show ba = g from e.symm]; exact hg))) hne, hx.c0, hx.f 0⟩
theorem AB.setR {w0 : World} {vc : Value} {nc b : Nat} {w : World} {ba : Nat} {fs : List Nat} {r : Int} {v : Value} {wr : World} (h : AB w0 vc nc b w ba fs r v wr) (r9 : Int) : AB w0 vc nc b w ba fs r9 v (wr.setCell ⟨ba, 1, none⟩ (.int .i64 r9)) :=
  h.re (below_setCell wr h.hba 1 _) (h.bx.set1 _) (own_of_block h.own fun g hg => heap_setCell_other wr ⟨ba, 1, none⟩ g _ (fun e => h.ne (by rw [show ba = g from e.symm]; exact hg))) h.ne
theorem AB.set0 {w0 : World} {vc : Value} {nc b : Nat} {w : World} {ba : Nat} {fs fs9 : List Nat} {r : Int} {v v9 : Value} {wr : World} (h : AB w0 vc nc b w ba fs r v wr) (hI : Ints wr (w.heap.size + 1) v9 (nI fs9)) (hne : ¬ v9.ownBlock = some ba) : AB w0 vc nc b w ba fs9 r v9 (wr.setCell ⟨ba, 0, none⟩ v9) :=
  h.re (below_setCell wr h.hba 0 _) (h.bx.set0 _) (own_of_block hI fun g hg => heap_setCell_other wr ⟨ba, 0, none⟩ g _ (fun e => hne (by rw [show ba = g from e.symm]; exact hg))) hne
theorem AB.done {w0 : World} {vc : Value} {nc b : Nat} {w : World} {ba : Nat} {fs : List Nat} {r : Int} {v : Value} {wr : World} (h : AB w0 vc nc b w ba fs r v wr) :
    B2 ((wr.setCell ⟨w.heap.size, 0, none⟩ v).setCell ⟨w.heap.size, 1, none⟩ (.int .i64 r)) w.heap.size v (.int .i64 r) ∧ Ints ((wr.setCell ⟨w.heap.size, 0, none⟩ v).setCell ⟨w.heap.size, 1, none⟩ (.int .i64 r)) w.heap.size v (nI fs) ∧
    Src w0 vc nc b ((wr.setCell ⟨w.heap.size, 0, none⟩ v).setCell ⟨w.heap.size, 1, none⟩ (.int .i64 r)) ∧ Chg b (b + 1) w ((wr.setCell ⟨w.heap.size, 0, none⟩ v).setCell ⟨w.heap.size, 1, none⟩ (.int .i64 r)) := by
  have hbl : Below w.heap.size wr ((wr.setCell ⟨w.heap.size, 0, none⟩ v).setCell ⟨w.heap.size, 1, none⟩ (.int .i64 r)) := (below_setCell wr (Nat.le_refl _) 0 v).trans (below_setCell _ (Nat.le_refl _) 1 _)
  exact ⟨h.res.set _ _, (h.own.chg (chg_set2 _ _ _ _) fun g hg => .inr (by have := (h.own.lt g hg).1; omega)).mono (Nat.le_succ _), h.src.belowB hbl h.hb (by have := h.src.lo; have := h.hb; omega), h.chg.belB hbl⟩
theorem AB.len {w0 : World} {vc : Value} {nc b : Nat} {w : World} {ba : Nat} {fs : List Nat} {r : Int} {v : Value} {wr : World} (h : AB w0 vc nc b w ba fs r v wr) : ∃ ao cap, v = .slice ao fs.length cap := by
  obtain ⟨ao, cap, e, _⟩ := rd_formN h.own.rd (nI_length fs); exact ⟨ao, cap, e⟩
theorem run_appG (w : World) (ty : TypeId) (B : Nat) (v : Value) (xs : List Int) (hown : Ints w B v xs) (vx : Value) (ys : List Int) (hrd : Rd w vx ys) (hn : xs.length ≤ 1000000000) (hm : ys.length ≤ 1000000000) (hB : B ≤ w.heap.size) :
    ∃ v' w', (Builtin.append_ #[24, 24] ty #[v, vx]).run Tryz.prog w = .ok v' w' ∧ Ints w' B v' (xs ++ ys) ∧ Grew w w' v v' := by
  obtain ⟨i0, hi, hz0, hz1, hz2⟩ := info_parts Tryz.info2
  obtain ⟨v', w', hr, h1, h2, h3⟩ := run_app w B 24 ty 2 i0 (.int .i64 0) 8 Tryz.underlying24 hi hz0 hz1 hz2 rfl v xs.length (xs.map (Value.int .i64)) hown vx (ys.map (Value.int .i64)) hrd.cells (ints_oneCell _ _) (by simp [maxLen]; omega) (by simp; omega) hB
  refine ⟨v', w', hr, ?_, h2, h3⟩
  unfold Ints
  rw [List.length_append, List.map_append]
  simpa using h1
def slLen : Option Value → Nat
  | some (.slice _ n _) => n
  | _ => 0
--== spec.l05Good
set_option maxHeartbeats 16000000 in
theorem s_l05Good {w0 : World} {vc : Value} {nc b : Nat} (w : World) (h : Src w0 vc nc b w) : Calls Tryz.prog 47 #[.pointer (some ⟨b, 0, none⟩)] w (GrpP w0 vc nc b 9 1000000 w) := by
  obtain ⟨i0, hi, hz0, hz1, hz2⟩ := info_parts Tryz.info2
  have hb := h.lt
  have HA0 : Hid (AB w0 vc nc b w (w.heap.size + 1 + 1) [] 0 (.slice (some ⟨w.heap.size + 1, 0, none⟩) 0 0) (((w.alloc (.cells #[.slice none 0 0, .int .i64 0] 26)).alloc (.cells #[] 2)).alloc (.cells #[.slice (some ⟨w.heap.size + 1, 0, none⟩) 0 0, .int .i64 0] 26))) := by
    have hI := Ints.empty (w.alloc (.cells #[.slice none 0 0, .int .i64 0] 26))
    have e1 : (w.alloc (.cells #[.slice none 0 0, .int .i64 0] 26)).heap.size = w.heap.size + 1 := by simp
    rw [e1] at hI
    have hbx := B2.new ((w.alloc (.cells #[.slice none 0 0, .int .i64 0] 26)).alloc (.cells #[] 2)) (.slice (some ⟨w.heap.size + 1, 0, none⟩) 0 0) (.int .i64 0)
    rw [show ((w.alloc (.cells #[.slice none 0 0, .int .i64 0] 26)).alloc (.cells #[] 2)).heap.size = w.heap.size + 1 + 1 by simp] at hbx
    have hbl := below_allocs3' w (.cells #[.slice none 0 0, .int .i64 0] 26) (.cells #[] 2) (.cells #[.slice (some ⟨w.heap.size + 1, 0, none⟩) 0 0, .int .i64 0] 26)
    exact ⟨h.below hbl, hbx, hI.below (below_alloc _ _), by simp [Value.ownBlock], ((B2.new w _ _).alloc _).alloc _, Chg.of_below hbl _ _, hb, by omega⟩
  have HNX : Hid (∀ (m : Int) (wx : World), Src w0 vc nc b wx → -1000 ≤ m → m ≤ 1000 → Calls Tryz.prog 28 #[.pointer (some ⟨b, 0, none⟩), .int .i64 m] wx (Nxt w0 vc nc b wx m)) := fun m wx hs h1 h2 => s_l01Next wx hs m (by omega) (by omega)
  clear h
  go_enter Tryz.func47, Tryz.ntmps47
  go_wp2_with fail
  refine (HNX.out 4 _ HA0.out.src (by omega) (by omega)).mono ?_
  rintro e w1 ⟨r1, rfl, r10, r11, hS1, hC1⟩
  obtain ⟨k1, rfl⟩ : ∃ k : Nat, r1 = (k : Int) := ⟨r1.toNat, by omega⟩
  have hk1 : k1 ≤ 3 := by omega
  have HA1 := Lib.hid (HA0.out.next hS1 hC1)
  generalize w.heap.size + 1 + 1 = ba at *
  clear hS1 hC1 HA0 r10 r11
  go_wp2_with fail
  go_loopw [4, 5] (fun dv kv wr => ∃ (d k : Nat) (fs : List Nat) (v : Value), dv = .int .i64 d ∧ kv = .int .i64 k ∧ 1 ≤ d ∧ d ≤ 64 ∧ (k = 1 → d ≤ 16) ∧ (k = 2 → d ≤ 4) ∧ (k = 3 → d ≤ 1) ∧ k ≤ 3 ∧ fs.length + k ≤ 3 ∧ (∀ f ∈ fs, f ≤ 64) ∧ AB w0 vc nc b w ba fs 0 v wr) (fun _ kv _ => (intOf kv).toNat)
  case atStart => exact ⟨1, k1, [], _, rfl, rfl, by omega, by omega, by omega, by omega, by omega, hk1, by simp; omega, fun f hf => by simp at hf, HA1.out⟩
  case round =>
    clear HA1
    obtain ⟨d, k, fs, v, rfl, rfl, hd1, hd2, hd3, hd4, hd5, hk3, hfl, hfs, hA⟩ := hrel
    obtain ⟨av, cv, hv⟩ := hA.len
    obtain ⟨nv, hnv⟩ : ∃ n, fs.length = n := ⟨_, rfl⟩
    rw [hnv] at hv hfl
    have HNV := Lib.hid hnv
    subst hv
    clear hnv
    have HA := Lib.hid hA
    have HFS := Lib.hid hfs
    clear hA hfs
    by_cases hk0 : k = 0
    · subst hk0
      clear hd1 hd2 hd3 hd4 hd5 hk3
      go_wp2_with fail
      refine (HNX.out 3 _ HA.out.src (by omega) (by omega)).mono ?_
      rintro e w2 ⟨r2, rfl, r20, r21, hS2, hC2⟩
      have HA2 := Lib.hid (HA.out.next hS2 hC2)
      clear hS2 hC2 HA
      have hex : Hid (∃ x, x = r2) := ⟨_, rfl⟩
      by_cases h3 : r2 = 0
      case' pos =>
        subst h3
        go_wp2_with fail
        refine (HNX.out 4 _ HA2.out.src (by omega) (by omega)).mono ?_
        rintro e w3 ⟨rr, rfl, r30, r31, hS3, hC3⟩
        have HA3 := Lib.hid (HA2.out.next hS3 hC3)
        have HA4 := Lib.hid (HA3.out.setR rr)
        have c1 := HA3.out.bx.c1
        have g1 := HA3.out.bx.f 1
        have hr3 : -1 ≤ rr ∧ rr ≤ 11 := by omega
        clear hS3 hC3 HA2 r20 r21 r30 r31
        go_wp2_with fail
      case' neg =>
        have HA4 := HA2
        have hr3 : (-1 : Int) ≤ 0 ∧ (0 : Int) ≤ 11 := by omega
        clear HA2 r20 r21
        generalize (0 : Int) = rr at HA4 hr3
        go_wp2_with fail
      all_goals
        refine (HNX.out 16 _ HA4.out.src (by omega) (by omega)).mono ?_
        rintro e w5 ⟨r5, rfl, r50, r51, hS5, hC5⟩
        have HA5 := Lib.hid (HA4.out.next hS5 hC5)
        clear hS5 hC5 HA4
        by_cases h5 : r5 = 0
        · subst h5
          have HL5 : Hid (Ints (w5.alloc (.cells #[] 2)) (w.heap.size + 1) (.slice (some ⟨w5.heap.size, 0, none⟩) 0 0) (nI [])) := (Ints.empty w5).mono HA5.out.sz
          have HA6 := Lib.hid (HA5.out.bel (below_alloc w5 (.cells #[] 2)))
          have hb5 := HA5.out.bx.lt
          clear r50 r51
          go_wp2_with fail
          refine (HNX.out 2 _ HA6.out.src (by omega) (by omega)).mono ?_
          rintro e w7 ⟨r7, rfl, r70, r71, hS7, hC7⟩
          have HA7 := Lib.hid (HA6.out.next hS7 hC7)
          have HL7 : Hid (Ints w7 (w.heap.size + 1) (.slice (some ⟨w5.heap.size, 0, none⟩) 0 0) (nI [])) := HL5.out.chgb hC7 (by omega)
          have HA8 := Lib.hid ((HA7.out.set0 (fs9 := []) HL7.out (by simp [Value.ownBlock]; omega)).setR r7)
          have c0 := HA7.out.bx.c0
          have c1 := HA7.out.bx.c1
          have g0 := HA7.out.bx.f 0
          have g1 := HA7.out.bx.f 1
          have hr7 : -1 ≤ r7 ∧ r7 ≤ 11 := by omega
          clear hS7 hC7 HA6 HL5 HL7 r70 r71 HA5
          go_wp2_with fail
          go_loopw [43] (fun _ wr => ∃ (gs : List Nat) (v : Value), gs.length ≤ 9 ∧ (∀ f ∈ gs, f ≤ 1000000) ∧ AB w0 vc nc b w ba gs r7 v wr) (fun _ wr => 9 - slLen (wr.cell? ⟨ba, 0, none⟩))
          case atStart => exact ⟨[], _, by simp, fun f hf => by simp at hf, HA8.out⟩
          case round =>
            clear HA8 HA7 c0 c1 g0 g1 HFS
            obtain ⟨gs, v, hgl, hgs, hA⟩ := hrel
            obtain ⟨ag, cg, hv⟩ := hA.len
            obtain ⟨ng, hng⟩ : ∃ n, gs.length = n := ⟨_, rfl⟩
            rw [hng] at hv hgl
            have HNG := Lib.hid hng
            subst hv
            have HGS := Lib.hid hgs
            have HA := Lib.hid hA
            have c0 := hA.bx.c0
            have hsz := hA.sz
            have hbl := hA.bx.lt
            clear hng hgs hA
            by_cases hlt : ng < 9
            · have HNX1 : Hid (∀ wx, Below wr.heap.size wr wx → Calls Tryz.prog 28 #[.pointer (some ⟨b, 0, none⟩), .int .i64 1] wx fun e w' => e = .returned (.int .i64 0) ∧ AB w0 vc nc b w ba gs r7 (.slice ag ng cg) w' ∧ Chg b (b + 1) wx w') := fun wx hx => (HNX.out 1 wx (HA.out.bel hx).src (by omega) (by omega)).mono fun e w' ⟨r, he, h0, h1, hS, hC⟩ => ⟨by rw [he, show r = 0 by omega], (HA.out.bel hx).next hS hC, hC⟩
              have HAPP : Hid (∀ (w6 : World), AB w0 vc nc b w ba gs r7 (.slice ag ng cg) w6 → ∃ a9 p9 w8, (Builtin.append_ #[24, 24] 24 #[.slice ag ng cg, .slice (some ⟨w6.heap.size, 0, none⟩) 1 1]).run Tryz.prog (w6.alloc (.cells #[.int .i64 2] 2)) = .ok (.slice a9 (ng + 1) p9) w8 ∧
                  AB w0 vc nc b w ba (gs ++ [2]) r7 (.slice a9 (ng + 1) p9) (w8.setCell ⟨ba, 0, none⟩ (.slice a9 (ng + 1) p9)) ∧ w8.cell? ⟨ba, 0, none⟩ = some (.slice ag ng cg) ∧ w8.frozen? ⟨ba, 0, none⟩ = false) := fun w6 hA6 => by
                have hA7 := hA6.bel (below_alloc w6 (.cells #[.int .i64 2] 2))
                obtain ⟨v8, w8, hr8, hI8, hG8⟩ := run_appG _ 24 _ _ _ hA7.own _ _ (Rd.lit1 w6 2) (by rw [nI_length, HNG.out]; omega) (by simp) hA7.sz
                have hI9 : Ints w8 (w.heap.size + 1) v8 (nI (gs ++ [2])) := by rw [nI_snoc]; exact hI8
                obtain ⟨a9, p9, rfl, _, _⟩ := rd_formN hI9.rd (n := ng + 1) (by rw [nI_length, List.length_append, HNG.out]; rfl)
                exact ⟨a9, p9, w8, hr8, hA7.grow hI9 hG8⟩
              have HLC : Hid (∀ w6, Chg b (b + 1) (wr.alloc (.cells #[.int .i64 2, .int .i64 997, .int .i64 1000000] 2)).drew w6 → w6.cell? ⟨wr.heap.size, 0, none⟩ = some (.int .i64 2)) := fun w6 hC => by
                have h1 := hC.block wr.heap.size (by show wr.heap.size < (wr.alloc (.cells #[.int .i64 2, .int .i64 997, .int .i64 1000000] 2)).heap.size; simp) (by have := HA.out.hb; have := HA.out.sz; omega)
                have h2 : (wr.alloc (.cells #[.int .i64 2, .int .i64 997, .int .i64 1000000] 2)).cell? ⟨wr.heap.size, 0, none⟩ = some (.int .i64 2) := by simp
                exact (World.cell?_of_block h1).trans h2
              go_upto_region 14 with (fail)
              go_region_law (first
                  | (go_simp; go_at_call 28; (with_reducible refine (HNX1.out _ (Below.refl _ _).drew).mono ?_); (rintro e w6 ⟨rfl, hA6, hC6⟩); (have hA6' := Lib.hid hA6); (have c6 := hA6.bx.c0); (have s6 := hA6.bx.lt); (have s7 := hA6.sz); (obtain ⟨a9, p9, w8, hr8, hA8, c8, f8⟩ := HAPP.out _ (hA6.bel (below_alloc w6 (.cells #[.int .i64 2, .int .i64 997, .int .i64 1000000] 2)))); (have HA8 := Lib.hid hA8))
                  | (go_simp; go_at_call 28; (with_reducible refine (HNX1.out _ (below_alloc _ _).drew).mono ?_); (rintro e w6 ⟨rfl, hA6, hC6⟩); (have hA6' := Lib.hid hA6); (have c6 := hA6.bx.c0); (have s6 := hA6.bx.lt); (have s7 := hA6.sz); (have q6 := HLC.out w6 hC6); (obtain ⟨a9, p9, w8, hr8, hA8, c8, f8⟩ := HAPP.out _ hA6); (have HA8 := Lib.hid hA8))
                  | (refine step_of_run rfl (.tmp 45) (.tmp 51) 24 rfl _ _ (by simp [Act.eval, Act.put]) (by simp [Act.eval, Act.put]) _ _ hr8 ?_))
              all_goals
                have HA9 := HA8
                clear HA8 hA6 hA8 hr8
                go_wp2_with fail
                go_roundw
                case rel => exact ⟨gs ++ [2], _, by rw [List.length_append, HNG.out]; simp; omega, fun f hf => by
                  rcases List.mem_append.1 hf with h1 | h1
                  · exact HGS.out f h1
                  · rw [List.mem_singleton.1 h1]; omega, HA9.out⟩
                case measure => rw [HA9.out.bx.c0, HA.out.bx.c0]; simp only [slLen]; omega
            · have HAF := HA
              clear c0 HA
              obtain ⟨q0, q1, q2, q3⟩ := HAF.out.done
              have HQ := Lib.hid (And.intro q1 (And.intro q2 q3))
              have c0 := HAF.out.bx.c0
              have c1 := HAF.out.bx.c1
              have z0 := HAF.out.res.c0
              have z1 := HAF.out.res.c1
              have f0 := HAF.out.res.f 0
              have f1 := HAF.out.res.f 1
              have p0 := q0.c0
              have p1 := q0.c1
              clear q0 q1 q2 q3
              go_wp2_with fail
              refine bodyPost_ret (v := .agg #[.slice ag ng cg, .int .i64 r7]) (by simp [results, Tryz.results47, go_sem, p0, p1]) rfl ?_
              exact ⟨_, gs, _, rfl, by rw [HNG.out]; omega, HGS.out, hr7.1, hr7.2, HQ.out⟩
        · have HAF := HA5
          clear HA5

          obtain ⟨q0, q1, q2, q3⟩ := HAF.out.done
          have HQ := Lib.hid (And.intro q1 (And.intro q2 q3))
          have c0 := HAF.out.bx.c0
          have c1 := HAF.out.bx.c1
          have z0 := HAF.out.res.c0
          have z1 := HAF.out.res.c1
          have f0 := HAF.out.res.f 0
          have f1 := HAF.out.res.f 1
          have p0 := q0.c0
          have p1 := q0.c1
          clear q0 q1 q2 q3
          go_wp2_with fail
          refine bodyPost_ret (v := .agg #[.slice av nv cv, .int .i64 rr]) (by simp [results, Tryz.results47, go_sem, p0, p1]) rfl ?_
          exact ⟨_, fs, _, rfl, by rw [HNV.out]; omega, fun f hf => by have := HFS.out f hf; omega, hr3.1, hr3.2, HQ.out⟩
    · obtain ⟨k', rfl⟩ : ∃ k', k = k' + 1 := ⟨k - 1, by omega⟩
      have hkk : ((k' + 1 : Nat) : Int) - 1 = (k' : Int) := by omega
      have hk0' : (0 : Int) < ((k' + 1 : Nat) : Int) := by omega
      have hk9 : ((k' + 1 : Nat) : Int) ≤ 3 := by omega
      go_wp2_with fail
      refine (HNX.out 4 _ HA.out.src (by omega) (by omega)).mono ?_
      rintro e w2 ⟨r2, rfl, r20, r21, hS2, hC2⟩
      obtain ⟨q, rfl⟩ : ∃ q : Nat, r2 = (q : Int) := ⟨r2.toNat, by omega⟩
      have HA2 := Lib.hid (HA.out.next hS2 hC2)
      have hq : q ≤ 3 := by omega
      obtain ⟨D, hD⟩ : ∃ D, d * (1 + q) = D := ⟨_, rfl⟩
      have hD1 : D ≤ 4 * d := by rw [← hD, Nat.mul_comm 4 d]; exact Nat.mul_le_mul_left d (by omega)
      have hD2 : 1 ≤ D := by rw [← hD]; exact Nat.le_trans hd1 (Nat.le_mul_of_pos_right d (by omega))
      have hDi : (d : Int) * (1 + (q : Int)) = (D : Int) := by rw [← hD, Int.natCast_mul, Int.natCast_add]; rfl
      have hDw : IntKind.i64.wrap ((d : Int) * (1 + (q : Int))) = (D : Int) := by rw [hDi]; exact IntWalk.i64_in _ (by omega)
      have hqw : IntKind.i64.wrap (1 + (q : Int)) = 1 + (q : Int) := IntWalk.i64_in _ (by omega)
      have e1 : k' = 0 → D ≤ 64 := by omega
      have e2 : k' = 1 → D ≤ 16 := by omega
      have e3 : k' = 2 → D ≤ 4 := by omega
      have e4 : D ≤ 64 := by omega
      have HE : Hid ((k' = 1 → D ≤ 16) ∧ (k' = 2 → D ≤ 4) ∧ (k' = 3 → D ≤ 1)) := ⟨e2, e3, by omega⟩
      clear hS2 hC2 HA r20 r21 hD hd2 hd3 hd4 hd5 e1 e2 e3 hD1
      by_cases hDg : 1 < D
      · have hI := HA2.out.own
        have c0 := HA2.out.bx.c0
        have hsz := HA2.out.sz
        have hbl := HA2.out.bx.lt
        go_wp2_with (at_builtin; refine wp_app1 _ rfl _ _ rfl (w.heap.size + 1) i0 Tryz.underlying24 hi hz0 hz1 hz2 _ _ rfl hI (D : Int) rfl (by rw [nI_length, HNV.out]; omega) hsz ?_)
        intro v9 w9 hI9 hG9 hB9
        have hI10 : Ints w9 (w.heap.size + 1) v9 (nI (fs ++ [D])) := by rw [nI_snoc]; exact hI9
        obtain ⟨a9, p9, rfl, _, _⟩ := rd_formN hI10.rd (n := nv + 1) (by rw [nI_length, List.length_append, HNV.out]; rfl)
        obtain ⟨hA9, c9, f9⟩ := HA2.out.grow hI10 hG9
        have HA9 := Lib.hid hA9
        clear hI9 hG9 hB9 hI10 hA9 hI c0
        go_wp2_with fail
        go_roundw
        case rel => exact ⟨D, k', fs ++ [D], _, by go_num, by go_num, hD2, e4, HE.out.1, HE.out.2.1, HE.out.2.2, by omega, by rw [List.length_append, List.length_singleton, HNV.out]; omega, fun f hf => by
          rcases List.mem_append.1 hf with h1 | h1
          · exact HFS.out f h1
          · rw [List.mem_singleton.1 h1]; exact e4, HA9.out⟩
        case measure => simp [intOf]
      · go_wp2_with fail
        go_roundw
        case rel => exact ⟨D, k', fs, _, by go_num, by go_num, hD2, e4, HE.out.1, HE.out.2.1, HE.out.2.2, by omega, by rw [HNV.out]; omega, HFS.out, HA2.out⟩
        case measure => simp [intOf]
end Go.Proofs.YtnedihpppbjmdaaGreatDoor
