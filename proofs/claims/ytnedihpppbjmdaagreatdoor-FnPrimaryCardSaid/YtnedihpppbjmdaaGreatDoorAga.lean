/-
  Drawn abelian groups with many large factors, sometimes.
-/
import Derived.Test.YtnedihpppbjmdaaGreatDoorAbr
namespace Go.Proofs.YtnedihpppbjmdaaGreatDoor
set_option linter.unusedVariables false
set_option linter.unusedSimpArgs false
set_option maxRecDepth 100000
open Go.RowKit

--== spec.l05Great
set_option maxHeartbeats 16000000 in
theorem s_l05Great {w0 : World} {vc : Value} {nc b : Nat} (w : World) (h : Src w0 vc nc b w) : Calls Tryz.prog 14 #[.pointer (some ⟨b, 0, none⟩)] w (GrpP w0 vc nc b 10 2000000 w) := by
  obtain ⟨i0, hi, hz0, hz1, hz2⟩ := info_parts Tryz.info2
  have hb := h.lt
  have HS0 : Hid (Src w0 vc nc b (w.alloc (.cells #[.slice none 0 0, .int .i64 0] 26))) := h.below (below_alloc w _)
  have HNX : Hid (∀ (m : Int) (wx : World), Src w0 vc nc b wx → -1000 ≤ m → m ≤ 1000 → Calls Tryz.prog 28 #[.pointer (some ⟨b, 0, none⟩), .int .i64 m] wx (Nxt w0 vc nc b wx m)) := fun m wx hs h1 h2 => s_l01Next wx hs m (by omega) (by omega)
  clear h
  go_enter Tryz.func14, Tryz.ntmps14
  go_wp2_with fail
  refine (HNX.out 6 _ HS0.out (by omega) (by omega)).mono ?_
  rintro e w1 ⟨r1, rfl, r10, r11, hS1, hC1⟩
  have hr0 : B2 w1 w.heap.size (.slice none 0 0) (.int .i64 0) := (hC1.block _ (by simp) (by omega)).trans (B2.new w _ _)
  have HS1 := Lib.hid hS1
  have HC1 := Lib.hid ((Chg.of_below (below_alloc w (.cells #[.slice none 0 0, .int .i64 0] 26)) b (b + 1)).tr hC1)
  have HR0 := Lib.hid hr0
  have hs1 : w.heap.size + 1 ≤ w1.heap.size := by have := hr0.lt; omega
  clear hS1 hC1 hr0 HS0
  by_cases h1 : 0 < r1
  · go_wp2_with fail
    refine (s_l05Draw _ HS1.out).mono ?_
    rintro e w2 ⟨v, fs, r, rfl, hfl, hfs, hr1, hr2, hI, hS, hC⟩
    obtain ⟨av, cv, hv, _, _⟩ := rd_formN hI.rd (nI_length fs)
    subst hv
    have hx0 : B2 w2 w.heap.size (.slice none 0 0) (.int .i64 0) := (hC.block _ HR0.out.lt (by omega)).trans HR0.out
    have z0 := hx0.c0
    have z1 := hx0.c1
    have f0 := hx0.f 0
    have f1 := hx0.f 1
    have q := hx0.set (.slice av fs.length cv) (.int .i64 r)
    have p0 := q.c0
    have p1 := q.c1
    have hbl : Below w.heap.size w2 ((w2.setCell ⟨w.heap.size, 0, none⟩ (.slice av fs.length cv)).setCell ⟨w.heap.size, 1, none⟩ (.int .i64 r)) := (below_setCell w2 (Nat.le_refl _) 0 _).trans (below_setCell _ (Nat.le_refl _) 1 _)
    have HQ : Hid (Ints ((w2.setCell ⟨w.heap.size, 0, none⟩ (.slice av fs.length cv)).setCell ⟨w.heap.size, 1, none⟩ (.int .i64 r)) w.heap.size (.slice av fs.length cv) (nI fs) ∧ Src w0 vc nc b ((w2.setCell ⟨w.heap.size, 0, none⟩ (.slice av fs.length cv)).setCell ⟨w.heap.size, 1, none⟩ (.int .i64 r)) ∧ Chg b (b + 1) w ((w2.setCell ⟨w.heap.size, 0, none⟩ (.slice av fs.length cv)).setCell ⟨w.heap.size, 1, none⟩ (.int .i64 r))) :=
      ⟨(hI.chg (chg_set2 _ _ _ _) fun g hg => .inr (by have := (hI.lt g hg).1; omega)).mono (by omega), hS.belowB hbl hb (by have := hS.lo; omega), (HC1.out.tr hC).belB hbl⟩
    clear hI hS hC hx0 q hbl
    go_wp2_with fail
    refine bodyPost_ret (v := .agg #[.slice av fs.length cv, .int .i64 r]) (by simp [results, Tryz.results14, go_sem, p0, p1]) rfl ?_
    exact ⟨_, fs, _, rfl, hfl, hfs, hr1, hr2, HQ.out⟩
  · have hA0 : AB w0 vc nc b w (w1.heap.size + 1) [] 0 (.slice (some ⟨w1.heap.size, 0, none⟩) 0 0) ((w1.alloc (.cells #[] 2)).alloc (.cells #[.slice (some ⟨w1.heap.size, 0, none⟩) 0 0, .int .i64 0] 26)) := by
      have hbl := below_size (below_alloc w1 (.cells #[] 2)) (below_alloc _ (.cells #[.slice (some ⟨w1.heap.size, 0, none⟩) 0 0, .int .i64 0] 26))
      have hbx := B2.new (w1.alloc (.cells #[] 2)) (.slice (some ⟨w1.heap.size, 0, none⟩) 0 0) (.int .i64 0)
      rw [show (w1.alloc (.cells #[] 2)).heap.size = w1.heap.size + 1 by simp] at hbx
      exact ⟨HS1.out.below hbl, hbx, ((Ints.empty w1).mono hs1).below (below_alloc _ _), by simp [Value.ownBlock], HR0.out.below hbl HR0.out.lt, HC1.out.bel hbl, hb, by omega⟩
    have hA1 := hA0.bel (below_alloc _ (.cells #[.int .i64 997, .int .i64 1000000, .int .i64 210, .int .i64 64] 2))
    have HA1 := Lib.hid hA1
    have hsz : ((w1.alloc (.cells #[] 2)).alloc (.cells #[.slice (some ⟨w1.heap.size, 0, none⟩) 0 0, .int .i64 0] 26)).heap.size = w1.heap.size + 1 + 1 := by simp
    have hsy : (((w1.alloc (.cells #[] 2)).alloc (.cells #[.slice (some ⟨w1.heap.size, 0, none⟩) 0 0, .int .i64 0] 26)).alloc (.cells #[.int .i64 997, .int .i64 1000000, .int .i64 210, .int .i64 64] 2)).heap.size = w1.heap.size + 1 + 1 + 1 := by simp
    have hlw : ∀ (W : World) (q : Nat), q < 4 → ∃ x : Nat, x ≤ 1000000 ∧ (W.alloc (.cells #[.int .i64 997, .int .i64 1000000, .int .i64 210, .int .i64 64] 2)).cell? ⟨W.heap.size, q, none⟩ = some (.int .i64 (x : Int)) := fun W q hq => by
      rcases (show q = 0 ∨ q = 1 ∨ q = 2 ∨ q = 3 by omega) with rfl | rfl | rfl | rfl
      · exact ⟨997, by omega, by simp⟩
      · exact ⟨1000000, by omega, by simp⟩
      · exact ⟨210, by omega, by simp⟩
      · exact ⟨64, by omega, by simp⟩
    have hlc := hlw ((w1.alloc (.cells #[] 2)).alloc (.cells #[.slice (some ⟨w1.heap.size, 0, none⟩) 0 0, .int .i64 0] 26))
    rw [hsz] at hlc
    have HLC := Lib.hid hlc
    have HSY := Lib.hid hsy
    clear hA0 hA1 hsz hlc hsy hlw
    go_wp2_with fail
    refine (HNX.out 4 _ HA1.out.src (by omega) (by omega)).mono ?_
    rintro e w2 ⟨r2, rfl, r20, r21, hS2, hC2⟩
    obtain ⟨q, rfl⟩ : ∃ q : Nat, r2 = (q : Int) := ⟨r2.toNat, by omega⟩
    obtain ⟨x, hx9, hxc⟩ := HLC.out q (by omega)
    have hb1 : b < w1.heap.size := by omega
    have hcx : w2.cell? ⟨w1.heap.size + 1 + 1, q, none⟩ = some (.int .i64 (x : Int)) := (World.cell?_of_block (hC2.block (w1.heap.size + 1 + 1) (by rw [HSY.out]; omega) (by omega))).trans hxc
    have HA2 := Lib.hid (HA1.out.next hS2 hC2)
    have q1 : (0 : Int) ≤ (q : Int) := by omega
    have q2 : (q : Int) < 4 := by omega
    clear hS2 hC2 HA1 HLC HSY hxc r20 r21
    go_wp2_with fail
    refine (HNX.out 8 _ HA2.out.src (by omega) (by omega)).mono ?_
    rintro e w3 ⟨r3, rfl, r30, r31, hS3, hC3⟩
    obtain ⟨k3, rfl⟩ : ∃ q : Nat, r3 = (q : Int) := ⟨r3.toNat, by omega⟩
    have hk3 : k3 ≤ 7 := by omega
    have HA3 := Lib.hid (HA2.out.next hS3 hC3)
    generalize w1.heap.size + 1 = ba at *
    clear hS3 hC3 HA2 r30 r31 hcx q1 q2
    have k31 : (k3 : Int) ≤ 7 := by omega
    have k30 : (0 : Int) ≤ (k3 : Int) := by omega
    go_wp2_with fail
    go_loopw [5] (fun kv wr => ∃ (k : Nat) (fs : List Nat) (v : Value), kv = .int .i64 k ∧ fs.length + k ≤ 9 ∧ (∀ f ∈ fs, f ≤ 1000000) ∧ AB w0 vc nc b w ba fs 0 v wr) (fun kv _ => (intOf kv).toNat)
    case atStart => exact ⟨2 + k3, [], _, by first | rfl | (congr 1; omega) | (simp; done), by simp; omega, fun f hf => by simp at hf, HA3.out⟩
    case round =>
      clear HA3
      obtain ⟨k, fs, v, rfl, hfl, hfs, hA⟩ := hrel
      obtain ⟨av, cv, hv⟩ := hA.len
      obtain ⟨nv, hnv⟩ : ∃ n, fs.length = n := ⟨_, rfl⟩
      rw [hnv] at hv hfl
      have HNV := Lib.hid hnv
      subst hv
      clear hnv
      have HA := Lib.hid hA
      have HFS := Lib.hid hfs
      clear hA hfs
      by_cases hk0 : k = 0
      · subst hk0
        have HAF := HA
        obtain ⟨q0, q1, q2, q3⟩ := HAF.out.done
        have HQ := Lib.hid (And.intro q1 (And.intro q2 q3))
        have c0 := HAF.out.bx.c0
        have c1 := HAF.out.bx.c1
        have z0 := HAF.out.res.c0
        have z1 := HAF.out.res.c1
        have f0 := HAF.out.res.f 0
        have f1 := HAF.out.res.f 1
        have p0 := q0.c0
        have p1 := q0.c1
        clear q0 q1 q2 q3
        go_wp2_with fail
        refine bodyPost_ret (v := .agg #[.slice av nv cv, .int .i64 0]) (by simp [results, Tryz.results14, go_sem, p0, p1]) rfl ?_
        exact ⟨_, fs, _, rfl, by rw [HNV.out]; omega, fun f hf => by have := HFS.out f hf; omega, by omega, by omega, HQ.out⟩
      · obtain ⟨k', rfl⟩ : ∃ k', k = k' + 1 := ⟨k - 1, by omega⟩
        have hkk : ((k' + 1 : Nat) : Int) - 1 = (k' : Int) := by omega
        have hk0' : (0 : Int) < ((k' + 1 : Nat) : Int) := by omega
        have hk9 : ((k' + 1 : Nat) : Int) ≤ 9 := by omega
        have hI := HA.out.own
        have c0 := HA.out.bx.c0
        have hsz := HA.out.sz
        have hbl := HA.out.bx.lt
        go_wp2_with (at_builtin; refine wp_app1 _ rfl _ _ rfl (w.heap.size + 1) i0 Tryz.underlying24 hi hz0 hz1 hz2 _ _ rfl hI (x : Int) rfl (by rw [nI_length, HNV.out]; omega) hsz ?_)
        intro v9 w9 hI9 hG9 hB9
        have hI10 : Ints w9 (w.heap.size + 1) v9 (nI (fs ++ [x])) := by rw [nI_snoc]; exact hI9
        obtain ⟨a9, p9, rfl, _, _⟩ := rd_formN hI10.rd (n := nv + 1) (by rw [nI_length, List.length_append, HNV.out]; rfl)
        obtain ⟨hA9, c9, f9⟩ := HA.out.grow hI10 hG9
        have HA9 := Lib.hid hA9
        clear hI9 hG9 hB9 hI10 hA9 hI c0
        go_wp2_with fail
        go_roundw
        case rel => exact ⟨k', fs ++ [x], _, by go_num, by rw [List.length_append, List.length_singleton, HNV.out]; omega, fun f hf => by
          rcases List.mem_append.1 hf with h1 | h1
          · exact HFS.out f h1
          · rw [List.mem_singleton.1 h1]; exact hx9, HA9.out⟩
        case measure => simp [intOf]
end Go.Proofs.YtnedihpppbjmdaaGreatDoor
