/-
  A group of the families, by its shape alone.
  A valid presentation of the families.
  The presentation that is like another one but for an entry.
  The presentation that is bent: what it leaves is read as some presentation.
  A region that draws its order and whose last operation writes a cell that an earlier one loads: the condition on the world is asked for only till that last operation comes up.
-/
import Derived.Test.YtiikoappknejgaaZf
import Derived.Test.YtiikoappknejgaaZg
import Derived.Test.YtiikoappknejgaaZe
import Derived.Deep.RegionHeld3
import Derived.Test.YtiikoappknejgaaZa
namespace Go.Proofs.Ytiikoappknejgaa
set_option linter.unusedVariables false
set_option linter.unusedSimpArgs false
set_option maxRecDepth 100000
open Go.RowKit
attribute [local go_sem ↓] Go.wp_at_zero Go.wp_at_succ

--== plain
theorem ws_cycP {os : List Int} (h : primesB os = true) (j : Nat) : WS os.length (cycP os j) where
  on := rfl
  pr := h
  pl := cycPow_len _ _
  cl := (ws_triv h).cl
  rl := (ws_triv h).rl
  pv i hi := by
    show ((cycPow os.length j).getD i []).length = _
    unfold cycPow cycRow zrow
    rw [List.getD_eq_getElem?_getD, List.getElem?_map, List.getElem?_range hi]
    show (if i < j then unitL os.length (i + 1) else List.replicate os.length 0).length = _
    split
    · exact unitL_length _ _
    · simp
  cv := (ws_triv h).cv
def cycOK (x : Int) : Bool := decide (cycC x = 0) && (primesB (cycOs x) && decide ((cycOs x).length ≤ 6))
theorem cycOK_all : ∀ x ∈ [1, 4, 6, 8, 9, 12, 5, 7, 27, 25, 36], cycOK x = true := by decide +kernel
theorem ws_cyc {x : Int} (h : cycOK x = true) : cycC x = 0 ∧ WS6 (okP (cycC x) (cycR x)) := by
  unfold cycOK at h
  rw [Bool.and_eq_true, Bool.and_eq_true, decide_eq_true_eq, decide_eq_true_eq] at h
  obtain ⟨h1, h2, h3⟩ := h
  refine ⟨h1, ?_⟩
  rw [h1, okP_zero]
  exact ⟨_, h3, ws_cycP h2 _⟩
theorem lit_keepB {b : Nat} {w : World} {vs : Array Value} {xs : List Int} {m : Nat} (hb : b < w.heap.size) (h : Rd (w.alloc (.cells vs 2)) (.slice (some ⟨w.heap.size, 0, none⟩) m m) xs) :
    ∀ w', Chg b (b + 1) (w.alloc (.cells vs 2)) w' → Rd w' (.slice (some ⟨w.heap.size, 0, none⟩) m m) xs := fun w' hc => h.chg1 hc (by omega)
/-- where the draw of a family stands -/
def FSt (w0 : World) (vc : Value) (nc b : Nat) (w wx : World) : Prop := Src w0 vc nc b wx ∧ Chg b (b + 1) w wx ∧ Bx wx w.heap.size (.slice none 0 0) (.slice none 0 0) (.slice none 0 0) ∧ b < w.heap.size ∧ w0.heap.size ≤ w.heap.size
theorem FSt.bel {w0 w wx wy : World} {vc : Value} {nc b : Nat} (h : FSt w0 vc nc b w wx) (hb : Below wx.heap.size wx wy) : FSt w0 vc nc b w wy := ⟨h.1.below hb, h.2.1.bel hb, h.2.2.1.below hb h.2.2.1.lt, h.2.2.2⟩
theorem FSt.keep {w0 w wx wy : World} {vc : Value} {nc b : Nat} (h : FSt w0 vc nc b w wx) (hs : Src w0 vc nc b wy) (hc : Chg b (b + 1) wx wy) : FSt w0 vc nc b w wy := ⟨hs, h.2.1.tr hc, h.2.2.1.chg (chgS_of hc) (by have := h.2.2.2.1; omega), h.2.2.2⟩
theorem FSt.lt {w0 w wx : World} {vc : Value} {nc b : Nat} (h : FSt w0 vc nc b w wx) : w.heap.size < wx.heap.size := h.2.2.1.lt
theorem drp_set {w0 w w' : World} {vc : Value} {nc b : Nat} {C : Pres → Prop} {S : Nat → Prop} {v1 v2 v3 : Value} {p : Pres} (h : FSt w0 vc nc b w w') (hO : OP w' S v1 v2 v3 p) (hs : ∀ k, S k → w.heap.size < k) (hC : C p) :
    DrP C w0 vc nc b w (.returned (.agg #[v1, v2, v3])) (((w'.setCell ⟨w.heap.size, 0, none⟩ v1).setCell ⟨w.heap.size, 1, none⟩ v2).setCell ⟨w.heap.size, 2, none⟩ v3) := by
  obtain ⟨hS, hCh, hX, hb, h0⟩ := h
  have nb : ¬ S w.heap.size := fun hh => Nat.lt_irrefl _ (hs _ hh)
  have hbl := set3B ((Below.refl w'.heap.size w').mono hCh.size) (Nat.le_refl _) v1 v2 v3
  exact ⟨p, v1, v2, v3, hC, rfl, OP.sub (OP.sets (OP.sets (OP.sets hO nb 0 _) nb 1 _) nb 2 _) fun k hk hh => ⟨Nat.le_of_lt (hs k hh), hk⟩, hS.belowB hbl hb h0, hCh.belB hbl⟩
def r2 (a b : Int) : Obj := .cells #[.int .i64 a, .int .i64 b] 2
theorem aff2 (w : World) (a b a' b' : Int) : Rd2 (((w.alloc (r2 a b)).alloc (r2 a' b')).alloc (.cells #[.slice (some ⟨w.heap.size, 0, none⟩) 2 2, .slice (some ⟨w.heap.size + 1, 0, none⟩) 2 2] 24)) (.slice (some ⟨w.heap.size + 1 + 1, 0, none⟩) 2 2) [[a, b], [a', b']] := by
  have h1 : Rd (w.alloc (r2 a b)) (.slice (some ⟨w.heap.size, 0, none⟩) 2 2) [a, b] := Rd.litI w [a, b] (by simp)
  have h2 : Rd ((w.alloc (r2 a b)).alloc (r2 a' b')) (.slice (some ⟨(w.alloc (r2 a b)).heap.size, 0, none⟩) 2 2) [a', b'] := Rd.litI _ [a', b'] (by simp)
  rw [show (w.alloc (r2 a b)).heap.size = w.heap.size + 1 by simp] at h2
  have h5 := Rd2.lit2 24 _ _ _ _ (h1.below (below_alloc _ _)) h2
  rwa [show ((w.alloc (r2 a b)).alloc (r2 a' b')).heap.size = w.heap.size + 1 + 1 by simp] at h5
def r3 (a b c : Int) : Obj := .cells #[.int .i64 a, .int .i64 b, .int .i64 c] 2
theorem aff3 (w : World) (a b c a' b' c' a2 b2 c2 : Int) : Rd2 ((((w.alloc (r3 a b c)).alloc (r3 a' b' c')).alloc (r3 a2 b2 c2)).alloc (.cells #[.slice (some ⟨w.heap.size, 0, none⟩) 3 3, .slice (some ⟨w.heap.size + 1, 0, none⟩) 3 3, .slice (some ⟨w.heap.size + 1 + 1, 0, none⟩) 3 3] 24)) (.slice (some ⟨w.heap.size + 1 + 1 + 1, 0, none⟩) 3 3) [[a, b, c], [a', b', c'], [a2, b2, c2]] := by
  have h1 : Rd (w.alloc (r3 a b c)) (.slice (some ⟨w.heap.size, 0, none⟩) 3 3) [a, b, c] := Rd.litI w [a, b, c] (by simp)
  have h2 : Rd ((w.alloc (r3 a b c)).alloc (r3 a' b' c')) (.slice (some ⟨(w.alloc (r3 a b c)).heap.size, 0, none⟩) 3 3) [a', b', c'] := Rd.litI _ [a', b', c'] (by simp)
  have h3 : Rd (((w.alloc (r3 a b c)).alloc (r3 a' b' c')).alloc (r3 a2 b2 c2)) (.slice (some ⟨((w.alloc (r3 a b c)).alloc (r3 a' b' c')).heap.size, 0, none⟩) 3 3) [a2, b2, c2] := Rd.litI _ [a2, b2, c2] (by simp)
  rw [show (w.alloc (r3 a b c)).heap.size = w.heap.size + 1 by simp] at h2
  rw [show ((w.alloc (r3 a b c)).alloc (r3 a' b' c')).heap.size = w.heap.size + 1 + 1 by simp] at h3
  have h5 := Rd2.lit3 24 _ _ _ _ _ _ ((h1.below (below_alloc _ _)).below (below_alloc _ _)) (h2.below (below_alloc _ _)) h3
  rwa [show (((w.alloc (r3 a b c)).alloc (r3 a' b' c')).alloc (r3 a2 b2 c2)).heap.size = w.heap.size + 1 + 1 + 1 by simp] at h5
def r4 (a b c d : Int) : Obj := .cells #[.int .i64 a, .int .i64 b, .int .i64 c, .int .i64 d] 2
theorem aff4 (w : World) (a b c d : Int) (a' b' c' d' : Int) (a2 b2 c2 d2 : Int) (a3 b3 c3 d3 : Int) : Rd2 (((((w.alloc (r4 a b c d)).alloc (r4 a' b' c' d')).alloc (r4 a2 b2 c2 d2)).alloc (r4 a3 b3 c3 d3)).alloc (.cells #[.slice (some ⟨w.heap.size, 0, none⟩) 4 4, .slice (some ⟨w.heap.size + 1, 0, none⟩) 4 4, .slice (some ⟨w.heap.size + 1 + 1, 0, none⟩) 4 4, .slice (some ⟨w.heap.size + 1 + 1 + 1, 0, none⟩) 4 4] 24)) (.slice (some ⟨w.heap.size + 1 + 1 + 1 + 1, 0, none⟩) 4 4) [[a, b, c, d], [a', b', c', d'], [a2, b2, c2, d2], [a3, b3, c3, d3]] := by
  have h1 : Rd (w.alloc (r4 a b c d)) (.slice (some ⟨w.heap.size, 0, none⟩) 4 4) [a, b, c, d] := Rd.litI w [a, b, c, d] (by simp)
  have h2 : Rd ((w.alloc (r4 a b c d)).alloc (r4 a' b' c' d')) (.slice (some ⟨(w.alloc (r4 a b c d)).heap.size, 0, none⟩) 4 4) [a', b', c', d'] := Rd.litI _ [a', b', c', d'] (by simp)
  have h3 : Rd (((w.alloc (r4 a b c d)).alloc (r4 a' b' c' d')).alloc (r4 a2 b2 c2 d2)) (.slice (some ⟨((w.alloc (r4 a b c d)).alloc (r4 a' b' c' d')).heap.size, 0, none⟩) 4 4) [a2, b2, c2, d2] := Rd.litI _ [a2, b2, c2, d2] (by simp)
  have h4 : Rd ((((w.alloc (r4 a b c d)).alloc (r4 a' b' c' d')).alloc (r4 a2 b2 c2 d2)).alloc (r4 a3 b3 c3 d3)) (.slice (some ⟨(((w.alloc (r4 a b c d)).alloc (r4 a' b' c' d')).alloc (r4 a2 b2 c2 d2)).heap.size, 0, none⟩) 4 4) [a3, b3, c3, d3] := Rd.litI _ [a3, b3, c3, d3] (by simp)
  rw [show (w.alloc (r4 a b c d)).heap.size = w.heap.size + 1 by simp] at h2
  rw [show ((w.alloc (r4 a b c d)).alloc (r4 a' b' c' d')).heap.size = w.heap.size + 1 + 1 by simp] at h3
  rw [show (((w.alloc (r4 a b c d)).alloc (r4 a' b' c' d')).alloc (r4 a2 b2 c2 d2)).heap.size = w.heap.size + 1 + 1 + 1 by simp] at h4
  have h5 := Rd2.lit4 24 _ _ _ _ _ _ _ _ (((h1.below (below_alloc _ _)).below (below_alloc _ _)).below (below_alloc _ _)) ((h2.below (below_alloc _ _)).below (below_alloc _ _)) (h3.below (below_alloc _ _)) h4
  rwa [show ((((w.alloc (r4 a b c d)).alloc (r4 a' b' c' d')).alloc (r4 a2 b2 c2 d2)).alloc (r4 a3 b3 c3 d3)).heap.size = w.heap.size + 1 + 1 + 1 + 1 by simp] at h5
--== spec.l07Family
theorem meta2 {x : Int} (hx : x ∈ [3, 4, 5, 6, 7, 8, 9, 12]) (r s : Int) (w : World) : Calls Try.prog 73 #[.int .i64 2, .int .i64 x, .int .i64 r, .int .i64 s] w (RetW w) := by
  simp only [List.mem_cons, List.not_mem_nil, or_false] at hx
  rcases hx with rfl | rfl | rfl | rfl | rfl | rfl | rfl | rfl
  · exact s_l07Meta 2 3 r s w (by decide +kernel)
  · exact s_l07Meta 2 4 r s w (by decide +kernel)
  · exact s_l07Meta 2 5 r s w (by decide +kernel)
  · exact s_l07Meta 2 6 r s w (by decide +kernel)
  · exact s_l07Meta 2 7 r s w (by decide +kernel)
  · exact s_l07Meta 2 8 r s w (by decide +kernel)
  · exact s_l07Meta 2 9 r s w (by decide +kernel)
  · exact s_l07Meta 2 12 r s w (by decide +kernel)
set_option maxHeartbeats 16000000 in
theorem s_l07Family {w0 : World} {vc : Value} {nc b : Nat} (w : World) (h : Src w0 vc nc b w) : Calls Try.prog 65 #[.pointer (some ⟨b, 0, none⟩)] w (DrP WS6 w0 vc nc b w) := by
  obtain ⟨i0, hi, hz0, hz1, hz2⟩ := info_parts Try.info2
  have g0 := below_alloc w (Obj.cells #[Value.slice none 0 0, Value.slice none 0 0, Value.slice none 0 0] 28)
  have hF0 : FSt w0 vc nc b w (w.alloc (Obj.cells #[Value.slice none 0 0, Value.slice none 0 0, Value.slice none 0 0] 28)) := ⟨h.below g0, Chg.of_below g0 _ _, Bx.new w _ _ _, h.lt, h.be.size⟩
  have HNX : Hid (∀ (m : Int) wx, -100 ≤ m → m ≤ 100 → Src w0 vc nc b wx → Calls Try.prog 36 #[.pointer (some ⟨b, 0, none⟩), .int .i64 m] wx (Nxt w0 vc nc b wx m)) := fun m wx h1 h2 h => s_l01Next wx h m (by omega) (by omega)
  have HPK : Hid (∀ (xs : List Int) (wx wl : World), wl = wx.alloc (.cells (xs.map (Value.int .i64)).toArray 2) → 0 < xs.length → xs.length ≤ 1000 → FSt w0 vc nc b w wx → Calls Try.prog 51 #[.pointer (some ⟨b, 0, none⟩), .slice (some ⟨wx.heap.size, 0, none⟩) xs.length xs.length] wl (fun e w' => ∃ x, x ∈ xs ∧ e = .returned (.int .i64 x) ∧ FSt w0 vc nc b w w' ∧ Chg b (b + 1) wl w')) := by
    intro xs wx wl hl h1 h2 hF
    subst hl
    have hF1 := hF.bel (below_alloc wx (.cells (xs.map (Value.int .i64)).toArray 2))
    refine (s_l01Pick _ hF1.1 _ xs (Rd.litI wx xs h2) (lit_keepB hF.1.lt (Rd.litI wx xs h2)) h1 h2).mono ?_
    rintro e w' ⟨q, hq, rfl, hS, hC⟩
    exact ⟨_, getD_mem hq, rfl, hF1.keep hS hC, hC⟩
  have HTR : Hid (∀ (v : Value) (os : List Int) (wx : World), Rd wx v os → primesB os = true → os.length ≤ 6 → Calls Try.prog 67 #[v] wx (RetW wx)) := fun v os wx h h1 h2 => (s_l07Trivial v os wx h (by omega)).mono fun e w' hr => ⟨os.length, _, h2, ws_triv h1, hr⟩
  have HCY : Hid (∀ x ∈ [1, 4, 6, 8, 9, 12, 5, 7, 27, 25, 36], ∀ wx, Calls Try.prog 72 #[.int .i64 x] wx (RetP2 wx (okP (cycC x) (cycR x)) (cycC x)) ∧ WS6 (okP (cycC x) (cycR x))) := fun x hx wx => ⟨s_CyclicPresentation x wx, (ws_cyc (cycOK_all x hx)).2⟩
  clear h g0
  go_enter Try.func65, Try.ntmps65
  go_wp2_with fail
  refine (HNX.out 9 _ (by omega) (by omega) hF0.1).mono ?_
  rintro e w1 ⟨r, rfl, r0, r1, hS1, hC1⟩
  have hF1 := hF0.keep hS1 hC1
  clear hS1 hC1 hF0
  rcases (show r = 0 ∨ r = 1 ∨ r = 2 ∨ r = 3 ∨ r = 4 ∨ r = 5 ∨ r = 6 ∨ r = 7 ∨ r = 8 by omega) with rfl | rfl | rfl | rfl | rfl | rfl | rfl | rfl | rfl
  · clear r0 r1
    go_wp2_with fail
    refine (HNX.out 5 _ (by omega) (by omega) (hF1.bel (below_alloc _ _)).1).mono ?_
    rintro e w2 ⟨r, rfl, r0, r1, hS2, hC2⟩
    obtain ⟨k, rfl⟩ : ∃ k : Nat, r = (k : Int) := ⟨r.toNat, by omega⟩
    have hk4 : k ≤ 4 := by rcases r1 with r1 | r1 <;> omega
    have hF2 := (hF1.bel (below_alloc _ _)).keep hS2 hC2
    have hb1 : b < w1.heap.size := hF1.1.lt
    have hI2 : Ints w2 (w.heap.size + 1) (.slice (some ⟨w1.heap.size, 0, none⟩) 0 0) [] := ((Ints.empty w1).chgb hC2 hb1).mono hF1.lt
    have hbw := hF1.2.2.2.1
    clear hS2 hC2 r0 r1
    go_wp2_with fail
    go_loopw [3, 4] (fun u i wr => ∃ (k : Nat) (xs : List Int), i = .int .i64 k ∧ xs.length + k ≤ 4 ∧ primesB xs = true ∧ Ints wr (w.heap.size + 1) u xs ∧ FSt w0 vc nc b w wr) (fun _ i _ => (intOf i).toNat)
    case atStart => exact ⟨k, [], rfl, by simpa using hk4, rfl, hI2, hF2⟩
    case round =>
      clear hI2 hF2 hF1
      obtain ⟨k, xs, rfl, hl, hpr, hI, hF⟩ := hrel
      by_cases hk : 0 < k
      · have HI := Lib.hid hI
        have HPR := Lib.hid hpr
        obtain ⟨k', rfl⟩ : ∃ k', k = k' + 1 := ⟨k - 1, by omega⟩
        clear hI hpr
        go_wp2_with fail
        refine (HPK.out [2, 2, 3] wr _ rfl (by simp) (by simp) hF).mono ?_
        rintro e w4 ⟨x, hx, rfl, hF4, hC4⟩
        have hpx : primeB x = true := by
          simp only [List.mem_cons, List.not_mem_nil, or_false] at hx
          rcases hx with rfl | rfl | rfl <;> rfl
        have hI4 := (HI.out.below (below_alloc wr (.cells (([2, 2, 3] : List Int).map (Value.int .i64)).toArray 2))).chgb hC4 (Nat.lt_succ_of_lt hbw)
        have hlen : xs.length ≤ 1000000000 := by omega
        have hz4 := hF4.lt
        have HF4 := Lib.hid hF4
        clear hF hx hC4 hF4
        go_wp2_with (at_builtin; refine wp_app1 _ rfl _ _ rfl (w.heap.size + 1) i0 Try.underlying24 hi hz0 hz1 hz2 _ _ rfl hI4 x rfl hlen hz4 ?_)
        intro v' w5 hI5 hG5 hB5
        have hF5 : FSt w0 vc nc b w w5 := ⟨HF4.out.1.belowB hB5 (Nat.lt_succ_of_lt hbw) (Nat.le_succ_of_le HF4.out.2.2.2.2), HF4.out.2.1.belB (hB5.mono (Nat.le_succ _)), HF4.out.2.2.1.below hB5 (Nat.lt_succ_self _), HF4.out.2.2.2⟩
        have hpr5 : primesB (xs ++ [x]) = true := by rw [primesB_snoc, HPR.out, hpx]; rfl
        have hl5 : (xs ++ [x]).length + k' ≤ 4 := by rw [List.length_append, List.length_singleton]; omega
        clear HF4 hG5 hB5
        go_wp2_with fail
        go_roundw
        case rel => exact ⟨k', xs ++ [x], by go_num, hl5, hpr5, hI5, hF5⟩
        case measure => simp [intOf]
      · obtain rfl : k = 0 := by omega
        obtain ⟨ao, cap, rfl, _, _⟩ := hI.form
        go_wp2_with fail
        refine (HTR.out _ xs _ hI.rd hpr (by omega)).mono ?_
        clear hI hpr
        rintro e w9 ⟨nn, p, hnn, hW, v1, v2, v3, rfl, hP, hB⟩
        obtain ⟨⟨a1, c1, rfl⟩, ⟨a2, c2, rfl⟩, ⟨a3, c3, rfl⟩⟩ := hP.formsN hW.on hW.pl hW.cl
        have hF9 := hF.bel hB
        have hlt := hF.lt
        have q0 := hF9.2.2.1.c0
        have q1 := hF9.2.2.1.c1
        have q2 := hF9.2.2.1.c2
        have f0 := hF9.2.2.1.fr 0
        have f1 := hF9.2.2.1.fr 1
        have f2 := hF9.2.2.1.fr 2
        have HD := Lib.hid (drp_set (C := WS6) hF9 hP (fun k hk => Nat.lt_of_lt_of_le hlt (by first | exact hk.1 | exact hk.1.1)) ⟨nn, hnn, hW⟩)
        clear hF9 hP hB hF
        go_wp2_with fail
        exact bodyPost_ret (v := .agg #[Value.slice a1 nn c1, Value.slice a2 nn c2, Value.slice a3 nn c3]) (by simp [results, Try.results65, go_sem, q0, q1, q2]) rfl HD.out
  · clear r0 r1
    go_wp2_with fail
    refine (HPK.out [1, 4, 6, 8, 9, 12, 5, 7, 27, 25, 36] w1 _ rfl (by simp) (by simp) hF1).mono ?_
    rintro e w2 ⟨x, hx, rfl, hF, -⟩
    clear hF1
    go_wp2_with fail
    refine (HCY.out x hx _).1.mono ?_
    have hW6 := (HCY.out x hx w).2
    generalize okP (cycC x) (cycR x) = p at *
    generalize cycC x = cc at *
    rintro e w9 ⟨v1, v2, v3, rfl, hP, hB⟩
    obtain ⟨nn, hnn, hW⟩ := hW6
    obtain ⟨⟨a1, c1, rfl⟩, ⟨a2, c2, rfl⟩, ⟨a3, c3, rfl⟩⟩ := hP.formsN hW.on hW.pl hW.cl
    have hlt := hF.lt
    have hP9 := OP.below (OP.sub hP fun k hk hh => (hh : win _ _ k)) (below_alloc w9 (Obj.cells #[Value.slice a1 nn c1, Value.slice a2 nn c2, Value.slice a3 nn c3] 28))
    have hF9 := (hF.bel hB).bel (below_alloc w9 (Obj.cells #[Value.slice a1 nn c1, Value.slice a2 nn c2, Value.slice a3 nn c3] 28))
    have q0 := hF9.2.2.1.c0
    have q1 := hF9.2.2.1.c1
    have q2 := hF9.2.2.1.c2
    have f0 := hF9.2.2.1.fr 0
    have f1 := hF9.2.2.1.fr 1
    have f2 := hF9.2.2.1.fr 2
    have HD := Lib.hid (drp_set (C := WS6) hF9 hP9 (fun k hk => Nat.lt_of_lt_of_le hlt (by first | exact hk.1 | exact hk.1.1)) ⟨nn, hnn, hW⟩)
    clear hF9 hP hP9 hB hF
    go_wp2_with fail
    exact bodyPost_ret (v := .agg #[Value.slice a1 nn c1, Value.slice a2 nn c2, Value.slice a3 nn c3]) (by simp [results, Try.results65, go_sem, q0, q1, q2]) rfl HD.out
  · clear r0 r1
    go_wp2_with fail
    refine (HPK.out [3, 4, 5, 6, 7, 8, 9, 12] w1 _ rfl (by simp) (by simp) hF1).mono ?_
    rintro e w2 ⟨x, hx, rfl, hF, -⟩
    have hx : x ∈ [3, 4, 5, 6, 7, 8, 9, 12] := by
      simp only [List.mem_cons, List.not_mem_nil, or_false] at hx ⊢
      omega
    clear hF1
    go_wp2_with fail
    refine (meta2 hx _ _ _).mono ?_
    rintro e w9 ⟨nn, p, hnn, hW, v1, v2, v3, rfl, hP, hB⟩
    obtain ⟨⟨a1, c1, rfl⟩, ⟨a2, c2, rfl⟩, ⟨a3, c3, rfl⟩⟩ := hP.formsN hW.on hW.pl hW.cl
    have hF9 := hF.bel hB
    have hlt := hF.lt
    have q0 := hF9.2.2.1.c0
    have q1 := hF9.2.2.1.c1
    have q2 := hF9.2.2.1.c2
    have f0 := hF9.2.2.1.fr 0
    have f1 := hF9.2.2.1.fr 1
    have f2 := hF9.2.2.1.fr 2
    have HD := Lib.hid (drp_set (C := WS6) hF9 hP (fun k hk => Nat.lt_of_lt_of_le hlt (by first | exact hk.1 | exact hk.1.1)) ⟨nn, hnn, hW⟩)
    clear hF9 hP hB hF
    go_wp2_with fail
    exact bodyPost_ret (v := .agg #[Value.slice a1 nn c1, Value.slice a2 nn c2, Value.slice a3 nn c3]) (by simp [results, Try.results65, go_sem, q0, q1, q2]) rfl HD.out
  · clear r0 r1
    go_wp2_with fail
    refine (HPK.out [4, 6, 8, 12] w1 _ rfl (by simp) (by simp) hF1).mono ?_
    rintro e w2 ⟨x, hx, rfl, hF, -⟩
    have hx : x ∈ [3, 4, 5, 6, 7, 8, 9, 12] := by
      simp only [List.mem_cons, List.not_mem_nil, or_false] at hx ⊢
      omega
    clear hF1
    go_wp2_with fail
    refine (meta2 hx _ _ _).mono ?_
    rintro e w9 ⟨nn, p, hnn, hW, v1, v2, v3, rfl, hP, hB⟩
    obtain ⟨⟨a1, c1, rfl⟩, ⟨a2, c2, rfl⟩, ⟨a3, c3, rfl⟩⟩ := hP.formsN hW.on hW.pl hW.cl
    have hF9 := hF.bel hB
    have hlt := hF.lt
    have q0 := hF9.2.2.1.c0
    have q1 := hF9.2.2.1.c1
    have q2 := hF9.2.2.1.c2
    have f0 := hF9.2.2.1.fr 0
    have f1 := hF9.2.2.1.fr 1
    have f2 := hF9.2.2.1.fr 2
    have HD := Lib.hid (drp_set (C := WS6) hF9 hP (fun k hk => Nat.lt_of_lt_of_le hlt (by first | exact hk.1 | exact hk.1.1)) ⟨nn, hnn, hW⟩)
    clear hF9 hP hB hF
    go_wp2_with fail
    exact bodyPost_ret (v := .agg #[Value.slice a1 nn c1, Value.slice a2 nn c2, Value.slice a3 nn c3]) (by simp [results, Try.results65, go_sem, q0, q1, q2]) rfl HD.out
  · clear r0 r1
    go_wp2_with fail
    refine (HNX.out 6 _ (by omega) (by omega) hF1.1).mono ?_
    rintro e w2 ⟨r, rfl, r0, r1, hS2, hC2⟩
    have hF := hF1.keep hS2 hC2
    clear hS2 hC2 hF1
    rcases (show r = 0 ∨ r = 1 ∨ r = 2 ∨ r = 3 ∨ r = 4 ∨ r = 5 by omega) with rfl | rfl | rfl | rfl | rfl | rfl
    · clear r0 r1
      go_wp2_with fail
      refine (s_l07Meta 3 7 _ _ _ (by decide +kernel)).mono ?_
      rintro e w9 ⟨nn, p, hnn, hW, v1, v2, v3, rfl, hP, hB⟩
      obtain ⟨⟨a1, c1, rfl⟩, ⟨a2, c2, rfl⟩, ⟨a3, c3, rfl⟩⟩ := hP.formsN hW.on hW.pl hW.cl
      have hF9 := hF.bel hB
      have hlt := hF.lt
      have q0 := hF9.2.2.1.c0
      have q1 := hF9.2.2.1.c1
      have q2 := hF9.2.2.1.c2
      have f0 := hF9.2.2.1.fr 0
      have f1 := hF9.2.2.1.fr 1
      have f2 := hF9.2.2.1.fr 2
      have HD := Lib.hid (drp_set (C := WS6) hF9 hP (fun k hk => Nat.lt_of_lt_of_le hlt (by first | exact hk.1 | exact hk.1.1)) ⟨nn, hnn, hW⟩)
      clear hF9 hP hB hF
      go_wp2_with fail
      exact bodyPost_ret (v := .agg #[Value.slice a1 nn c1, Value.slice a2 nn c2, Value.slice a3 nn c3]) (by simp [results, Try.results65, go_sem, q0, q1, q2]) rfl HD.out
    · clear r0 r1
      go_wp2_with fail
      refine (s_l07Meta 4 5 _ _ _ (by decide +kernel)).mono ?_
      rintro e w9 ⟨nn, p, hnn, hW, v1, v2, v3, rfl, hP, hB⟩
      obtain ⟨⟨a1, c1, rfl⟩, ⟨a2, c2, rfl⟩, ⟨a3, c3, rfl⟩⟩ := hP.formsN hW.on hW.pl hW.cl
      have hF9 := hF.bel hB
      have hlt := hF.lt
      have q0 := hF9.2.2.1.c0
      have q1 := hF9.2.2.1.c1
      have q2 := hF9.2.2.1.c2
      have f0 := hF9.2.2.1.fr 0
      have f1 := hF9.2.2.1.fr 1
      have f2 := hF9.2.2.1.fr 2
      have HD := Lib.hid (drp_set (C := WS6) hF9 hP (fun k hk => Nat.lt_of_lt_of_le hlt (by first | exact hk.1 | exact hk.1.1)) ⟨nn, hnn, hW⟩)
      clear hF9 hP hB hF
      go_wp2_with fail
      exact bodyPost_ret (v := .agg #[Value.slice a1 nn c1, Value.slice a2 nn c2, Value.slice a3 nn c3]) (by simp [results, Try.results65, go_sem, q0, q1, q2]) rfl HD.out
    · clear r0 r1
      go_wp2_with fail
      refine (s_l07Meta 2 8 _ _ _ (by decide +kernel)).mono ?_
      rintro e w9 ⟨nn, p, hnn, hW, v1, v2, v3, rfl, hP, hB⟩
      obtain ⟨⟨a1, c1, rfl⟩, ⟨a2, c2, rfl⟩, ⟨a3, c3, rfl⟩⟩ := hP.formsN hW.on hW.pl hW.cl
      have hF9 := hF.bel hB
      have hlt := hF.lt
      have q0 := hF9.2.2.1.c0
      have q1 := hF9.2.2.1.c1
      have q2 := hF9.2.2.1.c2
      have f0 := hF9.2.2.1.fr 0
      have f1 := hF9.2.2.1.fr 1
      have f2 := hF9.2.2.1.fr 2
      have HD := Lib.hid (drp_set (C := WS6) hF9 hP (fun k hk => Nat.lt_of_lt_of_le hlt (by first | exact hk.1 | exact hk.1.1)) ⟨nn, hnn, hW⟩)
      clear hF9 hP hB hF
      go_wp2_with fail
      exact bodyPost_ret (v := .agg #[Value.slice a1 nn c1, Value.slice a2 nn c2, Value.slice a3 nn c3]) (by simp [results, Try.results65, go_sem, q0, q1, q2]) rfl HD.out
    · clear r0 r1
      go_wp2_with fail
      refine (s_l07Meta 2 8 _ _ _ (by decide +kernel)).mono ?_
      rintro e w9 ⟨nn, p, hnn, hW, v1, v2, v3, rfl, hP, hB⟩
      obtain ⟨⟨a1, c1, rfl⟩, ⟨a2, c2, rfl⟩, ⟨a3, c3, rfl⟩⟩ := hP.formsN hW.on hW.pl hW.cl
      have hF9 := hF.bel hB
      have hlt := hF.lt
      have q0 := hF9.2.2.1.c0
      have q1 := hF9.2.2.1.c1
      have q2 := hF9.2.2.1.c2
      have f0 := hF9.2.2.1.fr 0
      have f1 := hF9.2.2.1.fr 1
      have f2 := hF9.2.2.1.fr 2
      have HD := Lib.hid (drp_set (C := WS6) hF9 hP (fun k hk => Nat.lt_of_lt_of_le hlt (by first | exact hk.1 | exact hk.1.1)) ⟨nn, hnn, hW⟩)
      clear hF9 hP hB hF
      go_wp2_with fail
      exact bodyPost_ret (v := .agg #[Value.slice a1 nn c1, Value.slice a2 nn c2, Value.slice a3 nn c3]) (by simp [results, Try.results65, go_sem, q0, q1, q2]) rfl HD.out
    · clear r0 r1
      go_wp2_with fail
      refine (s_l07Meta 4 4 _ _ _ (by decide +kernel)).mono ?_
      rintro e w9 ⟨nn, p, hnn, hW, v1, v2, v3, rfl, hP, hB⟩
      obtain ⟨⟨a1, c1, rfl⟩, ⟨a2, c2, rfl⟩, ⟨a3, c3, rfl⟩⟩ := hP.formsN hW.on hW.pl hW.cl
      have hF9 := hF.bel hB
      have hlt := hF.lt
      have q0 := hF9.2.2.1.c0
      have q1 := hF9.2.2.1.c1
      have q2 := hF9.2.2.1.c2
      have f0 := hF9.2.2.1.fr 0
      have f1 := hF9.2.2.1.fr 1
      have f2 := hF9.2.2.1.fr 2
      have HD := Lib.hid (drp_set (C := WS6) hF9 hP (fun k hk => Nat.lt_of_lt_of_le hlt (by first | exact hk.1 | exact hk.1.1)) ⟨nn, hnn, hW⟩)
      clear hF9 hP hB hF
      go_wp2_with fail
      exact bodyPost_ret (v := .agg #[Value.slice a1 nn c1, Value.slice a2 nn c2, Value.slice a3 nn c3]) (by simp [results, Try.results65, go_sem, q0, q1, q2]) rfl HD.out
    · clear r0 r1
      go_wp2_with fail
      refine (s_l07Meta 3 9 _ _ _ (by decide +kernel)).mono ?_
      rintro e w9 ⟨nn, p, hnn, hW, v1, v2, v3, rfl, hP, hB⟩
      obtain ⟨⟨a1, c1, rfl⟩, ⟨a2, c2, rfl⟩, ⟨a3, c3, rfl⟩⟩ := hP.formsN hW.on hW.pl hW.cl
      have hF9 := hF.bel hB
      have hlt := hF.lt
      have q0 := hF9.2.2.1.c0
      have q1 := hF9.2.2.1.c1
      have q2 := hF9.2.2.1.c2
      have f0 := hF9.2.2.1.fr 0
      have f1 := hF9.2.2.1.fr 1
      have f2 := hF9.2.2.1.fr 2
      have HD := Lib.hid (drp_set (C := WS6) hF9 hP (fun k hk => Nat.lt_of_lt_of_le hlt (by first | exact hk.1 | exact hk.1.1)) ⟨nn, hnn, hW⟩)
      clear hF9 hP hB hF
      go_wp2_with fail
      exact bodyPost_ret (v := .agg #[Value.slice a1 nn c1, Value.slice a2 nn c2, Value.slice a3 nn c3]) (by simp [results, Try.results65, go_sem, q0, q1, q2]) rfl HD.out
  · clear r0 r1
    go_wp2_with fail
    refine (HPK.out [2, 3, 2, 3, 5] w1 _ rfl (by simp) (by simp) hF1).mono ?_
    rintro e w2 ⟨x, hx, rfl, hF, -⟩
    have hpx : primeB x = true := by
      simp only [List.mem_cons, List.not_mem_nil, or_false] at hx
      rcases hx with rfl | rfl | rfl | rfl | rfl <;> rfl
    clear hF1 hx
    go_wp2_with fail
    refine (s_l07Heisenberg x _ hF.1 hpx).mono ?_
    rintro e w9 ⟨p, v1, v2, v3, ⟨nn, hnn, hW⟩, rfl, hP, hS9, hC9⟩
    obtain ⟨⟨a1, c1, rfl⟩, ⟨a2, c2, rfl⟩, ⟨a3, c3, rfl⟩⟩ := hP.formsN hW.on hW.pl hW.cl
    have hF9 := hF.keep hS9 hC9
    have hlt := hF.lt
    have q0 := hF9.2.2.1.c0
    have q1 := hF9.2.2.1.c1
    have q2 := hF9.2.2.1.c2
    have f0 := hF9.2.2.1.fr 0
    have f1 := hF9.2.2.1.fr 1
    have f2 := hF9.2.2.1.fr 2
    have HD := Lib.hid (drp_set (C := WS6) hF9 hP (fun k hk => Nat.lt_of_lt_of_le hlt (by first | exact hk.1 | exact hk.1.1)) ⟨nn, hnn, hW⟩)
    clear hF9 hP hS9 hC9 hF
    go_wp2_with fail
    exact bodyPost_ret (v := .agg #[Value.slice a1 nn c1, Value.slice a2 nn c2, Value.slice a3 nn c3]) (by simp [results, Try.results65, go_sem, q0, q1, q2]) rfl HD.out
  · clear r0 r1
    go_wp2_with fail
    refine (HNX.out 6 _ (by omega) (by omega) hF1.1).mono ?_
    rintro e w2 ⟨r, rfl, r0, r1, hS2, hC2⟩
    have hF2 := hF1.keep hS2 hC2
    clear hS2 hC2 hF1
    rcases (show r = 0 ∨ r = 1 ∨ r = 2 ∨ r = 3 ∨ r = 4 ∨ r = 5 by omega) with rfl | rfl | rfl | rfl | rfl | rfl
    · clear r0 r1
      have hR := aff2 w2 2 0 0 2
      have hF : FSt w0 vc nc b w _ := (((hF2).bel (below_alloc _ (r2 2 0))).bel (below_alloc _ (r2 0 2))).bel (below_alloc _ (.cells #[.slice (some ⟨w2.heap.size, 0, none⟩) 2 2, .slice (some ⟨w2.heap.size + 1, 0, none⟩) 2 2] 24))
      clear hF2
      go_wp2_with fail
      refine (s_l07Affine 3 _ [[2, 0], [0, 2]] 2 2 _ (by rfl) hR rfl (by decide) (by decide +kernel)).mono ?_
      rintro e w9 ⟨nn, p, hnn, hW, v1, v2, v3, rfl, hP, hB⟩
      obtain ⟨⟨a1, c1, rfl⟩, ⟨a2, c2, rfl⟩, ⟨a3, c3, rfl⟩⟩ := hP.formsN hW.on hW.pl hW.cl
      have hF9 := hF.bel hB
      have hlt := hF.lt
      have q0 := hF9.2.2.1.c0
      have q1 := hF9.2.2.1.c1
      have q2 := hF9.2.2.1.c2
      have f0 := hF9.2.2.1.fr 0
      have f1 := hF9.2.2.1.fr 1
      have f2 := hF9.2.2.1.fr 2
      have HD := Lib.hid (drp_set (C := WS6) hF9 hP (fun k hk => Nat.lt_of_lt_of_le hlt (by first | exact hk.1 | exact hk.1.1)) ⟨nn, hnn, hW⟩)
      clear hF9 hP hB hF
      go_wp2_with fail
      exact bodyPost_ret (v := .agg #[Value.slice a1 nn c1, Value.slice a2 nn c2, Value.slice a3 nn c3]) (by simp [results, Try.results65, go_sem, q0, q1, q2]) rfl HD.out
    · clear r0 r1
      have hR := aff2 w2 0 1 2 0
      have hF : FSt w0 vc nc b w _ := (((hF2).bel (below_alloc _ (r2 0 1))).bel (below_alloc _ (r2 2 0))).bel (below_alloc _ (.cells #[.slice (some ⟨w2.heap.size, 0, none⟩) 2 2, .slice (some ⟨w2.heap.size + 1, 0, none⟩) 2 2] 24))
      clear hF2
      go_wp2_with fail
      refine (s_l07Affine 3 _ [[0, 1], [2, 0]] 2 4 _ (by rfl) hR rfl (by decide) (by decide +kernel)).mono ?_
      rintro e w9 ⟨nn, p, hnn, hW, v1, v2, v3, rfl, hP, hB⟩
      obtain ⟨⟨a1, c1, rfl⟩, ⟨a2, c2, rfl⟩, ⟨a3, c3, rfl⟩⟩ := hP.formsN hW.on hW.pl hW.cl
      have hF9 := hF.bel hB
      have hlt := hF.lt
      have q0 := hF9.2.2.1.c0
      have q1 := hF9.2.2.1.c1
      have q2 := hF9.2.2.1.c2
      have f0 := hF9.2.2.1.fr 0
      have f1 := hF9.2.2.1.fr 1
      have f2 := hF9.2.2.1.fr 2
      have HD := Lib.hid (drp_set (C := WS6) hF9 hP (fun k hk => Nat.lt_of_lt_of_le hlt (by first | exact hk.1 | exact hk.1.1)) ⟨nn, hnn, hW⟩)
      clear hF9 hP hB hF
      go_wp2_with fail
      exact bodyPost_ret (v := .agg #[Value.slice a1 nn c1, Value.slice a2 nn c2, Value.slice a3 nn c3]) (by simp [results, Try.results65, go_sem, q0, q1, q2]) rfl HD.out
    · clear r0 r1
      have hR := aff3 w2 0 1 0 0 0 1 1 1 0
      have hF : FSt w0 vc nc b w _ := ((((hF2).bel (below_alloc _ (r3 0 1 0))).bel (below_alloc _ (r3 0 0 1))).bel (below_alloc _ (r3 1 1 0))).bel (below_alloc _ (.cells #[.slice (some ⟨w2.heap.size, 0, none⟩) 3 3, .slice (some ⟨w2.heap.size + 1, 0, none⟩) 3 3, .slice (some ⟨w2.heap.size + 1 + 1, 0, none⟩) 3 3] 24))
      clear hF2
      go_wp2_with fail
      refine (s_l07Affine 2 _ [[0, 1, 0], [0, 0, 1], [1, 1, 0]] 3 7 _ (by rfl) hR rfl (by decide) (by decide +kernel)).mono ?_
      rintro e w9 ⟨nn, p, hnn, hW, v1, v2, v3, rfl, hP, hB⟩
      obtain ⟨⟨a1, c1, rfl⟩, ⟨a2, c2, rfl⟩, ⟨a3, c3, rfl⟩⟩ := hP.formsN hW.on hW.pl hW.cl
      have hF9 := hF.bel hB
      have hlt := hF.lt
      have q0 := hF9.2.2.1.c0
      have q1 := hF9.2.2.1.c1
      have q2 := hF9.2.2.1.c2
      have f0 := hF9.2.2.1.fr 0
      have f1 := hF9.2.2.1.fr 1
      have f2 := hF9.2.2.1.fr 2
      have HD := Lib.hid (drp_set (C := WS6) hF9 hP (fun k hk => Nat.lt_of_lt_of_le hlt (by first | exact hk.1 | exact hk.1.1)) ⟨nn, hnn, hW⟩)
      clear hF9 hP hB hF
      go_wp2_with fail
      exact bodyPost_ret (v := .agg #[Value.slice a1 nn c1, Value.slice a2 nn c2, Value.slice a3 nn c3]) (by simp [results, Try.results65, go_sem, q0, q1, q2]) rfl HD.out
    · clear r0 r1
      have hR := aff3 w2 1 1 0 0 1 1 0 0 1
      have hF : FSt w0 vc nc b w _ := ((((hF2).bel (below_alloc _ (r3 1 1 0))).bel (below_alloc _ (r3 0 1 1))).bel (below_alloc _ (r3 0 0 1))).bel (below_alloc _ (.cells #[.slice (some ⟨w2.heap.size, 0, none⟩) 3 3, .slice (some ⟨w2.heap.size + 1, 0, none⟩) 3 3, .slice (some ⟨w2.heap.size + 1 + 1, 0, none⟩) 3 3] 24))
      clear hF2
      go_wp2_with fail
      refine (s_l07Affine 2 _ [[1, 1, 0], [0, 1, 1], [0, 0, 1]] 3 4 _ (by rfl) hR rfl (by decide) (by decide +kernel)).mono ?_
      rintro e w9 ⟨nn, p, hnn, hW, v1, v2, v3, rfl, hP, hB⟩
      obtain ⟨⟨a1, c1, rfl⟩, ⟨a2, c2, rfl⟩, ⟨a3, c3, rfl⟩⟩ := hP.formsN hW.on hW.pl hW.cl
      have hF9 := hF.bel hB
      have hlt := hF.lt
      have q0 := hF9.2.2.1.c0
      have q1 := hF9.2.2.1.c1
      have q2 := hF9.2.2.1.c2
      have f0 := hF9.2.2.1.fr 0
      have f1 := hF9.2.2.1.fr 1
      have f2 := hF9.2.2.1.fr 2
      have HD := Lib.hid (drp_set (C := WS6) hF9 hP (fun k hk => Nat.lt_of_lt_of_le hlt (by first | exact hk.1 | exact hk.1.1)) ⟨nn, hnn, hW⟩)
      clear hF9 hP hB hF
      go_wp2_with fail
      exact bodyPost_ret (v := .agg #[Value.slice a1 nn c1, Value.slice a2 nn c2, Value.slice a3 nn c3]) (by simp [results, Try.results65, go_sem, q0, q1, q2]) rfl HD.out
    · clear r0 r1
      have hR := aff4 w2 0 1 0 0 1 0 0 0 0 0 0 1 0 0 1 0
      have hF : FSt w0 vc nc b w _ := (((((hF2).bel (below_alloc _ (r4 0 1 0 0))).bel (below_alloc _ (r4 1 0 0 0))).bel (below_alloc _ (r4 0 0 0 1))).bel (below_alloc _ (r4 0 0 1 0))).bel (below_alloc _ (.cells #[.slice (some ⟨w2.heap.size, 0, none⟩) 4 4, .slice (some ⟨w2.heap.size + 1, 0, none⟩) 4 4, .slice (some ⟨w2.heap.size + 1 + 1, 0, none⟩) 4 4, .slice (some ⟨w2.heap.size + 1 + 1 + 1, 0, none⟩) 4 4] 24))
      clear hF2
      go_wp2_with fail
      refine (s_l07Affine 2 _ [[0, 1, 0, 0], [1, 0, 0, 0], [0, 0, 0, 1], [0, 0, 1, 0]] 4 2 _ (by rfl) hR rfl (by decide) (by decide +kernel)).mono ?_
      rintro e w9 ⟨nn, p, hnn, hW, v1, v2, v3, rfl, hP, hB⟩
      obtain ⟨⟨a1, c1, rfl⟩, ⟨a2, c2, rfl⟩, ⟨a3, c3, rfl⟩⟩ := hP.formsN hW.on hW.pl hW.cl
      have hF9 := hF.bel hB
      have hlt := hF.lt
      have q0 := hF9.2.2.1.c0
      have q1 := hF9.2.2.1.c1
      have q2 := hF9.2.2.1.c2
      have f0 := hF9.2.2.1.fr 0
      have f1 := hF9.2.2.1.fr 1
      have f2 := hF9.2.2.1.fr 2
      have HD := Lib.hid (drp_set (C := WS6) hF9 hP (fun k hk => Nat.lt_of_lt_of_le hlt (by first | exact hk.1 | exact hk.1.1)) ⟨nn, hnn, hW⟩)
      clear hF9 hP hB hF
      go_wp2_with fail
      exact bodyPost_ret (v := .agg #[Value.slice a1 nn c1, Value.slice a2 nn c2, Value.slice a3 nn c3]) (by simp [results, Try.results65, go_sem, q0, q1, q2]) rfl HD.out
    · clear r0 r1
      have hR := aff2 w2 0 1 4 4
      have hF : FSt w0 vc nc b w _ := (((hF2).bel (below_alloc _ (r2 0 1))).bel (below_alloc _ (r2 4 4))).bel (below_alloc _ (.cells #[.slice (some ⟨w2.heap.size, 0, none⟩) 2 2, .slice (some ⟨w2.heap.size + 1, 0, none⟩) 2 2] 24))
      clear hF2
      go_wp2_with fail
      refine (s_l07Affine 5 _ [[0, 1], [4, 4]] 2 3 _ (by rfl) hR rfl (by decide) (by decide +kernel)).mono ?_
      rintro e w9 ⟨nn, p, hnn, hW, v1, v2, v3, rfl, hP, hB⟩
      obtain ⟨⟨a1, c1, rfl⟩, ⟨a2, c2, rfl⟩, ⟨a3, c3, rfl⟩⟩ := hP.formsN hW.on hW.pl hW.cl
      have hF9 := hF.bel hB
      have hlt := hF.lt
      have q0 := hF9.2.2.1.c0
      have q1 := hF9.2.2.1.c1
      have q2 := hF9.2.2.1.c2
      have f0 := hF9.2.2.1.fr 0
      have f1 := hF9.2.2.1.fr 1
      have f2 := hF9.2.2.1.fr 2
      have HD := Lib.hid (drp_set (C := WS6) hF9 hP (fun k hk => Nat.lt_of_lt_of_le hlt (by first | exact hk.1 | exact hk.1.1)) ⟨nn, hnn, hW⟩)
      clear hF9 hP hB hF
      go_wp2_with fail
      exact bodyPost_ret (v := .agg #[Value.slice a1 nn c1, Value.slice a2 nn c2, Value.slice a3 nn c3]) (by simp [results, Try.results65, go_sem, q0, q1, q2]) rfl HD.out
  · clear r0 r1
    go_wp2_with fail
    refine (HNX.out 10 _ (by omega) (by omega) hF1.1).mono ?_
    rintro e w2 ⟨r, rfl, r0, r1, hS2, hC2⟩
    obtain ⟨k, rfl⟩ : ∃ k : Nat, r = (k : Int) := ⟨r.toNat, by omega⟩
    have hF := hF1.keep hS2 hC2
    have hk : k < 10 := by rcases r1 with r1 | r1 <;> omega
    clear hS2 hC2 hF1 r0 r1
    go_wp2_with fail
    refine (s_l07Table k _ hk).mono ?_
    rintro e w9 ⟨nn, p, hnn, hW, v1, v2, v3, rfl, hP, hB⟩
    obtain ⟨⟨a1, c1, rfl⟩, ⟨a2, c2, rfl⟩, ⟨a3, c3, rfl⟩⟩ := hP.formsN hW.on hW.pl hW.cl
    have hF9 := hF.bel hB
    have hlt := hF.lt
    have q0 := hF9.2.2.1.c0
    have q1 := hF9.2.2.1.c1
    have q2 := hF9.2.2.1.c2
    have f0 := hF9.2.2.1.fr 0
    have f1 := hF9.2.2.1.fr 1
    have f2 := hF9.2.2.1.fr 2
    have HD := Lib.hid (drp_set (C := WS6) hF9 hP (fun k hk => Nat.lt_of_lt_of_le hlt (by first | exact hk.1 | exact hk.1.1)) ⟨nn, hnn, hW⟩)
    clear hF9 hP hB hF
    go_wp2_with fail
    exact bodyPost_ret (v := .agg #[Value.slice a1 nn c1, Value.slice a2 nn c2, Value.slice a3 nn c3]) (by simp [results, Try.results65, go_sem, q0, q1, q2]) rfl HD.out
  · clear r0 r1
    go_wp2_with fail
    refine (HNX.out 10 _ (by omega) (by omega) hF1.1).mono ?_
    rintro e w2 ⟨r, rfl, r0, r1, hS2, hC2⟩
    obtain ⟨k, rfl⟩ : ∃ k : Nat, r = (k : Int) := ⟨r.toNat, by omega⟩
    have hF := hF1.keep hS2 hC2
    have hk : k < 10 := by rcases r1 with r1 | r1 <;> omega
    clear hS2 hC2 hF1 r0 r1
    go_wp2_with fail
    refine (s_l07Table k _ hk).mono ?_
    rintro e w9 ⟨nn, p, hnn, hW, v1, v2, v3, rfl, hP, hB⟩
    obtain ⟨⟨a1, c1, rfl⟩, ⟨a2, c2, rfl⟩, ⟨a3, c3, rfl⟩⟩ := hP.formsN hW.on hW.pl hW.cl
    have hF9 := hF.bel hB
    have hlt := hF.lt
    have q0 := hF9.2.2.1.c0
    have q1 := hF9.2.2.1.c1
    have q2 := hF9.2.2.1.c2
    have f0 := hF9.2.2.1.fr 0
    have f1 := hF9.2.2.1.fr 1
    have f2 := hF9.2.2.1.fr 2
    have HD := Lib.hid (drp_set (C := WS6) hF9 hP (fun k hk => Nat.lt_of_lt_of_le hlt (by first | exact hk.1 | exact hk.1.1)) ⟨nn, hnn, hW⟩)
    clear hF9 hP hB hF
    go_wp2_with fail
    exact bodyPost_ret (v := .agg #[Value.slice a1 nn c1, Value.slice a2 nn c2, Value.slice a3 nn c3]) (by simp [results, Try.results65, go_sem, q0, q1, q2]) rfl HD.out
--== end
end Go.Proofs.Ytiikoappknejgaa
namespace Go.Proofs.Ytiikoappknejgaa
set_option linter.unusedVariables false
set_option linter.unusedSimpArgs false
set_option maxRecDepth 100000
open Go.RowKit
attribute [local go_sem ↓] Go.wp_at_zero Go.wp_at_succ

--== spec.l07Group
theorem FSt.set3 {w0 w wx : World} {vc : Value} {nc b b6 : Nat} (h : FSt w0 vc nc b w wx) (hb : w.heap.size < b6) (v1 v2 v3 : Value) : FSt w0 vc nc b w (((wx.setCell ⟨b6, 0, none⟩ v1).setCell ⟨b6, 1, none⟩ v2).setCell ⟨b6, 2, none⟩ v3) := by
  obtain ⟨h1, h2, h3, h4, h5⟩ := h
  have hbl := set3B ((Below.refl wx.heap.size wx).mono (show w.heap.size + 1 ≤ wx.heap.size from h3.lt)) hb v1 v2 v3
  exact ⟨h1.belowB hbl (by omega) (by omega), h2.belB (hbl.mono (by omega)), ((h3.other (by omega) 0 _).other (by omega) 1 _).other (by omega) 2 _, h4, h5⟩
/-- where a draw stands with a presentation in box b6 -/
def GS (w0 : World) (vc : Value) (nc b : Nat) (w : World) (b6 : Nat) (wx : World) : Prop :=
  ∃ (n : Nat) (P : Pres) (S : Nat → Prop) (a1 a2 a3 : Option Addr) (c1 c2 c3 : Nat), WS n P ∧ OP wx S (.slice a1 n c1) (.slice a2 n c2) (.slice a3 n c3) P ∧ (∀ k, S k → w.heap.size < k) ∧ Bx wx b6 (.slice a1 n c1) (.slice a2 n c2) (.slice a3 n c3) ∧ FSt w0 vc nc b w wx
theorem valid_triv2 : ValidP (triv [2]) := validB_true.1 (by decide +kernel)
set_option maxHeartbeats 16000000 in
theorem s_l07Group {w0 : World} {vc : Value} {nc b : Nat} (l : Int) (w : World) (h : Src w0 vc nc b w) : Calls Try.prog 57 #[.pointer (some ⟨b, 0, none⟩), .int .i64 l] w (DrP ValidP w0 vc nc b w) := by
  have g0 := below_alloc w (Obj.cells #[Value.slice none 0 0, Value.slice none 0 0, Value.slice none 0 0] 28)
  have hF0 : FSt w0 vc nc b w (w.alloc (Obj.cells #[Value.slice none 0 0, Value.slice none 0 0, Value.slice none 0 0] 28)) := ⟨h.below g0, Chg.of_below g0 _ _, Bx.new w _ _ _, h.lt, h.be.size⟩
  have HNX : Hid (∀ (m : Int) wx, -100 ≤ m → m ≤ 100 → Src w0 vc nc b wx → Calls Try.prog 36 #[.pointer (some ⟨b, 0, none⟩), .int .i64 m] wx (Nxt w0 vc nc b wx m)) := fun m wx h1 h2 h => s_l01Next wx h m (by omega) (by omega)
  have HFA : Hid (∀ wx, Src w0 vc nc b wx → Calls Try.prog 65 #[.pointer (some ⟨b, 0, none⟩)] wx (DrP WS6 w0 vc nc b wx)) := fun wx h => s_l07Family wx h
  have HTR : Hid (∀ (v : Value) (wx : World), Rd wx v [2] → Calls Try.prog 67 #[v] wx (RetP wx (triv [2]))) := fun v wx h => s_l07Trivial v [2] wx h (by simp)
  have hbw : b < w.heap.size := h.lt
  clear h g0
  go_enter Try.func57, Try.ntmps57
  go_wp2_with fail
  go_loopw [5] (fun i wr => ∃ t : Nat, t ≤ 12 ∧ i = .int .i64 t ∧ FSt w0 vc nc b w wr) (fun i _ => 12 - (intOf i).toNat)
  case atStart => exact ⟨0, by omega, rfl, hF0⟩
  case round =>
    clear hF0
    obtain ⟨t, ht, rfl, hF⟩ := hrel
    by_cases hlt : t < 12
    · go_wp2_with fail
      refine (HFA.out wr hF.1).mono ?_
      rintro e w3 ⟨p, v1, v2, v3, ⟨nn, hnn, hW⟩, rfl, hP, hS3, hC3⟩
      obtain ⟨⟨a1, c1, rfl⟩, ⟨a2, c2, rfl⟩, ⟨a3, c3, rfl⟩⟩ := hP.formsN hW.on hW.pl hW.cl
      have hF3 := hF.keep hS3 hC3
      have hwz := hF.lt
      have hP3 := OP.sub (S' := fun k => w.heap.size < k ∧ k < w3.heap.size) hP fun k hk hh => ⟨by have := hh.1; omega, hh.2⟩
      have X3 := Bx.new w3 (Value.slice a1 nn c1) (Value.slice a2 nn c2) (Value.slice a3 nn c3)
      have hP4 := OP.below hP3 (below_alloc w3 (Obj.cells #[Value.slice a1 nn c1, Value.slice a2 nn c2, Value.slice a3 nn c3] 28))
      have hF4 := hF3.bel (below_alloc w3 (Obj.cells #[Value.slice a1 nn c1, Value.slice a2 nn c2, Value.slice a3 nn c3] 28))
      have hbx : w.heap.size < w3.heap.size := hF3.lt
      clear hP hP3 hF3 hF hS3 hC3 hwz
      go_wp2_with fail
      generalize w3.alloc (Obj.cells #[Value.slice a1 nn c1, Value.slice a2 nn c2, Value.slice a3 nn c3] 28) = w4 at *
      generalize w3.heap.size = b6 at *
      refine (HNX.out 3 w4 (by omega) (by omega) hF4.1).mono ?_
      rintro e w5 ⟨r, rfl, r0, r1, hS5, hC5⟩
      have hF5 := hF4.keep hS5 hC5
      have X5 := X3.chg (chgS_of hC5) (by omega)
      have hP5 := OP.chg hP4 (chgS_of hC5) (fun k hk e => by have := hk.1; omega)
      clear hF4 X3 hP4 hS5 hC5
      by_cases hr : r = 0
      · subst hr
        have m0 := X5.c0
        have m1 := X5.c1
        have m2 := X5.c2
        have HF5 := Lib.hid hF5
        have HP5 := Lib.hid hP5
        have HX5 := Lib.hid X5
        have HW := Lib.hid hW
        clear hF5 hP5 X5 hW
        go_upto_region 6 with (fail)
        go_cut [] (fun wx => GS w0 vc nc b w b6 wx)
        case first =>
          go_region_law (first
            | (go_simp; go_at_call 65; go_must (refine (HFA.out _ (HF5.out.1.below ((Below.refl _ _).drew))).mono ?_); rintro e w6 ⟨p6, u1, u2, u3, ⟨n6, hn6, hW6⟩, rfl, hP6, hS6, hC6⟩; obtain ⟨⟨d1, e1, rfl⟩, ⟨d2, e2, rfl⟩, ⟨d3, e3, rfl⟩⟩ := hP6.formsN hW6.on hW6.pl hW6.cl; have hF6 := HF5.out.keep hS6 hC6.undrew; have X6 := HX5.out.chg (chgS_of hC6.undrew) (by omega); have k0 := X6.c0; have k1 := X6.c1; have k2 := X6.c2; have hP56 := OP.chg HP5.out (chgS_of hC6.undrew) (fun k hk e => by have := hk.1; omega))
            | (go_simp; go_at_call 66; go_must (refine (s_bothW (a := p) (b := p6) (by rw [show p.n = nn from HW.out.on]; exact HW.out) (by rw [show p6.n = n6 from hW6.on]; exact hW6) (by rw [show p.n = nn from HW.out.on]; exact hnn) (by rw [show p6.n = n6 from hW6.on]; exact hn6) _ _ _ _ _ _ w6 hP56.rd hP6.rd).mono ?_); rintro e w7 ⟨t1, t2, t3, rfl, hP7, hB7⟩; have hWd : WS (nn + n6) (dirP p p6) := (by have := ws_dirP (a := p) (b := p6) (by rw [show p.n = nn from HW.out.on]; exact HW.out) (by rw [show p6.n = n6 from hW6.on]; exact hW6); rwa [show p.n = nn from HW.out.on, show p6.n = n6 from hW6.on] at this); obtain ⟨⟨d1, e1, rfl⟩, ⟨d2, e2, rfl⟩, ⟨d3, e3, rfl⟩⟩ := hP7.formsN hWd.on hWd.pl hWd.cl; have X7 := X6.below hB7 X6.lt; have s0 := X7.c0; have s1 := X7.c1; have s2 := X7.c2; have fr0 := X7.fr 0; have fr1 := X7.fr 1; have fr2 := X7.fr 2; have hF7 := hF6.bel hB7))
          all_goals (go_wp2_with fail; go_meet; exact ⟨nn + n6, dirP p p6, _, d1, d2, d3, e1, e2, e3, hWd, OP.sets (OP.sets (OP.sets hP7 (b := b6) (fun hh => by have h1 := hh.1; have h2 := X6.lt; omega) 0 _) (b := b6) (fun hh => by have h1 := hh.1; have h2 := X6.lt; omega) 1 _) (b := b6) (fun hh => by have h1 := hh.1; have h2 := X6.lt; omega) 2 _, fun k hk => by (have h1 := hk.1; have h2 := hF6.lt; omega), ((X7.set0 _).set1 _).set2 _, hF7.set3 hbx _ _ _⟩)
        case rest =>
          obtain ⟨n, P, S, p1, p2, p3, d1, d2, d3, hWn, hPn, hSn, hX, hFn⟩ := hcut
          have m0 := hX.c0
          have m1 := hX.c1
          have m2 := hX.c2
          have HISP := Lib.hid (s_IsPresentation _ _ _ P _ hPn.rd)
          go_wp2_with fail
          refine HISP.out.mono ?_
          rintro e w8 ⟨rfl, hB8⟩
          have X8 := hX.below hB8 hX.lt
          have hP8 := OP.below hPn hB8
          have hF8 := hFn.bel hB8
          have k0 := X8.c0
          have k1 := X8.c1
          have k2 := X8.c2
          have HPR := Lib.hid hWn.pr
          clear hX hPn hFn hB8 m0 m1 m2 HISP hWn
          cases hvb : validB P with
          | true =>
            have HV := Lib.hid (validB_true.1 hvb)
            go_wp2_with fail
            refine (s_l07Product _ P.orders w8 hP8.rd.1 HPR.out).mono ?_
            rintro e w9 ⟨rfl, rfl⟩
            generalize prodS P.orders = z
            by_cases hle : z ≤ l
            · have q0 := hF8.2.2.1.c0
              have q1 := hF8.2.2.1.c1
              have q2 := hF8.2.2.1.c2
              have f0 := hF8.2.2.1.fr 0
              have f1 := hF8.2.2.1.fr 1
              have f2 := hF8.2.2.1.fr 2
              have HD := Lib.hid (drp_set (C := ValidP) hF8 hP8 hSn HV.out)
              clear hF8 hP8 X8
              go_wp2_with fail
              exact bodyPost_ret (v := .agg #[Value.slice p1 n d1, Value.slice p2 n d2, Value.slice p3 n d3]) (by simp [results, Try.results57, go_sem, q0, q1, q2]) rfl HD.out
            · clear hP8 X8
              go_wp2_with fail
              go_roundw
              case rel => exact ⟨t + 1, by omega, by go_num, hF8⟩
              case measure => simp [intOf]; omega
          | false =>
            clear hP8 X8
            go_wp2_with fail
            go_roundw
            case rel => exact ⟨t + 1, by omega, by go_num, hF8⟩
            case measure => simp [intOf]; omega
      · have hcut : GS w0 vc nc b w b6 w5 := ⟨nn, p, _, a1, a2, a3, c1, c2, c3, hW, hP5, fun k hk => hk.1, X5, hF5⟩
        clear hF5 hP5 X5 hW
        obtain ⟨n, P, S, p1, p2, p3, d1, d2, d3, hWn, hPn, hSn, hX, hFn⟩ := hcut
        have m0 := hX.c0
        have m1 := hX.c1
        have m2 := hX.c2
        have HISP := Lib.hid (s_IsPresentation _ _ _ P _ hPn.rd)
        go_wp2_with fail
        refine HISP.out.mono ?_
        rintro e w8 ⟨rfl, hB8⟩
        have X8 := hX.below hB8 hX.lt
        have hP8 := OP.below hPn hB8
        have hF8 := hFn.bel hB8
        have k0 := X8.c0
        have k1 := X8.c1
        have k2 := X8.c2
        have HPR := Lib.hid hWn.pr
        clear hX hPn hFn hB8 m0 m1 m2 HISP hWn
        cases hvb : validB P with
        | true =>
          have HV := Lib.hid (validB_true.1 hvb)
          go_wp2_with fail
          refine (s_l07Product _ P.orders w8 hP8.rd.1 HPR.out).mono ?_
          rintro e w9 ⟨rfl, rfl⟩
          generalize prodS P.orders = z
          by_cases hle : z ≤ l
          · have q0 := hF8.2.2.1.c0
            have q1 := hF8.2.2.1.c1
            have q2 := hF8.2.2.1.c2
            have f0 := hF8.2.2.1.fr 0
            have f1 := hF8.2.2.1.fr 1
            have f2 := hF8.2.2.1.fr 2
            have HD := Lib.hid (drp_set (C := ValidP) hF8 hP8 hSn HV.out)
            clear hF8 hP8 X8
            go_wp2_with fail
            exact bodyPost_ret (v := .agg #[Value.slice p1 n d1, Value.slice p2 n d2, Value.slice p3 n d3]) (by simp [results, Try.results57, go_sem, q0, q1, q2]) rfl HD.out
          · clear hP8 X8
            go_wp2_with fail
            go_roundw
            case rel => exact ⟨t + 1, by omega, by go_num, hF8⟩
            case measure => simp [intOf]; omega
        | false =>
          clear hP8 X8
          go_wp2_with fail
          go_roundw
          case rel => exact ⟨t + 1, by omega, by go_num, hF8⟩
          case measure => simp [intOf]; omega
    · obtain rfl : t = 12 := by omega
      have hlit := Rd.litI wr [2] (by simp)
      have hF1 := hF.bel (below_alloc wr (.cells (([2] : List Int).map (Value.int .i64)).toArray 2))
      go_wp2_with fail
      refine (HTR.out _ _ hlit).mono ?_
      rintro e w5 ⟨v1, v2, v3, rfl, hP5, hB5⟩
      have hW2 : WS 1 (triv [2]) := ws_triv (os := [2]) (by decide)
      obtain ⟨⟨d1, e1, rfl⟩, ⟨d2, e2, rfl⟩, ⟨d3, e3, rfl⟩⟩ := hP5.formsN hW2.on hW2.pl hW2.cl
      have hF8 := hF1.bel hB5
      have hlt1 := hF1.lt
      have q0 := hF8.2.2.1.c0
      have q1 := hF8.2.2.1.c1
      have q2 := hF8.2.2.1.c2
      have f0 := hF8.2.2.1.fr 0
      have f1 := hF8.2.2.1.fr 1
      have f2 := hF8.2.2.1.fr 2
      have HD := Lib.hid (drp_set (C := ValidP) hF8 hP5 (fun k hk => Nat.lt_of_lt_of_le hlt1 hk.1) valid_triv2)
      clear hF8 hP5 hF1 hF hB5 hlit
      go_wp2_with fail
      exact bodyPost_ret (v := .agg #[Value.slice d1 1 e1, Value.slice d2 1 e2, Value.slice d3 1 e3]) (by simp [results, Try.results57, go_sem, q0, q1, q2]) rfl HD.out
--== end
end Go.Proofs.Ytiikoappknejgaa
namespace Go.Proofs.Ytiikoappknejgaa
set_option linter.unusedVariables false
set_option linter.unusedSimpArgs false
set_option maxRecDepth 100000
open Go.RowKit
attribute [local go_sem ↓] Go.wp_at_zero Go.wp_at_succ

--== plain
theorem ordc_at {w : World} {S : Nat → Prop} {v1 v2 v3 : Value} {p : Pres} (h : OP w S v1 v2 v3 p) (hp : primesB p.orders = true) {n j : Nat} (hn : p.orders.length = n) (hj : j < n) :
    ∃ g c o, v1 = .slice (some ⟨g, 0, none⟩) n c ∧ w.cell? ⟨g, j, none⟩ = some (.int .i64 o) ∧ 2 ≤ o ∧ o ≤ 7 ∧ S g ∧ g < w.heap.size := by
  subst hn
  obtain ⟨A, B, C, q1, q2, q3, s1, s2, s3, _⟩ := h
  obtain ⟨g, cap, rfl, _, hl, _, _, hc, hf⟩ := q1.1.open (by omega)
  have := primesB_at hp (getD_mem hj)
  exact ⟨g, cap, _, rfl, hc j hj, this.1, this.2, s1 g (q1.2 g rfl), World.block_lt_of_cell? _ _ (hc j hj)⟩
theorem BY.putP {N b2 b4 n b i j : Nat} {wx : World} (h : BY N b2 b4 n wx) (hb : b < N) (hi : i < n) (hj : j < n) :
    ∃ go c1 o g c2 a3 c3 g2 q2, 2 ≤ o ∧ o ≤ 7 ∧ N ≤ g2 ∧ ∀ w3, ChgS (fun k => k = b) wx w3 → Bx w3 b4 (.slice (some ⟨go, 0, none⟩) n c1) (.slice (some ⟨g, 0, none⟩) n c2) (.slice a3 n c3) ∧ w3.cell? ⟨go, j, none⟩ = some (.int .i64 o) ∧
      w3.cell? ⟨g, i, none⟩ = some (.slice (some ⟨g2, 0, none⟩) n q2) ∧ (∃ r, w3.cell? ⟨g2, j, none⟩ = some r) ∧ w3.frozen? ⟨g2, j, none⟩ = false ∧ ∀ y : Int, BY N b2 b4 n (w3.setCell ⟨g2, j, none⟩ (.int .i64 y)) := by
  obtain ⟨h2, h4, hne, P, v1, v2, v3, hW, X2, X4, hO⟩ := h
  obtain ⟨⟨a1, c1, rfl⟩, ⟨a2, c2, rfl⟩, ⟨a3, c3, rfl⟩⟩ := hO.formsN hW.on hW.pl hW.cl
  have h0 := OP.sub (S' := fun k => (N ≤ k ∧ k ≠ b2 ∧ k ≠ b4) ∧ k < wx.heap.size) hO fun k hk hh => ⟨hh, hk⟩
  have hpl := hW.pl
  have hpv := hW.pv i hi
  obtain ⟨go, co, o, eo, hco, o1, o2, hSo, hlo⟩ := ordc_at h0 hW.pr hW.on hj
  simp only [Value.slice.injEq] at eo
  obtain ⟨rfl, _, rfl⟩ := eo
  obtain ⟨g, cap, e0, _, _, hSg, _⟩ := op_setPw h0 (j := i) (by omega) (T := fun _ => False) (y := .slice none 0 0) (d := []) (local_O1.nil _ _) (fun k hk => hk.elim)
  simp only [Value.slice.injEq] at e0
  obtain ⟨rfl, _, rfl⟩ := e0
  obtain ⟨g', cap', g2, q2, e1, hcell, ⟨r, hr⟩, hfz, hS2, _⟩ := op_putPow h0 (i := i) (j := j) (by omega) (by omega)
  simp only [Value.slice.injEq, Option.some.injEq, Addr.mk.injEq] at e1
  obtain ⟨⟨rfl, _⟩, _, _⟩ := e1
  rw [hpv] at hcell
  have l2 := X2.lt
  have l4 := X4.lt
  refine ⟨go, c1, o, g, c2, a3, c3, g2, q2, o1, o2, hS2.1.1, fun w3 hc => ?_⟩
  have ho := hc.at hlo (by have := hSo.1.1; omega)
  have hga := hc.at hSg.2 (by have := hSg.1.1; omega)
  have hgb := hc.at hS2.2 (by have := hS2.1.1; omega)
  have hcell3 := (hga.1 i).trans hcell
  refine ⟨X4.chg hc (by omega), (ho.1 j).trans hco, hcell3, ⟨r, (hgb.1 j).trans hr⟩, (hgb.2 j).trans hfz, fun y => ?_⟩
  have hop := OP.chg h0 hc fun k hk e => by have := hk.1.1; omega
  obtain ⟨g', cap', g2', q2', e', hcell', _, _, _, hP⟩ := op_putPow hop (i := i) (j := j) (by omega) (by omega)
  simp only [Value.slice.injEq, Option.some.injEq, Addr.mk.injEq] at e'
  obtain ⟨⟨rfl, _⟩, _, _⟩ := e'
  rw [hcell3] at hcell'
  simp only [Option.some.injEq, Value.slice.injEq, Addr.mk.injEq] at hcell'
  obtain ⟨⟨rfl, _⟩, _, _⟩ := hcell'
  exact ⟨h2, h4, hne, _, _, _, _, ws_stP hW hi (by rw [List.length_set]; exact hpv), (X2.chg hc (by omega)).other (Ne.symm hS2.1.2.1) j _, (X4.chg hc (by omega)).other (Ne.symm hS2.1.2.2) j _, OP.sub (hP y) fun k _ hh => hh.1⟩
theorem BY.putC {N b2 b4 n b i k j : Nat} {wx : World} (h : BY N b2 b4 n wx) (hb : b < N) (hi : i < n) (hk : k < n - (i + 1)) (hj : j < n) :
    ∃ go c1 o a2 c2 g c3 g2 q2 g3 q3, 2 ≤ o ∧ o ≤ 7 ∧ N ≤ g3 ∧ ∀ w3, ChgS (fun k => k = b) wx w3 → Bx w3 b4 (.slice (some ⟨go, 0, none⟩) n c1) (.slice a2 n c2) (.slice (some ⟨g, 0, none⟩) n c3) ∧ w3.cell? ⟨go, j, none⟩ = some (.int .i64 o) ∧
      w3.cell? ⟨g, i, none⟩ = some (.slice (some ⟨g2, 0, none⟩) (n - (i + 1)) q2) ∧ w3.cell? ⟨g2, k, none⟩ = some (.slice (some ⟨g3, 0, none⟩) n q3) ∧ (∃ r, w3.cell? ⟨g3, j, none⟩ = some r) ∧ w3.frozen? ⟨g3, j, none⟩ = false ∧ ∀ y : Int, BY N b2 b4 n (w3.setCell ⟨g3, j, none⟩ (.int .i64 y)) := by
  obtain ⟨h2, h4, hne, P, v1, v2, v3, hW, X2, X4, hO⟩ := h
  obtain ⟨⟨a1, c1, rfl⟩, ⟨a2, c2, rfl⟩, ⟨a3, c3, rfl⟩⟩ := hO.formsN hW.on hW.pl hW.cl
  have h0 := OP.sub (S' := fun k => (N ≤ k ∧ k ≠ b2 ∧ k ≠ b4) ∧ k < wx.heap.size) hO fun k hk hh => ⟨hh, hk⟩
  have hcl := hW.cl
  have hrl := hW.rl i hi
  have hcv := hW.cv i k hi hk
  obtain ⟨go, co, o, eo, hco, o1, o2, hSo, hlo⟩ := ordc_at h0 hW.pr hW.on hj
  simp only [Value.slice.injEq] at eo
  obtain ⟨rfl, _, rfl⟩ := eo
  obtain ⟨g, cap, g2, q2, e0, hcell, _, _, hSg, hSg2, hg, hg2, _⟩ := op_setCj h0 (i := i) (j := k) (by omega) (by omega) (T := fun _ => False) (y := .slice none 0 0) (d := []) (local_O1.nil _ _) (fun k hk => hk.elim)
  simp only [Value.slice.injEq] at e0
  obtain ⟨rfl, _, rfl⟩ := e0
  obtain ⟨g', cap', g2', q2', g3, q3, e1, hcell1, hcell2, ⟨r, hr⟩, hfz, hS3, _⟩ := op_putCj h0 (i := i) (k := k) (j := j) (by omega) (by omega) (by omega)
  simp only [Value.slice.injEq, Option.some.injEq, Addr.mk.injEq] at e1
  obtain ⟨⟨rfl, _⟩, _, _⟩ := e1
  rw [hcell] at hcell1
  simp only [Option.some.injEq, Value.slice.injEq, Addr.mk.injEq] at hcell1
  obtain ⟨⟨rfl, _⟩, _, rfl⟩ := hcell1
  rw [hrl] at hcell
  rw [hcv] at hcell2
  have l2 := X2.lt
  have l4 := X4.lt
  refine ⟨go, c1, o, a2, c2, g, c3, g2, q2, g3, q3, o1, o2, hS3.1.1, fun w3 hc => ?_⟩
  have ho := hc.at hlo (by have := hSo.1.1; omega)
  have hga := hc.at hg (by have := hSg.1.1; omega)
  have hgb := hc.at hg2 (by have := hSg2.1.1; omega)
  have hgc := hc.at hS3.2 (by have := hS3.1.1; omega)
  have hcell3 := (hga.1 i).trans hcell
  have hcell4 := (hgb.1 k).trans hcell2
  refine ⟨X4.chg hc (by omega), (ho.1 j).trans hco, hcell3, hcell4, ⟨r, (hgc.1 j).trans hr⟩, (hgc.2 j).trans hfz, fun y => ?_⟩
  have hop := OP.chg h0 hc fun k hk e => by have := hk.1.1; omega
  obtain ⟨g', cap', g2', q2', g3', q3', e', hcell', hcell2', _, _, _, hP⟩ := op_putCj hop (i := i) (k := k) (j := j) (by omega) (by omega) (by omega)
  simp only [Value.slice.injEq, Option.some.injEq, Addr.mk.injEq] at e'
  obtain ⟨⟨rfl, _⟩, _, _⟩ := e'
  rw [hcell3] at hcell'
  simp only [Option.some.injEq, Value.slice.injEq, Addr.mk.injEq] at hcell'
  obtain ⟨⟨rfl, _⟩, _, _⟩ := hcell'
  rw [hcell4] at hcell2'
  simp only [Option.some.injEq, Value.slice.injEq, Addr.mk.injEq] at hcell2'
  obtain ⟨⟨rfl, _⟩, _, _⟩ := hcell2'
  exact ⟨h2, h4, hne, _, _, _, _, ws_stC hW hk (by rw [List.length_set]; exact hcv), (X2.chg hc (by omega)).other (Ne.symm hS3.1.2.1) j _, (X4.chg hc (by omega)).other (Ne.symm hS3.1.2.2) j _, OP.sub (hP y) fun k _ hh => hh.1⟩
/-- a store of a number behind a draw -/
theorem ST.put {w0 w wr w3 : World} {vc : Value} {nc b b2 b4 n g o : Nat} {y : Int} (h : ST w0 vc nc b w b2 b4 n wr) (hb : b < w.heap.size) (h0 : w0.heap.size ≤ w.heap.size) (hs : Src w0 vc nc b w3) (hc : Chg b (b + 1) wr w3) (hg : w.heap.size ≤ g)
    (hY : BY w.heap.size b2 b4 n (w3.setCell ⟨g, o, none⟩ (.int .i64 y))) : ST w0 vc nc b w b2 b4 n (w3.setCell ⟨g, o, none⟩ (.int .i64 y)) := by
  have hz := h.2.2.size
  have hz3 := hc.size
  have hbw : Below w.heap.size w3 (w3.setCell ⟨g, o, none⟩ (.int .i64 y)) := ((Below.refl _ w3).mono (by omega : w.heap.size ≤ w3.heap.size)).setCell (p := ⟨g, o, none⟩) hg _
  exact ⟨hY, hs.belowB hbw hb h0, (h.2.2.tr hc).belB hbw⟩
--== spec.l07Turn
set_option maxHeartbeats 8000000 in
theorem s_l07Turn {w0 : World} {vc : Value} {nc b n : Nat} {p : Pres} (hW : WS n p) (hn : n ≤ 6) (v1 v2 v3 : Value) (w : World) (h : Src w0 vc nc b w) (hp : RdP w v1 v2 v3 p) : Calls Try.prog 37 #[.pointer (some ⟨b, 0, none⟩), .agg #[v1, v2, v3]] w (DrP WS6 w0 vc nc b w) := by
  obtain ⟨R1, R2, R3⟩ := hp
  obtain ⟨ao1, aq1, rfl, _, _⟩ := R1.formN hW.on
  obtain ⟨ao2, aq2, rfl, _, _⟩ := R2.formN hW.pl
  obtain ⟨ao3, aq3, rfl, _, _⟩ := R3.formN hW.cl
  have g1 := below_allocs2 w (Obj.cells #[Value.slice ao1 n aq1, Value.slice ao2 n aq2, Value.slice ao3 n aq3] 28) (Obj.cells #[Value.slice none 0 0, Value.slice none 0 0, Value.slice none 0 0] 28)
  have HXA := (Bx.new w (Value.slice ao1 n aq1) (Value.slice ao2 n aq2) (Value.slice ao3 n aq3)).old (Obj.cells #[Value.slice none 0 0, Value.slice none 0 0, Value.slice none 0 0] 28)
  have x1 := Bx.new (w.alloc (Obj.cells #[Value.slice ao1 n aq1, Value.slice ao2 n aq2, Value.slice ao3 n aq3] 28)) (Value.slice none 0 0) (Value.slice none 0 0) (Value.slice none 0 0)
  rw [show (w.alloc (Obj.cells #[Value.slice ao1 n aq1, Value.slice ao2 n aq2, Value.slice ao3 n aq3] 28)).heap.size = w.heap.size + 1 by simp] at x1
  have HRP := Lib.hid (⟨R1.below g1, R2.below g1, R3.below g1⟩ : RdP _ _ _ _ p)
  have hbl := h.lt
  have hw0 : w0.heap.size ≤ w.heap.size := h.be.size
  have HS := Lib.hid h
  have HNX : Hid (∀ (m : Int) wx, -100 ≤ m → m ≤ 100 → Src w0 vc nc b wx → Calls Try.prog 36 #[.pointer (some ⟨b, 0, none⟩), .int .i64 m] wx (Nxt w0 vc nc b wx m)) := fun m wx h1 h2 h => s_l01Next wx h m (by omega) (by omega)
  have HOW : Hid (∀ wx, RdP wx (.slice ao1 n aq1) (.slice ao2 n aq2) (.slice ao3 n aq3) p → Calls Try.prog 59 #[.agg #[.slice ao1 n aq1, .slice ao2 n aq2, .slice ao3 n aq3]] wx (RetP wx p)) := fun wx h => s_l07Own hW hn _ _ _ wx h
  have HW := Lib.hid hW
  have a0 := HXA.c0
  have a1' := HXA.c1
  have a2' := HXA.c2
  clear R1 R2 R3 h hW HXA
  go_enter Try.func37, Try.ntmps37
  go_wp2_with fail
  refine (HOW.out _ HRP.out).mono ?_
  generalize hw1 : (w.alloc (Obj.cells #[Value.slice ao1 n aq1, Value.slice ao2 n aq2, Value.slice ao3 n aq3] 28)).alloc (Obj.cells #[Value.slice none 0 0, Value.slice none 0 0, Value.slice none 0 0] 28) = w1 at *
  have z1 : w1.heap.size = w.heap.size + 2 := by rw [← hw1]; simp
  clear hw1
  rintro e w2 ⟨u1, u2, u3, rfl, hP, hB⟩
  obtain ⟨⟨k1, l1, rfl⟩, ⟨k2, l2, rfl⟩, ⟨k3, l3, rfl⟩⟩ := hP.formsN HW.out.on HW.out.pl HW.out.cl
  have x2 := x1.below hB (by omega)
  have g2 := below_size g1 hB
  have hY := BY.mk (N := w.heap.size) x2 hP (fun k hk _ => by have h1 := hk.1; exact ⟨by omega, by omega⟩) HW.out (by omega)
  have g3 := ballocD g2 (Obj.cells #[Value.slice k1 n l1, Value.slice k2 n l2, Value.slice k3 n l3] 28)
  have hST : ST w0 vc nc b w (w.heap.size + 1) w2.heap.size n (w2.alloc (Obj.cells #[Value.slice k1 n l1, Value.slice k2 n l2, Value.slice k3 n l3] 28)) := ⟨hY, HS.out.below g3, Chg.of_below g3 _ _⟩
  clear hP hB x2 g2 hY g3 g1 x1 a0 a1' a2'
  go_wp2_with fail
  generalize w2.alloc (Obj.cells #[Value.slice k1 n l1, Value.slice k2 n l2, Value.slice k3 n l3] 28) = w4 at *
  generalize w2.heap.size = b4 at *
  refine (HNX.out n w4 (by omega) (by omega) hST.2.1).mono ?_
  rintro e w5 ⟨r, rfl, r0, r1, hS5, hC5⟩
  obtain ⟨i, rfl⟩ : ∃ i : Nat, r = (i : Int) := ⟨r.toNat, by omega⟩
  replace hST := hST.keep hS5 hC5 hbl
  have hin : i ≤ 6 := by rcases r1 with r1 | r1 <;> omega
  clear hS5 hC5 r0
  have V1 : IntKind.i64.wrap ((i : Int) + 1) = (i : Int) + 1 := IntWalk.i64_in _ (by omega)
  have V2 : IntKind.i64.wrap ((n : Int) - 1) = (n : Int) - 1 := IntWalk.i64_in _ (by omega)
  have V3 : IntKind.i64.wrap ((n : Int) - 1 - (i : Int)) = (n : Int) - 1 - (i : Int) := IntWalk.i64_in _ (by omega)
  go_wp2_with fail
  refine (HNX.out ((n : Int) - 1 - (i : Int)) w5 (by omega) (by omega) hST.2.1).mono ?_
  rintro e w6 ⟨r, rfl, r0, r2, hS6, hC6⟩
  obtain ⟨i2, rfl⟩ : ∃ i : Nat, r = (i : Int) := ⟨r.toNat, by omega⟩
  replace hST := hST.keep hS6 hC6 hbl
  have hin2 : i2 ≤ 6 := by rcases r2 with r2 | r2 <;> omega
  clear hS6 hC6 r0
  obtain ⟨j, hj⟩ : ∃ j, j = i + 1 + i2 := ⟨_, rfl⟩
  have V4 : IntKind.i64.wrap ((i : Int) + 1 + (i2 : Int)) = (j : Int) := by rw [IntWalk.i64_in _ (by omega)]; omega
  by_cases hjn : j < n
  · have L1 : (j : Int) < (n : Int) := by omega
    have L2 : (0 : Int) ≤ (j : Int) := by omega
    have L3 : (i : Int) < (n : Int) := by omega
    have L4 : (0 : Int) ≤ (i : Int) := by omega
    have hi : i < n := by omega
    have hij : i + 1 ≤ j := by omega
    clear r1 r2 hj
    go_wp2_with fail
    refine (HNX.out 3 w6 (by omega) (by omega) hST.2.1).mono ?_
    rintro e w7 ⟨r, rfl, r0, r3, hS7, hC7⟩
    replace hST := hST.keep hS7 hC7 hbl
    clear hS7 hC7
    by_cases hr : r = 0
    · subst hr
      obtain ⟨go, c1, o, g, c2, a3, c3, g2, q2, o1, o2, hg2, hset⟩ := hST.1.putP hbl hi hjn
      obtain ⟨y0, y1, y2, _, _, _⟩ := hset _ (ChgS.refl _ _)
      have m0 := y0.c0
      have m1 := y0.c1
      have HSET := Lib.hid hset
      have HST := Lib.hid hST
      have HSS := Lib.hid hST.2.1
      clear hset hST y0
      go_upto_region 8 with (fail)
      go_cut [] (fun wx => ST w0 vc nc b w (w.heap.size + 1) b4 n wx)
      case first =>
        go_region_law (go_simp; go_at_call 36; go_must (refine (HNX.out o _ (by omega) (by omega) (HSS.out.below ((Below.refl _ _).drew))).mono ?_); rintro e w8 ⟨r8, rfl, _, _, hS8, hC8⟩; obtain ⟨t0, t1, t2, ⟨rr, t3⟩, t4, t5⟩ := HSET.out w8 (chgS_of hC8.undrew); have u0 := t0.c0; have u1 := t0.c1; have hq := Lib.hid (HST.out.put hbl hw0 hS8 hC8.undrew hg2 (t5 r8)))
        all_goals (go_wp2_with fail; go_meet; exact hq.out)
      case rest =>
        have hST := hcut
        clear hcut m0 m1 y1 y2 HSET HST HSS
        obtain ⟨b1, d1, b2, d2, b3, d3, x4, y2, hF⟩ := hST.fin hbl hw0
        have HF := Lib.hid hF
        have n0 := x4.c0
        have n1 := x4.c1
        have n2 := x4.c2
        have q0 := y2.c0
        have q1 := y2.c1
        have q2 := y2.c2
        have f0 := y2.fr 0
        have f1 := y2.fr 1
        have f2 := y2.fr 2
        clear x4 y2 hF hST
        go_wp2_with fail
        exact bodyPost_ret (v := .agg #[Value.slice b1 n d1, Value.slice b2 n d2, Value.slice b3 n d3]) (by simp [results, Try.results37, go_sem, q0, q1, q2]) rfl (HF.out WS6 fun P hW => ⟨n, hn, hW⟩)
    · go_wp2_with fail
      refine (HNX.out ((n : Int) - 1 - (i : Int)) w7 (by omega) (by omega) hST.2.1).mono ?_
      rintro e w8 ⟨r8, rfl, r8a, r8b, hS8, hC8⟩
      obtain ⟨i4, rfl⟩ : ∃ i : Nat, r8 = (i : Int) := ⟨r8.toNat, by omega⟩
      replace hST := hST.keep hS8 hC8 hbl
      have hi4 : i4 < n - (i + 1) := by rcases r8b with r2 | r2 <;> omega
      obtain ⟨k, hk⟩ : ∃ k, k = i + 1 + i4 := ⟨_, rfl⟩
      have V6 : IntKind.i64.wrap ((i : Int) + 1 + (i4 : Int)) = (k : Int) := by rw [IntWalk.i64_in _ (by omega)]; omega
      have V7 : IntKind.i64.wrap ((k : Int) - (i : Int)) = (i4 : Int) + 1 := by rw [IntWalk.i64_in _ (by omega)]; omega
      have V8 : IntKind.i64.wrap ((i4 : Int) + 1 - 1) = (i4 : Int) := by rw [IntWalk.i64_in _ (by omega)]; omega
      have V9 : IntKind.i64.wrap (i4 : Int) = (i4 : Int) := by rw [IntWalk.i64_in _ (by omega)]
      clear hS8 hC8 r8a r8b
      obtain ⟨go, c1, o, a2, c2, g, c3, g2, q2, g3, q3, o1, o2, hg3, hset⟩ := hST.1.putC hbl hi hi4 hjn
      obtain ⟨M, hM⟩ : ∃ M, n - (i + 1) = M := ⟨_, rfl⟩
      rw [hM] at hset
      have L5 : (i4 : Int) < (M : Int) := by omega
      have L6 : (0 : Int) ≤ (i4 : Int) := by omega
      obtain ⟨y0, y1, y2, y3, _, _, _⟩ := hset _ (ChgS.refl _ _)
      have m0 := y0.c0
      have m2 := y0.c2
      have HSET := Lib.hid hset
      have HST := Lib.hid hST
      have HSS := Lib.hid hST.2.1
      clear hset hST y0 hM hi4 hk
      go_upto_region 11 with (fail)
      go_cut [] (fun wx => ST w0 vc nc b w (w.heap.size + 1) b4 n wx)
      case first =>
        go_region_law (go_simp; go_at_call 36; go_must (refine (HNX.out o _ (by omega) (by omega) (HSS.out.below ((Below.refl _ _).drew))).mono ?_); rintro e w9 ⟨r9, rfl, _, _, hS9, hC9⟩; obtain ⟨t0, t1, t2, t2b, ⟨rr, t3⟩, t4, t5⟩ := HSET.out w9 (chgS_of hC9.undrew); have u0 := t0.c0; have u1 := t0.c2; have hq := Lib.hid (HST.out.put hbl hw0 hS9 hC9.undrew hg3 (t5 r9)))
        all_goals (go_wp2_with fail; go_meet; exact hq.out)
      case rest =>
        have hST := hcut
        clear hcut m0 m2 y1 y2 y3 HSET HST HSS
        obtain ⟨b1, d1, b2, d2, b3, d3, x4, y2, hF⟩ := hST.fin hbl hw0
        have HF := Lib.hid hF
        have n0 := x4.c0
        have n1 := x4.c1
        have n2 := x4.c2
        have q0 := y2.c0
        have q1 := y2.c1
        have q2 := y2.c2
        have f0 := y2.fr 0
        have f1 := y2.fr 1
        have f2 := y2.fr 2
        clear x4 y2 hF hST
        go_wp2_with fail
        exact bodyPost_ret (v := .agg #[Value.slice b1 n d1, Value.slice b2 n d2, Value.slice b3 n d3]) (by simp [results, Try.results37, go_sem, q0, q1, q2]) rfl (HF.out WS6 fun P hW => ⟨n, hn, hW⟩)
  · have L1 : ¬ (j : Int) < (n : Int) := by omega
    clear r1 r2 hj
    obtain ⟨b1, d1, b2, d2, b3, d3, x4, y2, hF⟩ := hST.fin hbl hw0
    have HF := Lib.hid hF
    have n0 := x4.c0
    have n1 := x4.c1
    have n2 := x4.c2
    have q0 := y2.c0
    have q1 := y2.c1
    have q2 := y2.c2
    have f0 := y2.fr 0
    have f1 := y2.fr 1
    have f2 := y2.fr 2
    clear x4 y2 hF hST
    go_wp2_with fail
    exact bodyPost_ret (v := .agg #[Value.slice b1 n d1, Value.slice b2 n d2, Value.slice b3 n d3]) (by simp [results, Try.results37, go_sem, q0, q1, q2]) rfl (HF.out WS6 fun P hW => ⟨n, hn, hW⟩)
--== end
end Go.Proofs.Ytiikoappknejgaa
namespace Go.Proofs.Ytiikoappknejgaa
set_option linter.unusedVariables false
set_option linter.unusedSimpArgs false
set_option maxRecDepth 100000
open Go.RowKit
attribute [local go_sem ↓] Go.wp_at_zero Go.wp_at_succ

--== plain
def OB (P : Pres) : Prop := P.orders.length ≤ 100
/-- where a draw stands: some presentation in box b4, the result's box b2 empty -/
def TS (w0 : World) (vc : Value) (nc b : Nat) (w : World) (b2 b4 : Nat) (wx : World) : Prop :=
  (w.heap.size ≤ b2 ∧ w.heap.size ≤ b4 ∧ b2 ≠ b4 ∧ b < w.heap.size ∧ w0.heap.size ≤ w.heap.size) ∧ Src w0 vc nc b wx ∧ Chg b (b + 1) w wx ∧ Bx wx b2 (.slice none 0 0) (.slice none 0 0) (.slice none 0 0) ∧
    ∃ (P : Pres) (v1 v2 v3 : Value), OB P ∧ OP wx (fun k => w.heap.size ≤ k ∧ k ≠ b2 ∧ k ≠ b4) v1 v2 v3 P ∧ Bx wx b4 v1 v2 v3
theorem ST.ts {w0 w wx : World} {vc : Value} {nc b b2 b4 n : Nat} (h : ST w0 vc nc b w b2 b4 n wx) (hb : b < w.heap.size) (h0 : w0.heap.size ≤ w.heap.size) (hn : n ≤ 100) : TS w0 vc nc b w b2 b4 wx := by
  obtain ⟨⟨h2, h4, hne, P, v1, v2, v3, hW, X2, X4, hO⟩, hS, hC⟩ := h
  exact ⟨⟨h2, h4, hne, hb, h0⟩, hS, hC, X2, P, v1, v2, v3, by unfold OB; rw [hW.on]; exact hn, hO, X4⟩
theorem TS.fin {w0 w wx : World} {vc : Value} {nc b b2 b4 : Nat} (h : TS w0 vc nc b w b2 b4 wx) :
    ∃ a1 n1 c1 a2 n2 c2 a3 n3 c3, Bx wx b4 (.slice a1 n1 c1) (.slice a2 n2 c2) (.slice a3 n3 c3) ∧ Bx wx b2 (.slice none 0 0) (.slice none 0 0) (.slice none 0 0) ∧
      DrP OB w0 vc nc b w (.returned (.agg #[.slice a1 n1 c1, .slice a2 n2 c2, .slice a3 n3 c3])) (((wx.setCell ⟨b2, 0, none⟩ (.slice a1 n1 c1)).setCell ⟨b2, 1, none⟩ (.slice a2 n2 c2)).setCell ⟨b2, 2, none⟩ (.slice a3 n3 c3)) := by
  obtain ⟨⟨h2, h4, hne, hb, h0⟩, hS, hC, X2, P, v1, v2, v3, hob, hO, X4⟩ := h
  obtain ⟨⟨a1, c1, rfl⟩, ⟨a2, c2, rfl⟩, ⟨a3, c3, rfl⟩⟩ := hO.forms
  have hbl := set3B ((Below.refl wx.heap.size wx).mono hC.size) h2 (Value.slice a1 P.orders.length c1) (Value.slice a2 P.powers.length c2) (Value.slice a3 P.conj.length c3)
  exact ⟨a1, _, c1, a2, _, c2, a3, _, c3, X4, X2, P, _, _, _, hob, rfl, OP.sub (OP.sets (OP.sets (OP.sets hO (b := b2) (fun hh => hh.2.1 rfl) 0 _) (b := b2) (fun hh => hh.2.1 rfl) 1 _) (b := b2) (fun hh => hh.2.1 rfl) 2 _) fun k hk hh => ⟨hh.1, hk⟩, hS.belowB hbl hb h0, hC.belB hbl⟩
/-- the orders have grown -/
theorem op_appOrd {w w' : World} {S : Nat → Prop} {v1 v2 v3 v1' : Value} {p : Pres} {xs : List Int} (h : OP w S v1 v2 v3 p) (hI : Ints w' 0 v1' xs) (hG : Grew w w' v1 v1') : OP w' (fun k => (S k ∧ k < w.heap.size) ∨ w.heap.size ≤ k) v1' v2 v3 ⟨xs, p.powers, p.conj⟩ := by
  obtain ⟨A, B, C, h1, h2, h3, s1, s2, s3, d1, d2, d3⟩ := h
  have hlt : ∀ g, v1.ownBlock = some g → A g ∧ g < w.heap.size := fun g hg => ⟨h1.2 g hg, (h1.1.lt g hg).2⟩
  have hC : ChgS (fun k => A k ∧ k < w.heap.size) w w' := ChgS.of_grew hG hlt
  refine ⟨fun k => (A k ∧ k < w.heap.size) ∨ w.heap.size ≤ k, fun k => B k ∧ k < w.heap.size, fun k => C k ∧ k < w.heap.size, ⟨hI, fun g hg => ?_⟩, local_O2.chg (local_O2.cut h2) hC (fun k hk hh => d1 k hh.1 hk.1), local_O3.chg (local_O3.cut h3) hC (fun k hk hh => d2 k hh.1 hk.1), fun k hk => ?_, fun k hk => .inl ⟨s2 k hk.1, hk.2⟩, fun k hk => .inl ⟨s3 k hk.1, hk.2⟩, fun k hk hh => ?_, fun k hk hh => ?_, fun k hk hh => d3 k hk.1 hh.1⟩
  · rcases hG.moved g hg with hm | hm
    · exact .inl (hlt g hm)
    · exact .inr (by omega)
  · rcases hk with hk | hk
    · exact .inl ⟨s1 k hk.1, hk.2⟩
    · exact .inr hk
  · rcases hk with hk | hk
    · exact d1 k hk.1 hh.1
    · omega
  · rcases hk with hk | hk
    · exact d2 k hk.1 hh.1
    · omega
/-- an order is put -/
theorem op_putOrd {w : World} {S : Nat → Prop} {v1 v2 v3 : Value} {p : Pres} (h : OP w S v1 v2 v3 p) {j : Nat} (hj : j < p.orders.length) :
    ∃ g cap, v1 = .slice (some ⟨g, 0, none⟩) p.orders.length cap ∧ (∃ r, w.cell? ⟨g, j, none⟩ = some r) ∧ w.frozen? ⟨g, j, none⟩ = false ∧ S g ∧ g < w.heap.size ∧ ∀ y : Int, OP (w.setCell ⟨g, j, none⟩ (.int .i64 y)) S v1 v2 v3 ⟨p.orders.set j y, p.powers, p.conj⟩ := by
  obtain ⟨A, B, C, h1, h2, h3, s1, s2, s3, d1, d2, d3⟩ := h
  obtain ⟨g, cap, rfl, _, hl, _, _, hc, hf⟩ := h1.1.open (by omega)
  have hA : A g := h1.2 g rfl
  refine ⟨g, cap, rfl, ⟨_, hc j hj⟩, hf j, s1 g hA, hl, fun y => ?_⟩
  obtain ⟨hs1, hs2⟩ := h1.1.set rfl j y
  have hC := ChgS.of_chg hs2
  exact ⟨A, B, C, ⟨hs1, h1.2⟩, local_O2.chg h2 hC (fun k hk e => d1 g hA (e ▸ hk)), local_O3.chg h3 hC (fun k hk e => d2 g hA (e ▸ hk)), s1, s2, s3, d1, d2, d3⟩
/-- a whole row of conjugates is put -/
theorem op_setCr {w : World} {S T : Nat → Prop} {v1 v2 v3 : Value} {p : Pres} (h : OP w S v1 v2 v3 p) {j : Nat} (hj : j < p.conj.length) {y : Value} {d : List (List Int)} (hy : O2 w T y d) (hd : ∀ k, T k → ¬ S k) :
    ∃ g cap, v3 = .slice (some ⟨g, 0, none⟩) p.conj.length cap ∧ (∃ r, w.cell? ⟨g, j, none⟩ = some r) ∧ w.frozen? ⟨g, j, none⟩ = false ∧ S g ∧ OP (w.setCell ⟨g, j, none⟩ y) (fun k => S k ∨ T k) v1 v2 v3 ⟨p.orders, p.powers, p.conj.set j d⟩ := by
  obtain ⟨A, B, C, h1, h2, h3, s1, s2, s3, d1, d2, d3⟩ := h
  obtain ⟨ao, cap, rfl, _, _, ho⟩ := ON.open h3
  rcases ho with h0 | ⟨g, rfl, hg, hlt, hc⟩
  · omega
  have hs := ON.set local_O2 rfl h3 hj hy (fun k hk hb => hd k hk (s3 k hb))
  have hC := ChgS.of_chg hs.2
  refine ⟨g, cap, rfl, (hc j hj).2, (hc j hj).1, s3 g hg, A, B, fun k => C k ∨ T k, local_O1.chg h1 hC (fun k hk e => d2 k hk (e ▸ hg)), local_O2.chg h2 hC (fun k hk e => d3 k hk (e ▸ hg)), hs.1, fun k hk => .inl (s1 k hk), fun k hk => .inl (s2 k hk), fun k hk => hk.imp (s3 k) id, d1, ?_, ?_⟩
  · rintro k hk (hb | hb)
    · exact d2 k hk hb
    · exact hd k hb (s1 k hk)
  · rintro k hk (hb | hb)
    · exact d3 k hk hb
    · exact hd k hb (s2 k hk)
/-- as TS, the values in the open; what the presentation owns lies below m -/
def KS (w0 : World) (vc : Value) (nc b : Nat) (w : World) (b2 b4 m : Nat) (v1 v2 v3 : Value) (P : Pres) (wx : World) : Prop :=
  (w.heap.size ≤ b2 ∧ w.heap.size ≤ b4 ∧ b2 ≠ b4 ∧ b < w.heap.size ∧ w0.heap.size ≤ w.heap.size ∧ b2 < m ∧ b4 < m ∧ w.heap.size ≤ m ∧ OB P) ∧ Src w0 vc nc b wx ∧ Chg b (b + 1) w wx ∧ Bx wx b2 (.slice none 0 0) (.slice none 0 0) (.slice none 0 0) ∧
    OP wx (fun k => (w.heap.size ≤ k ∧ k ≠ b2 ∧ k ≠ b4) ∧ k < m) v1 v2 v3 P ∧ Bx wx b4 v1 v2 v3
theorem ST.ks {w0 w wx : World} {vc : Value} {nc b b2 b4 n : Nat} (h : ST w0 vc nc b w b2 b4 n wx) (hb : b < w.heap.size) (h0 : w0.heap.size ≤ w.heap.size) (hn : n ≤ 100) : ∃ P a1 c1 a2 c2 a3 c3, WS n P ∧ KS w0 vc nc b w b2 b4 wx.heap.size (.slice a1 n c1) (.slice a2 n c2) (.slice a3 n c3) P wx := by
  obtain ⟨⟨h2, h4, hne, P, v1, v2, v3, hW, X2, X4, hO⟩, hS, hC⟩ := h
  obtain ⟨⟨a1, c1, rfl⟩, ⟨a2, c2, rfl⟩, ⟨a3, c3, rfl⟩⟩ := hO.formsN hW.on hW.pl hW.cl
  exact ⟨P, a1, c1, a2, c2, a3, c3, hW, ⟨h2, h4, hne, hb, h0, X2.lt, X4.lt, hC.size, by unfold OB; rw [hW.on]; exact hn⟩, hS, hC, X2, OP.sub hO fun k hk hh => ⟨hh, hk⟩, X4⟩
section
variable {w0 w wx wy : World} {vc : Value} {nc b b2 b4 m : Nat} {v1 v2 v3 : Value} {P : Pres}
theorem KS.keep (h : KS w0 vc nc b w b2 b4 m v1 v2 v3 P wx) (hs : Src w0 vc nc b wy) (hc : Chg b (b + 1) wx wy) : KS w0 vc nc b w b2 b4 m v1 v2 v3 P wy := by
  obtain ⟨⟨h1, h2, h3, h4, h5, h6⟩, hS, hC, X2, hO, X4⟩ := h
  exact ⟨⟨h1, h2, h3, h4, h5, h6⟩, hs, hC.tr hc, X2.chg (chgS_of hc) (by omega), OP.chg hO (chgS_of hc) (fun k hk e => by have := hk.1.1; omega), X4.chg (chgS_of hc) (by omega)⟩
theorem KS.bel (h : KS w0 vc nc b w b2 b4 m v1 v2 v3 P wx) (hb : Below wx.heap.size wx wy) : KS w0 vc nc b w b2 b4 m v1 v2 v3 P wy :=
  h.keep (h.2.1.below hb) (Chg.of_below hb _ _)
theorem KS.put (h : KS w0 vc nc b w b2 b4 m v1 v2 v3 P wy) {T : Nat → Prop} {g o : Nat} {y : Value} {Q : Pres} (hT : ∀ k, T k → k < wy.heap.size → w.heap.size ≤ k ∧ k ≠ b2 ∧ k ≠ b4) (hg : w.heap.size ≤ g ∧ g ≠ b2 ∧ g ≠ b4) (hO : OP (wy.setCell ⟨g, o, none⟩ y) T v1 v2 v3 Q) (hQ : OB Q) : TS w0 vc nc b w b2 b4 (wy.setCell ⟨g, o, none⟩ y) := by
  obtain ⟨⟨h1, h2, h3, h4, h5, h6⟩, hS, hC, X2, _, X4⟩ := h
  have hbl : Below w.heap.size wy (wy.setCell ⟨g, o, none⟩ y) := ((Below.refl _ wy).mono hC.size).setCell (p := ⟨g, o, none⟩) hg.1 _
  exact ⟨⟨h1, h2, h3, h4, h5⟩, hS.belowB hbl h4 h5, hC.belB hbl, X2.other (Ne.symm hg.2.1) _ _, Q, v1, v2, v3, hQ, OP.sub hO fun k hk hh => hT k hh (by simpa using hk), X4.other (Ne.symm hg.2.2) _ _⟩
theorem KS.ord0 (h : KS w0 vc nc b w b2 b4 m v1 v2 v3 P wx) {n : Nat} (hn : P.orders.length = n) (h0 : 0 < n) :
    ∃ g cap, v1 = .slice (some ⟨g, 0, none⟩) n cap ∧ ∀ wy, KS w0 vc nc b w b2 b4 m v1 v2 v3 P wy → wy.cell? ⟨b4, 0, none⟩ = some (.slice (some ⟨g, 0, none⟩) n cap) ∧ (∃ r, wy.cell? ⟨g, 0, none⟩ = some r) ∧ wy.frozen? ⟨g, 0, none⟩ = false ∧ ∀ y : Int, TS w0 vc nc b w b2 b4 (wy.setCell ⟨g, 0, none⟩ (.int .i64 y)) := by
  subst hn
  obtain ⟨g, cap, rfl, _⟩ := op_putOrd h.2.2.2.2.1 h0
  refine ⟨g, cap, rfl, fun wy hy => ?_⟩
  obtain ⟨g', cap', e, hr, hf, hSg, _, hput⟩ := op_putOrd hy.2.2.2.2.1 h0
  simp only [Value.slice.injEq, Option.some.injEq, Addr.mk.injEq] at e
  obtain ⟨⟨rfl, _⟩, _, _⟩ := e
  exact ⟨hy.2.2.2.2.2.c0, hr, hf, fun y => hy.put (fun k hk _ => hk.1) hSg.1 (hput y) (by unfold OB; rw [List.length_set]; exact hy.1.2.2.2.2.2.2.2.2)⟩
theorem KS.pow0 (h : KS w0 vc nc b w b2 b4 m v1 v2 v3 P wx) {n : Nat} (hn : P.powers.length = n) (h0 : 0 < n) :
    ∃ g cap r, v2 = .slice (some ⟨g, 0, none⟩) n cap ∧ g ≠ b4 ∧ Rd wx r (P.powers.getD 0 []) ∧ ∀ wy, KS w0 vc nc b w b2 b4 m v1 v2 v3 P wy → Below wx.heap.size wx wy → wy.cell? ⟨b4, 1, none⟩ = some (.slice (some ⟨g, 0, none⟩) n cap) ∧ wy.cell? ⟨g, 0, none⟩ = some r ∧ wy.frozen? ⟨g, 0, none⟩ = false ∧
      ∀ u row, Ints wy m u row → TS w0 vc nc b w b2 b4 (wy.setCell ⟨g, 0, none⟩ u) := by
  subst hn
  obtain ⟨g, cap, rfl, ⟨r, hr⟩, hf, hSg, _⟩ := op_setPw h.2.2.2.2.1 (j := 0) h0 (T := fun _ => False) (y := .slice none 0 0) (d := []) (local_O1.nil _ _) (fun k hk => hk.elim)
  obtain ⟨b', off', r', e', hc', hr'⟩ := h.2.2.2.2.1.rd.2.1.at h0
  simp only [Option.some.injEq, Addr.mk.injEq, and_true] at e'
  obtain ⟨rfl, rfl⟩ := e'
  rw [Nat.add_zero] at hc'
  have hgl := World.block_lt_of_cell? _ _ hc'
  refine ⟨g, cap, r', rfl, hSg.1.2.2, hr', fun wy hy hb => ⟨hy.2.2.2.2.2.c1, (hb.cell (p := ⟨g, 0, none⟩) hgl).trans hc', ((bcell hb).2 g 0 hgl).trans hf, fun u row hI => ?_⟩⟩
  obtain ⟨g', cap', e, _, _, hSg', hP⟩ := op_setPw hy.2.2.2.2.1 (j := 0) h0 (T := fun k => m ≤ k) ⟨hI.mono (Nat.zero_le _), fun g hg => (hI.lt g hg).1⟩ (fun k hk hh => by have h1 : m ≤ k := hk; have h2 := hh.2; omega)
  simp only [Value.slice.injEq, Option.some.injEq, Addr.mk.injEq] at e
  obtain ⟨⟨rfl, _⟩, _, _⟩ := e
  refine hy.put (fun k hk _ => ?_) hSg.1 hP hy.1.2.2.2.2.2.2.2.2
  rcases hk with hk | hk
  · exact hk.1
  · have hk' : m ≤ k := hk
    obtain ⟨_, _, _, _, _, h6, h7, h8, _⟩ := hy.1
    exact ⟨by omega, by omega, by omega⟩
theorem KS.cnj0 (h : KS w0 vc nc b w b2 b4 m v1 v2 v3 P wx) {n : Nat} (hn : P.conj.length = n) (h0 : 0 < n) :
    ∃ g cap r, v3 = .slice (some ⟨g, 0, none⟩) n cap ∧ g ≠ b4 ∧ Rd2 wx r (P.conj.getD 0 []) ∧ ∀ wy, KS w0 vc nc b w b2 b4 m v1 v2 v3 P wy → Below wx.heap.size wx wy → wy.cell? ⟨b4, 0, none⟩ = some v1 ∧ wy.cell? ⟨b4, 2, none⟩ = some (.slice (some ⟨g, 0, none⟩) n cap) ∧ wy.cell? ⟨g, 0, none⟩ = some r ∧ wy.frozen? ⟨g, 0, none⟩ = false ∧
      ∀ u rows, O2 wy (fun k => m ≤ k) u rows → TS w0 vc nc b w b2 b4 (wy.setCell ⟨g, 0, none⟩ u) := by
  subst hn
  obtain ⟨g, cap, rfl, ⟨r, hr⟩, hf, hSg, _⟩ := op_setCr h.2.2.2.2.1 (j := 0) h0 (T := fun _ => False) (y := .slice none 0 0) (d := []) (local_O2.nil _ _) (fun k hk => hk.elim)
  obtain ⟨b', off', r', e', hc', hr'⟩ := h.2.2.2.2.1.rd.2.2.at h0
  simp only [Option.some.injEq, Addr.mk.injEq, and_true] at e'
  obtain ⟨rfl, rfl⟩ := e'
  rw [Nat.add_zero] at hc'
  have hgl := World.block_lt_of_cell? _ _ hc'
  refine ⟨g, cap, r', rfl, hSg.1.2.2, hr', fun wy hy hb => ⟨hy.2.2.2.2.2.c0, hy.2.2.2.2.2.c2, (hb.cell (p := ⟨g, 0, none⟩) hgl).trans hc', ((bcell hb).2 g 0 hgl).trans hf, fun u row hI => ?_⟩⟩
  obtain ⟨g', cap', e, _, _, hSg', hP⟩ := op_setCr hy.2.2.2.2.1 (j := 0) h0 (T := fun k => m ≤ k) hI (fun k hk hh => by have h1 : m ≤ k := hk; have h2 := hh.2; omega)
  simp only [Value.slice.injEq, Option.some.injEq, Addr.mk.injEq] at e
  obtain ⟨⟨rfl, _⟩, _, _⟩ := e
  refine hy.put (fun k hk _ => ?_) hSg.1 hP hy.1.2.2.2.2.2.2.2.2
  rcases hk with hk | hk
  · exact hk.1
  · have hk' : m ≤ k := hk
    obtain ⟨_, _, _, _, _, h6, h7, h8, _⟩ := hy.1
    exact ⟨by omega, by omega, by omega⟩
end
section
variable {α : Type} {e : TypeId} {O : World → (Nat → Prop) → Value → List α → Prop}
theorem run_appG (hO : Local O) {P : Program} (w : World) (t ty : TypeId) (i : TypeInfo) (ht : P.underlying t = some (.slice e)) (hi : P.info? e = some i) (hz : i.zero = some (.slice none 0 0)) (hsize : i.size = 1) (hby : i.bytes = 24)
    (S T' : Nat → Prop) (v : Value) (ds : List (List α)) (hown : ON e O w S v ds) (y : Value) (d : List α) (hy : O w T' y d) (hone : y.oneCell' = true) (hd : ∀ k, T' k → ¬ S k) (vx : Value) (hx : RdV w vx [y]) (hn : ds.length ≤ 1000000000) :
    ∃ v' w', (Builtin.append_ #[t, t] ty #[v, vx]).run P w = .ok v' w' ∧ ON e O w' (aft S T' w w') v' (ds ++ [d]) ∧ ChgS (fun k => S k ∧ v.ownBlock = some k) w w' := by
  obtain ⟨vs, T, k1, k2, k3, k4, k5⟩ := hown
  have hvl : vs.length = ds.length := by have := k1.1; omega
  obtain ⟨v', w', hr, g1, g2, g3⟩ := run_app w 0 t ty e i (.slice none 0 0) 24 ht hi hz hsize hby rfl v ds.length vs k1 vx [y] hx
    (fun u hu => by simp at hu; subst hu; exact hone) (by simp [maxLen]; omega) (by simp; omega) (Nat.zero_le _)
  refine ⟨v', w', hr, ?_⟩
  have hG : Grew w w' v v' := ⟨g2, g3⟩
  have hsz := hG.grown.size
  have keep : ∀ (A : Nat → Prop) (u : Value) (c : List α), O w A u c → (∀ g, v.ownBlock = some g → ¬ A g) → O w' (fun k => A k ∧ k < w.heap.size) u c := fun A u c hu hd' =>
    hO.loc (hO.cut hu) fun k hk1 hk3 => hG.grown.block k hk3 fun e => hd' k e.symm hk1.1
  have hvT : ∀ g, v.ownBlock = some g → ¬ T' g := fun g hg ht => hd g ht (k2 g hg)
  refine ⟨⟨vs ++ [y], fun j => if j = ds.length then fun k => T' k ∧ k < w.heap.size else fun k => T j k ∧ k < w.heap.size, by rw [List.length_append]; exact g1, fun g hg => ?_, fun j hj => ?_, fun j hj g hg => ?_, fun j k hj hk hjk => ?_⟩, ChgS.of_grew hG fun g hg => ⟨k2 g hg, hg⟩⟩
  · have hlt := own_lt g1 hg
    rcases hG.moved g hg with hm | hm
    · exact .inl ⟨.inl (k2 g hm), (own_lt k1 hm).2⟩
    · exact .inr ⟨hm, hlt.2⟩
  · rw [List.length_append] at hj
    simp only [List.length_cons, List.length_nil] at hj
    by_cases hjl : j = ds.length
    · subst hjl
      simp only [if_true]
      rw [gapp_last, ← hvl, gapp_last]
      exact ⟨fun k hk => .inl ⟨.inr hk.1, hk.2⟩, keep _ _ _ hy hvT⟩
    · simp only [if_neg hjl]
      rw [gapp_left _ _ _ _ (by omega), gapp_left _ _ _ _ (by omega)]
      have := k3 j (by omega)
      exact ⟨fun k hk => .inl ⟨.inl (this.1 k hk.1), hk.2⟩, keep _ _ _ this.2 fun g hg => k4 j (by omega) g hg⟩
  · rw [List.length_append] at hj
    simp only [List.length_cons, List.length_nil] at hj
    by_cases hjl : j = ds.length
    · simp only [if_pos hjl]
      rcases hG.moved g hg with hm | hm
      · exact fun h => hvT g hm h.1
      · exact fun h => by have := h.2; omega
    · simp only [if_neg hjl]
      rcases hG.moved g hg with hm | hm
      · exact fun h => k4 j (by omega) g hm h.1
      · exact fun h => by have := h.2; omega
  · rw [List.length_append] at hj hk
    simp only [List.length_cons, List.length_nil] at hj hk
    by_cases hjn : j = ds.length
    · by_cases hkl : k = ds.length
      · omega
      · simp only [if_pos hjn, if_neg hkl]; exact fun x hx hx' => hd x hx.1 ((k3 k (by omega)).1 x hx'.1)
    · by_cases hkl : k = ds.length
      · simp only [if_neg hjn, if_pos hkl]; exact fun x hx hx' => hd x hx'.1 ((k3 j (by omega)).1 x hx.1)
      · simp only [if_neg hjn, if_neg hkl]; exact fun x hx hx' => k5 j k (by omega) (by omega) hjk x hx.1 hx'.1
end
theorem rdv_cell {w : World} {c : Nat} {y : Value} (h : w.cell? ⟨c, 0, none⟩ = some y) : RdV w (.slice (some ⟨c, 0, none⟩) 1 1) [y] :=
  ⟨_, 1, rfl, by simp, by simp, fun h => by (cases h), .inr ⟨c, 0, rfl, fun j hj => by
    obtain rfl : j = 0 := by simpa using hj
    simpa using h⟩⟩
/-- a fresh row behind fresh rows -/
theorem app_row {W wx : World} {S T : Nat → Prop} {u vx y : Value} {L : List (List Int)} {d : List Int} (ty : TypeId) (hb : Below W.heap.size W wx) (hu : O2 wx S u L) (hS : ∀ k, S k → W.heap.size ≤ k) (hy : O1 wx T y d) (hT : ∀ k, T k → W.heap.size ≤ k)
    (hd : ∀ k, T k → ¬ S k) (hone : y.oneCell' = true) (hx : RdV wx vx [y]) (hn : L.length ≤ 1000) : ∃ v' w', (Builtin.append_ #[25, 25] ty #[u, vx]).run Try.prog wx = .ok v' w' ∧ O2 w' (fun k => W.heap.size ≤ k) v' (L ++ [d]) ∧ Below W.heap.size W w' := by
  obtain ⟨i0, hi, hz0, hz1, hz2⟩ := info_parts Try.infoRow
  obtain ⟨v', w', hr, hO, hC⟩ := run_appG local_O1 (P := Try.prog) wx 25 ty i0 Try.underlying25 hi hz0 hz1 hz2 S T u L hu y d hy hone hd vx hx (by omega)
  have hsz := hb.size
  exact ⟨v', w', hr, local_O2.mono hO (fun k _ hk => by
    rcases hk with ⟨hk | hk, _⟩ | hk
    · exact hS k hk
    · exact hT k hk
    · have := hk.1; omega), hb.trans (hC.below (fun k hk => hS k hk.1) hsz)⟩
theorem O1B {w wx : World} {v : Value} {d : List Int} {n : Nat} (h : Ints (w.alloc (.cells (madeCells #[.int .i64 0] n) 2)) w.heap.size v d) (hb : Below (w.alloc (.cells (madeCells #[.int .i64 0] n) 2)).heap.size (w.alloc (.cells (madeCells #[.int .i64 0] n) 2)) wx) : O1 wx (fun k => k = w.heap.size) v d :=
  ⟨(h.below hb).mono (Nat.zero_le _), fun g hg => by have h1 := h.lt g hg; simp at h1; show g = _; omega⟩
--== end
end Go.Proofs.Ytiikoappknejgaa
namespace Go.Proofs.Ytiikoappknejgaa
set_option linter.unusedVariables false
set_option linter.unusedSimpArgs false
set_option maxRecDepth 100000
open Go Go.RowKit

section
variable {P : Program} {ops : Array Oper} {Q : Exit → Act → World → Prop} {md : Region.Mode} {S : World → Prop}
/-- whatever order is picked, and S holds as long as operation l has not come up -/
def wpAnyD (P : Program) (md : Region.Mode) (ops : Array Oper) (Q : Exit → Act → World → Prop) (S : World → Prop) (l : Nat) : Nat → Array Bool → Act → World → Prop
  | 0, listed, a, w => Region.ready md ops listed = [] ∧ Q .normal a w
  | fuel + 1, listed, a, w =>
    (Region.ready md ops listed = [] → Q .normal a w) ∧
    ∀ i ∈ Region.ready md ops listed, wpOp P ops Q i (fun a' w' => ((listed.setIfInBounds i true).getD l true = false → S w') ∧ wpAnyD P md ops Q S l fuel (listed.setIfInBounds i true) a' w') a w
theorem wpAny_of_D {l : Nat} : ∀ (fuel : Nat) (listed : Array Bool) (a : Act) (w : World), wpAnyD P md ops Q S l fuel listed a w → wpAny P md ops Q fuel listed a w
  | 0, _, _, _, h => h
  | fuel + 1, _, _, _, h => ⟨h.1, fun i hi => wpOp_mono (fun _ _ h' => wpAny_of_D fuel _ _ _ h'.2) (h.2 i hi)⟩
theorem wpAnyD_first {i l : Nat} {oi ol : Oper} {v : Value} (hi : ops[i]? = some oi) (hsel : ∀ (j : Nat) (o : Oper) cs b, ops[j]? = some o → o.op ≠ .select cs b)
    (hQ : ∀ c a w, Q (.panic c) (a.put oi.dst v) w → Q (.panic c) a w) (hli : i ≠ l) (hol : ops[l]? = some ol) (hwait : ∃ e ∈ ol.after, Region.binds md e = true ∧ e.on = i) :
    ∀ (fuel : Nat) (listed : Array Bool) (a : Act) (w : World),
      (∀ j oj, ops[j]? = some oj → j ≠ i → listed.getD j true = false → (∀ e ∈ oj.after, Region.binds md e = true → e.on ≠ i) → oi.apart ops oj = true) →
      i ∈ Region.ready md ops listed → listed.getD l true = false → YieldsIf P ops S oi v a → S w →
      wpAnyD P md ops Q S l fuel (listed.setIfInBounds i true) (a.put oi.dst v) w → wpAnyD P md ops Q S l (fuel + 1) listed a w := by
  have late : ∀ (listed : Array Bool) (j : Nat), i ∈ Region.ready md ops listed → j ∈ Region.ready md ops listed → j ≠ l := by
    intro listed j hr hj hjl
    subst hjl
    obtain ⟨_, o, ho, hall⟩ := mem_ready.1 hj
    rw [hol] at ho
    obtain rfl := Option.some.inj ho
    obtain ⟨e, he, hb, hon⟩ := hwait
    have h1 := hall e he hb
    have h0 := (mem_ready.1 hr).1
    rw [hon] at h1
    rcases Nat.lt_or_ge i listed.size with h' | h'
    · simp [h'] at h0 h1; rw [h0] at h1; cases h1
    · simp [Array.getElem?_eq_none h'] at h1
  intro fuel
  induction fuel with
  | zero =>
    intro listed a w _ hr _ hy hS H
    refine ⟨fun h => (by rw [h] at hr; cases hr), fun j hj => ?_⟩
    by_cases hji : j = i
    · subst hji; exact hy.wpOp hi hS ⟨fun _ => hS, H⟩
    · have h0 := ready_mono hj hji
      rw [H.1] at h0
      cases h0
  | succ fuel ih =>
    intro listed a w hfree hr hl hy hS H
    refine ⟨fun h => (by rw [h] at hr; cases hr), fun j hj => ?_⟩
    by_cases hji : j = i
    · subst hji; exact hy.wpOp hi hS ⟨fun _ => hS, H⟩
    · have hjl := late listed j hr hj
      have h1 := H.2 j (ready_mono hj hji)
      obtain ⟨hjun, oj, hoj, hall⟩ := mem_ready.1 hj
      have hnot : ∀ e ∈ oj.after, Region.binds md e = true → e.on ≠ i := fun e he hb heq => by
        have k1 := hall e he hb
        have k0 := (mem_ready.1 hr).1
        rw [heq] at k1
        rcases Nat.lt_or_ge i listed.size with h' | h'
        · simp [h'] at k0 k1; rw [k0] at k1; cases k1
        · simp [Array.getElem?_eq_none h'] at k1
      have h2 := wpOp_putIf hoj (hfree j oj hoj hji hjun hnot) (fun cs b => hsel i oi cs b hi) (fun cs b => hsel j oj cs b hoj) hQ hy h1
      have hfree' : ∀ k ok, ops[k]? = some ok → k ≠ i → (listed.setIfInBounds j true).getD k true = false →
          (∀ e ∈ ok.after, Region.binds md e = true → e.on ≠ i) → oi.apart ops ok = true := fun k ok hk hki hun hno => by
        refine hfree k ok hk hki ?_ hno
        by_cases hjk : j = k
        · subst hjk; exact hjun
        · rw [getD_set_ne true hjk] at hun; exact hun
      have hl2 : (listed.setIfInBounds j true).getD l true = false := by rw [getD_set_ne true hjl]; exact hl
      refine wpOp_mono (fun a' w' h3 => ?_) h2
      have hS' : S w' := h3.2.1 (by rw [getD_set_ne true hjl, getD_set_ne true hli]; exact hl)
      refine ⟨fun _ => hS', ih (listed.setIfInBounds j true) a' w' hfree' (ready_mono hr (Ne.symm hji)) hl2 h3.1 hS' ?_⟩
      rw [Array.setIfInBounds_comm _ _ hji]
      exact h3.2.2
/-- the last operation waits for number i -/
def waitsB (md : Region.Mode) (ops : Array Oper) (l i : Nat) : Bool := (ops[l]?).any fun o => o.after.any fun e => Region.binds md e && e.on == i
theorem wpAnyD_take {i l : Nat} {oi : Oper} {v : Value} {fuel : Nat} {listed : Array Bool} {a : Act} {w : World} (hi : ops[i]? = some oi)
    (hs : Region.noSelect ops = true) (hf : Region.free md ops listed i = true) (hr : (Region.ready md ops listed).contains i = true)
    (hw : waitsB md ops l i = true) (hne : (i == l) = false) (hl : listed.getD l true = false)
    (hQ : ∀ c a w, Q (.panic c) (a.put oi.dst v) w → Q (.panic c) a w) (hy : YieldsIf P ops S oi v a) (hS : S w)
    (h : wpAnyD P md ops Q S l fuel (listed.setIfInBounds i true) (a.put oi.dst v) w) : wpAnyD P md ops Q S l (fuel + 1) listed a w := by
  unfold waitsB at hw
  cases hol : ops[l]? with
  | none => rw [hol] at hw; cases hw
  | some ol =>
    rw [hol, Option.any_some, Array.any_eq_true'] at hw
    obtain ⟨e, he, hb⟩ := hw
    rw [Bool.and_eq_true, beq_iff_eq] at hb
    exact wpAnyD_first hi (Region.noSelect_spec hs) hQ (by simpa using hne) hol ⟨e, he, hb.1, hb.2⟩ fuel listed a w (Region.free_spec hi hf) (by simpa using hr) hl hy hS h
theorem wp_region_D {l id : Nat} {a : Act} {w : World} (hm : P.follows .mixedOrders = true) (h : wpAnyD P .any ops Q S l ops.size (Array.replicate ops.size false) a w.drew) : (Code.region id ops true).wp P Q a w := wp_region_any hm (wpAny_of_D _ _ _ _ h)
def AllD (P : Program) (md : Region.Mode) (ops : Array Oper) (Q : Exit → Act → World → Prop) (S : World → Prop) (l : Nat) (fuel : Nat) (listed : Array Bool) (a : Act) (w : World) (rs : List Nat) : Prop :=
  ∀ i ∈ rs, wpOp P ops Q i (fun a' w' => ((listed.setIfInBounds i true).getD l true = false → S w') ∧ wpAnyD P md ops Q S l fuel (listed.setIfInBounds i true) a' w') a w
theorem AllD.nil {l fuel : Nat} {listed : Array Bool} {a : Act} {w : World} : AllD P md ops Q S l fuel listed a w [] := fun _ h => by cases h
theorem AllD.cons {l fuel : Nat} {listed : Array Bool} {a : Act} {w : World} {i : Nat} {o : Oper} {rs : List Nat} (ho : ops[i]? = some o)
    (h : ∀ K' : Act → World → Prop, Shut (∀ a w, ((listed.setIfInBounds i true).getD l true = false → S w) → wpAnyD P md ops Q S l fuel (listed.setIfInBounds i true) a w → K' a w) → if Region.wanted o (yielded ops a.tmps) = true then Oper.wp P o a w K' Q else K' (a.put o.dst undef) w)
    (hs : AllD P md ops Q S l fuel listed a w rs) : AllD P md ops Q S l fuel listed a w (i :: rs) := fun j hj => by
  rcases List.mem_cons.1 hj with rfl | hj
  · exact wpOp_step ho (fun K' hK => h K' (fun a w hS hW => hK a w ⟨hS, hW⟩))
  · exact hs j hj
theorem wpAnyD_ready {l : Nat} {rs : List Nat} {fuel : Nat} {listed : Array Bool} {a : Act} {w : World} (hr : Region.ready md ops listed = rs) (hne : rs ≠ [])
    (h : AllD P md ops Q S l fuel listed a w rs) : wpAnyD P md ops Q S l (fuel + 1) listed a w := ⟨fun h0 => absurd (hr ▸ h0) hne, by rw [hr]; exact h⟩
theorem wpAnyD_done {l : Nat} {listed : Array Bool} {a : Act} {w : World} (hr : Region.ready md ops listed = []) (h : Q .normal a w) :
    ∀ fuel, wpAnyD P md ops Q S l fuel listed a w
  | 0 => ⟨hr, h⟩
  | _ + 1 => ⟨fun _ => h, by rw [hr]; simp⟩
theorem wpAnyD_put {i l : Nat} {d : Option Tmp} {v : Value} {fuel : Nat} {listed : Array Bool} {a : Act} {w : World} (hd : (ops[i]?).map (fun o => o.dst) = some d)
    (hs : Region.noSelect ops = true) (hf : Region.free md ops listed i = true) (hr : (Region.ready md ops listed).contains i = true)
    (hw : waitsB md ops l i = true) (hne : (i == l) = false) (hl : listed.getD l true = false)
    (hQ : ∀ c a w, Q (.panic c) (a.put d v) w → Q (.panic c) a w) (hS : S w) (hy : ∀ oi, ops[i]? = some oi → YieldsIf P ops S oi v a)
    (h : wpAnyD P md ops Q S l fuel (listed.setIfInBounds i true) (a.put d v) w) : wpAnyD P md ops Q S l (fuel + 1) listed a w := by
  cases hi : ops[i]? with
  | none => rw [hi] at hd; cases hd
  | some oi =>
    rw [hi] at hd
    obtain rfl : oi.dst = d := Option.some.inj hd
    exact wpAnyD_take hi hs hf hr hw hne hl hQ (hy oi hi) hS h
theorem AllD.step {l fuel : Nat} {listed : Array Bool} {a : Act} {w : World} {i : Nat} {rs : List Nat} (hn : (ops[i]?).isSome = true)
    (h : ∀ o, ops[i]? = some o → ∀ K' : Act → World → Prop, Shut (∀ a w, ((listed.setIfInBounds i true).getD l true = false → S w) → wpAnyD P md ops Q S l fuel (listed.setIfInBounds i true) a w → K' a w) → if Region.wanted o (yielded ops a.tmps) = true then Oper.wp P o a w K' Q else K' (a.put o.dst undef) w)
    (hs : AllD P md ops Q S l fuel listed a w rs) : AllD P md ops Q S l fuel listed a w (i :: rs) := by
  cases hi : ops[i]? with
  | none => rw [hi] at hn; cases hn
  | some o => exact AllD.cons hi (h o hi) hs
end
end Go.Proofs.Ytiikoappknejgaa
