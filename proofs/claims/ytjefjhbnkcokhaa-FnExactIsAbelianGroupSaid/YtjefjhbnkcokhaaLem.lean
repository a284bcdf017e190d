/-
  IsAbelianGroup: the reference's strip.
  The inverse of an exponent.
  A row of slices that a call owns; its entries are only read.
  A table and a work list, side by side.
-/
import Derived.Test.YtjefjhbnkcokhaaLei
import Derived.Test.YtjefjhbnkcokhaaPwr
namespace Go.Proofs.Ytjefjhbnkcokhaa
set_option linter.unusedVariables false
set_option linter.unusedSimpArgs false
set_option maxRecDepth 100000
open Go.RowKit

--== spec.l12Strip
set_option maxHeartbeats 4000000 in
theorem s_l12Strip {p : Pres} (hV : ValidP p) (hG : GT p 0) (T : List (List Int)) (x : List Int) (v1 v2 v3 vt vx : Value) (w : World) (hp : RdP w v1 v2 v3 p) (ht : Rd2 w vt T) (hx : Rd w vx x) (kx : VI p 0 x) (hTl : T.length = p.n) (hT : Tab p T) :
    Calls Try.prog 125 #[.agg #[v1, v2, v3], vt, vx] w fun e w' => ∃ u, e = .returned (.tuple #[.int .i64 ((strip p T p.n 0 x).1 : Int), u]) ∧ Ints w' w.heap.size u (strip p T p.n 0 x).2 ∧ Below w.heap.size w w' := by
  have hn6 := hV.n6
  have HP := Lib.hid hp
  obtain ⟨p1, q1, rfl, _, _⟩ := hp.1.form
  obtain ⟨p2, q2, rfl, _, _⟩ := hp.2.1.form
  obtain ⟨p3, q3, rfl, _, _⟩ := hp.2.2.form
  have hlx := kx.len
  obtain ⟨at', ct, rfl, _, _⟩ := ht.formN hTl
  have HT := Lib.hid ht
  have HX := Lib.hid hx
  have G0 := Lib.hid (below_alloc w (Obj.cells #[Value.slice p1 p.orders.length q1, Value.slice p2 p.powers.length q2, Value.slice p3 p.conj.length q3] 28))
  have X0 := Lib.hid (Bx.new w (Value.slice p1 p.orders.length q1) (Value.slice p2 p.powers.length q2) (Value.slice p3 p.conj.length q3))
  clear hp ht hx
  go_enter Try.func125, Try.ntmps125
  go_wp2_with fail
  refine (s_l01Own _ x _ (HX.out.below G0.out) (by omega)).mono ?_
  rintro e w1 ⟨u1, rfl, hI, hB⟩
  have R1 := hI.rd
  have g1 := below_size G0.out hB
  have x1 := X0.out.below hB X0.out.lt
  obtain ⟨a1, c1, rfl, _, _⟩ := R1.formN hlx
  have HR1 := Lib.hid (hI.mono G0.out.size)
  have HKX := Lib.hid kx
  clear hI hB R1
  go_wp2_with fail
  go_loopw [8, 9] (fun u t wr => ∃ (d : Nat) (y : List Int), d ≤ p.n ∧ t = .int .i64 d ∧ strip p T (p.n - d) d y = strip p T p.n 0 x ∧ VI p d y ∧ Ints wr w.heap.size u y ∧ Bx wr w.heap.size (Value.slice p1 p.orders.length q1) (Value.slice p2 p.powers.length q2) (Value.slice p3 p.conj.length q3) ∧ Below w.heap.size w wr) (fun _ t _ => p.n - (intOf t).toNat)
  case atStart => exact ⟨0, x, Nat.zero_le _, rfl, rfl, HKX.out, HR1.out, x1, g1⟩
  case round =>
    clear x1 g1 HR1
    obtain ⟨d, y, hd, rfl, hst, ky, hII, hX, hB⟩ := hrel
    have hR := hII.rd
    have hly := ky.len
    obtain ⟨a5, c5, rfl, _, _⟩ := hR.formN hly
    by_cases hlt : d < p.n
    · obtain ⟨k, hk⟩ : ∃ k, p.n - d = k + 1 := ⟨p.n - d - 1, by omega⟩
      have hk' : k = p.n - (d + 1) := by omega
      rw [hk] at hst
      obtain ⟨bt, ot, r, rfl, hc, hRr⟩ := HT.out.at (j := d) (by omega)
      obtain ⟨b5, o5, rfl, hc5⟩ := hR.at (j := d) (by omega)
      have e1 := below_cells hB _ _ hc
      have RT := Lib.hid (hRr.below hB)
      have HR := Lib.hid hR
      have HII := Lib.hid hII
      have HXX := Lib.hid hX
      have HB := Lib.hid hB
      have HKY := Lib.hid ky
      have y0 := ky.lo d hlt
      have y1 := ky.hi d hlt
      have r7 := (hV.rk d hlt).2
      have HST := Lib.hid hst
      obtain ⟨yd, hyd⟩ : ∃ yd, y.getD d 0 = yd := ⟨_, rfl⟩
      have HYD := Lib.hid hyd
      rw [hyd] at hc5 y0 y1
      have hdn : (d : Int) < (p.n : Int) := by omega
      clear hst hR hII hX hB ky hc hRr hyd
      by_cases h0 : yd = 0
      · subst h0
        have HST2 : Hid (strip p T (p.n - (d + 1)) (d + 1) y = strip p T p.n 0 x) := by
          show _ = _
          rw [← hk', ← HST.out, strip, if_pos HYD.out]
        go_wp2_with fail
        go_roundw
        case rel => exact ⟨d + 1, y, by omega, by go_num, HST2.out, HKY.out.next HYD.out, HII.out, HXX.out, HB.out⟩
        case measure => simp [intOf]; omega
      · have h0' : (yd == 0) = false := by simpa using h0
        obtain ⟨a6, c6, rfl, _, _⟩ := RT.out.form
        by_cases ht : T.getD d [] = []
        · have HST2 : Hid (strip p T p.n 0 x = (d, y)) := by
            show _ = _
            rw [← HST.out, strip, if_neg (by rw [HYD.out]; exact h0), if_pos ht]
          rw [ht] at e1
          go_wp2_with fail
          refine bodyPost_ret (results_tmp2 rfl _ _ _) rfl ⟨.slice (some ⟨b5, o5, none⟩) p.n c5, by rw [HST2.out]; rfl, by rw [HST2.out]; exact HII.out, HB.out⟩
        · obtain ⟨t1, t2⟩ := hT d hlt ht
          have HT1 := Lib.hid t1
          have hlr := t1.len
          rw [hlr] at e1
          have hn0 : ((p.n : Int) == 0) = false := by simp; omega
          obtain ⟨z1, z2⟩ := zpw_lead hG (by omega) t1 (-yd)
          have hz0 := z1.mono (Nat.zero_le d)
          have hy0 := HKY.out.mono (Nat.zero_le d)
          have hv := VI.at hG.vd 0 (by omega) _ _ hy0 hz0
          have HNX : Hid (VI p (d + 1) (p.at 0 y (zpw p (T.getD d []) (-yd)))) := by
            obtain ⟨a1, a2⟩ := at0_right hG.vd (by omega) hy0 z1
            exact ⟨hv.len, hv.lo, hv.hi, fun j hj => by
              by_cases e : j = d
              · subst e
                rw [a2 hlt, z2 hlt, t2, HYD.out, Int.mul_one, Int.add_emod_emod, Int.add_right_neg, Int.zero_emod]
              · rw [a1 j (by omega), HKY.out.zero j (by omega)]⟩
          have HST2 : Hid (strip p T (p.n - (d + 1)) (d + 1) (p.at 0 y (zpw p (T.getD d []) (-yd))) = strip p T p.n 0 x) := by
            show _ = _
            rw [← hk', ← HST.out]
            conv => rhs; rw [strip, if_neg (by rw [HYD.out]; exact h0), if_neg ht, HYD.out]
          have HPW : Hid (∀ wx, Below wr.heap.size wr wx → Calls Try.prog 126 #[.agg #[Value.slice p1 p.orders.length q1, Value.slice p2 p.powers.length q2, Value.slice p3 p.conj.length q3], .slice a6 p.n c6, .int .i64 (-yd)] wx (RetInts wx (zpw p (T.getD d []) (-yd)))) := fun wx hb => by
            have hr := RT.out.below hb
            rw [hlr] at hr
            exact s_l10Pow hV hG (T.getD d []) (-yd) _ _ _ _ wx (HP.out.below (below_size HB.out hb)) hr (t1.mono (Nat.zero_le _)) (by omega)
          have HML : Hid (∀ wx u, Below wr.heap.size wr wx → Rd wx u (zpw p (T.getD d []) (-yd)) → Calls Try.prog 122 #[.agg #[Value.slice p1 p.orders.length q1, Value.slice p2 p.powers.length q2, Value.slice p3 p.conj.length q3], .slice (some ⟨b5, o5, none⟩) p.n c5, u] wx (RetInts wx (p.at 0 y (zpw p (T.getD d []) (-yd))))) := fun wx u hb hu =>
            s_l08Mul hV y _ _ _ _ _ _ wx (HP.out.below (below_size HB.out hb)) (HR.out.below hb) hu hy0 hz0
          have m0 := HXX.out.c0
          have m1 := HXX.out.c1
          have m2 := HXX.out.c2
          have KEEP : Hid (∀ wx, Below wr.heap.size wr wx → Below wr.heap.size wr wx ∧ wx.cell? ⟨w.heap.size, 0, none⟩ = some (Value.slice p1 p.orders.length q1) ∧ wx.cell? ⟨w.heap.size, 1, none⟩ = some (Value.slice p2 p.powers.length q2) ∧ wx.cell? ⟨w.heap.size, 2, none⟩ = some (Value.slice p3 p.conj.length q3) ∧ wx.cell? ⟨bt, ot + d, none⟩ = some (.slice a6 p.n c6) ∧ wx.cell? ⟨b5, o5 + d, none⟩ = some (.int .i64 yd)) := fun wx hb =>
            ⟨hb, below_cells hb _ _ m0, below_cells hb _ _ m1, below_cells hb _ _ m2, below_cells hb _ _ e1, below_cells hb _ _ hc5⟩
          have W1 : IntKind.i64.wrap (-yd) = -yd := IntWalk.i64_in _ (by omega)
          generalize p.at 0 y (zpw p (T.getD d []) (-yd)) = Y at *
          generalize zpw p (T.getD d []) (-yd) = Z at *
          clear t1 t2 z1 z2 hz0 hy0 hv hlr hk hk'
          go_wp2_with fail
          go_region_held3 (fun wx => Below wr.heap.size wr wx ∧ wx.cell? ⟨w.heap.size, 0, none⟩ = some (Value.slice p1 p.orders.length q1) ∧ wx.cell? ⟨w.heap.size, 1, none⟩ = some (Value.slice p2 p.powers.length q2) ∧ wx.cell? ⟨w.heap.size, 2, none⟩ = some (Value.slice p3 p.conj.length q3) ∧ wx.cell? ⟨bt, ot + d, none⟩ = some (.slice a6 p.n c6) ∧ wx.cell? ⟨b5, o5 + d, none⟩ = some (.int .i64 yd))
            (first | exact KEEP.out _ (Below.refl _ _).drew | exact KEEP.out _ (below_size (And.left (by assumption)) (by assumption)))
            (first
              | ((go_at_call 126); (with_reducible refine (HPW.out _ (And.left (by assumption))).mono ?_); (rintro e w5 ⟨u5, rfl, hI5, hB5⟩))
              | ((go_at_call 122); (with_reducible refine (HML.out _ _ (And.left (by assumption)) hI5.rd).mono ?_); (rintro e w6 ⟨u6, rfl, hI6, hB6⟩)))
          have hB7 : Below wr.heap.size wr w6 := And.left (by assumption)
          have hX7 := HXX.out.below hB7 HXX.out.lt
          have hB8 := below_size HB.out hB7
          have hR6 := hI6.mono (B' := w.heap.size) (Nat.le_trans HB.out.size (show wr.heap.size ≤ w5.heap.size from hB5.size))
          clear hI5 hB5 hB6 hI6 KEEP HPW HML W1 hB7 m0 m1 m2
          go_wp2_with fail
          go_roundw
          case rel => exact ⟨d + 1, Y, by omega, by go_num, HST2.out, HNX.out, hR6, hX7, hB8⟩
          case measure => simp [intOf]; omega
    · obtain rfl : d = p.n := by omega
      have HST2 : Hid (strip p T p.n 0 x = (p.n, y)) := by
        show _ = _
        rw [← hst, Nat.sub_self]; rfl
      go_wp2_with fail
      refine bodyPost_ret (results_tmp2 rfl _ _ _) rfl ⟨.slice a5 p.n c5, by rw [HST2.out]; rfl, by rw [HST2.out]; exact hII, hB⟩

--== plain (Lek)
theorem inv_ex : ∀ r ∈ [2, 3, 5, 7], ∀ a < r, 0 < a → ∃ c < r, 1 ≤ c ∧ (a * c) % r = 1 := by decide
--== spec.l01Mod
theorem s_l01Mod_small (a m : Int) (w : World) (h0 : 0 ≤ a) (h1 : a < m) (hm : m ≤ 1000) :
    Calls Try.prog 143 #[.int .i64 a, .int .i64 m] w fun e w' => e = .returned (.int .i64 a) ∧ w = w' := by
  have e1 : a.tmod m = a := Int.tmod_eq_of_lt h0 h1
  have hm0 : ¬ m = 0 := by omega
  go_enter Try.func143, Try.ntmps143
  go_wp2_with fail
  go_ret
  exact ⟨rfl, rfl⟩
--== spec.l01Inv
set_option maxHeartbeats 2000000 in
theorem s_l01Inv (a r : Int) (w : World) (hr : r = 2 ∨ r = 3 ∨ r = 5 ∨ r = 7) (h0 : 0 < a) (h1 : a < r) :
    Calls Try.prog 127 #[.int .i64 a, .int .i64 r] w fun e w' => (∃ c : Int, e = .returned (.int .i64 c) ∧ 1 ≤ c ∧ c ≤ 7 ∧ (c * a) % r = 1) ∧ w = w' := by
  have hr7 : r ≤ 7 := by omega
  have hrz : ¬ r = 0 := by omega
  have hex : Hid (∃ c : Int, 1 ≤ c ∧ c < r ∧ (a * c) % r = 1) := by
    show ∃ _, _
    obtain ⟨c, hc, hc1, hce⟩ := inv_ex r.toNat (by rcases hr with h | h | h | h <;> subst h <;> decide) a.toNat (by omega) (by omega)
    refine ⟨c, by omega, by omega, ?_⟩
    have := congrArg (fun n : Nat => (n : Int)) hce
    simp only [Int.natCast_emod, Int.natCast_mul, Int.toNat_of_nonneg (show 0 ≤ a by omega), Int.toNat_of_nonneg (show 0 ≤ r by omega)] at this
    exact this
  have H0 := Lib.hid h0
  have H1 := Lib.hid h1
  go_enter Try.func127, Try.ntmps127
  go_wp2_with fail
  go_loop [5] (fun t => ∃ x : Nat, 1 ≤ x ∧ (x : Int) ≤ r ∧ t = .int .i64 x ∧ ∀ y : Int, 1 ≤ y → y < (x : Int) → ¬ (a * y) % r = 1) (fun t => r.toNat - (intOf t).toNat)
  case atStart => exact ⟨1, Nat.le_refl _, by omega, rfl, fun y h2 h3 => by omega⟩
  case round =>
    obtain ⟨x, hx1, hxr, rfl, hall⟩ := hrel
    have HA := Lib.hid hall
    clear hall
    by_cases hlt : (x : Int) < r
    · have b0 : 0 ≤ a * (x : Int) := Int.mul_nonneg (by omega) (by omega)
      have b1 : a * (x : Int) ≤ 7 * 7 := Int.mul_le_mul (by omega) (by omega) (by omega) (by omega)
      obtain ⟨q, hq⟩ : ∃ q, a * (x : Int) = q := ⟨_, rfl⟩
      have HQ := Lib.hid hq
      have e1 : q.tmod r = q % r := Int.tmod_eq_emod_of_nonneg (by omega)
      rw [hq] at b0 b1
      have c0 := Int.emod_nonneg q hrz
      have c1 := Int.emod_lt_of_pos q (show 0 < r by omega)
      obtain ⟨s, hs⟩ : ∃ s, q % r = s := ⟨_, rfl⟩
      have HS := Lib.hid hs
      rw [hs] at e1 c0 c1
      clear hs
      by_cases h : s = 1
      · subst h
        go_wp2_with fail
        refine (s_l01Mod_small a r _ (by have := H0.out; omega) H1.out (by omega)).mono ?_
        rintro e w' ⟨rfl, rfl⟩
        go_wp2_with fail
        go_ret
        exact ⟨⟨(x : Int), rfl, by omega, by omega, by rw [Int.mul_comm, HQ.out, HS.out]⟩, rfl⟩
      · have h' : (s == 1) = false := by simpa using h
        have HN := Lib.hid h
        clear h
        go_wp2_with fail
        refine (s_l01Mod_small a r _ (by have := H0.out; omega) H1.out (by omega)).mono ?_
        rintro e w' ⟨rfl, rfl⟩
        go_wp2_with fail
        go_round
        case rel => exact ⟨x + 1, by omega, by omega, by go_num, fun y h2 h3 => by
          by_cases hy : y = (x : Int)
          · subst hy; rw [HQ.out, HS.out]; exact HN.out
          · exact HA.out y h2 (by omega)⟩
        case measure => simp [intOf]; omega
    · exfalso
      obtain ⟨c, hc1, hc2, hc3⟩ := hex.out
      exact HA.out c hc1 (by omega) hc3

--== plain (Lel)
/-- a store over a cell that holds a slice leaves every reading of integers -/
theorem Rd.store {w : World} {v : Value} {xs : List Int} (h : Rd w v xs) {q : Addr} {a : Option Addr} {l c : Nat} (hc : w.cell? q = some (.slice a l c)) (y : Value) : Rd (w.setCell q y) v xs := by
  obtain ⟨ao, cap, e, h1, h2, h0, h3⟩ := h
  refine ⟨ao, cap, e, h1, h2, h0, h3.imp id ?_⟩
  rintro ⟨b, off, e2, hcell⟩
  refine ⟨b, off, e2, fun j hj => ?_⟩
  have h4 := hcell j hj
  have hne : q ≠ ⟨b, off + j, none⟩ := fun hq => by rw [hq, h4] at hc; cases hc
  rw [World.cell?_setCell_other (h := hne)]
  exact h4
/-- the call owns the row at block g; entry d reads as T's entry d -/
def RowV (w : World) (g n : Nat) (T : List (List Int)) : Prop :=
  T.length = n ∧ ∃ vs : List Value, vs.length = n ∧ w.ownsRow 0 22 1 (.slice (some ⟨g, 0, none⟩) n n) n vs ∧ ∀ d, d < n → Rd w (vs.getD d undef) (T.getD d [])
theorem RowV.at {w : World} {g n : Nat} {T : List (List Int)} (h : RowV w g n T) {d : Nat} (hd : d < n) :
    ∃ a c, w.cell? ⟨g, d, none⟩ = some (.slice a (T.getD d []).length c) ∧ Rd w (.slice a (T.getD d []).length c) (T.getD d []) ∧ w.frozen? ⟨g, d, none⟩ = false := by
  obtain ⟨hl, vs, hv, ho, hr⟩ := h
  have h1 := hr d hd
  obtain ⟨a, c, e, _, _⟩ := h1.form
  refine ⟨a, c, ?_, e ▸ h1, ho.frozenAt d⟩
  have h2 := ho.cellAt d (by omega)
  rw [h2, ← e, List.getD, List.getElem?_eq_getElem (by omega)]; rfl
theorem RowV.put {w : World} {g n : Nat} {T : List (List Int)} (h : RowV w g n T) {d : Nat} (hd : d < n) {y : Value} {x : List Int} (hy : Rd w y x) :
    RowV (w.setCell ⟨g, d, none⟩ y) g n (T.set d x) := by
  obtain ⟨a, c, hc, _, _⟩ := h.at hd
  obtain ⟨hl, vs, hv, ho, hr⟩ := h
  obtain ⟨s1, s2⟩ := ho.stored d y
  refine ⟨by rw [List.length_set]; exact hl, vs.set d y, by rw [List.length_set]; exact hv, s1, fun j hj => ?_⟩
  by_cases hdj : d = j
  · subst hdj
    rw [gset_self _ _ _ _ (by omega), gset_self _ _ _ _ (by omega)]
    exact hy.store hc y
  · rw [gset_ne _ _ _ _ _ hdj, gset_ne _ _ _ _ _ hdj]
    exact (hr j hj).store hc y
theorem RowV.keep {w w' : World} {g n : Nat} {T : List (List Int)} (h : RowV w g n T) (hb : Below w.heap.size w w') : RowV w' g n T := by
  obtain ⟨hl, vs, hv, ho, hr⟩ := h
  exact ⟨hl, vs, hv, own_of_block ho fun g' hg => hb.block g' (own_lt ho hg).2, fun d hd => (hr d hd).below hb⟩
theorem RowV.ofO2 {w : World} {S : Nat → Prop} {g n : Nat} {ds : List (List Int)} (h : O2 w S (.slice (some ⟨g, 0, none⟩) n n) ds) (hn : ds.length = n) : RowV w g n ds := by
  subst hn
  obtain ⟨vs, T, h1, h2, h3, _⟩ := h
  exact ⟨rfl, vs, by have := h1.1; omega, h1, fun d hd => (h3 d hd).2.rd⟩
theorem RowV.rd2 {w : World} {g n : Nat} {T : List (List Int)} (h : RowV w g n T) : Rd2 w (.slice (some ⟨g, 0, none⟩) n n) T := by
  obtain ⟨hl, vs, hv, ho, hr⟩ := h
  subst hl
  exact ⟨vs, rdV_of_own ho, by omega, fun i hi => hr i hi⟩
section
variable {α : Type} {e : TypeId} {O : World → (Nat → Prop) → Value → List α → Prop}
/-- a list without its last row is owned, too: its elements, its last element -/
theorem ON.pop {w : World} {S : Nat → Prop} {a : Option Addr} {n c : Nat} {ds : List (List α)} {d : List α} (h : ON e O w S (.slice a (n + 1) c) (ds ++ [d])) (hn : ds.length = n) :
    ON e O w S (.slice a n c) ds ∧ ∃ g r, a = some ⟨g, 0, none⟩ ∧ w.cell? ⟨g, n, none⟩ = some r ∧ ∃ T, O w T r d := by
  subst hn
  obtain ⟨vs, T, h1, h2, h3, h4, h5⟩ := h
  have hvl : vs.length = ds.length + 1 := by have := h1.1; simpa using this
  have hlast := h3 ds.length (by simp)
  have hown : w.ownsRow 0 e 1 (.slice a ds.length c) ds.length (vs.take ds.length) ∧ ∃ g, a = some ⟨g, 0, none⟩ := by
    have h1' := h1
    rcases h1'.2 with ⟨hv, h0⟩ | ⟨g, cap, cur, hv, hb, hg, hnc, hcm, hcs, htake⟩
    · simp at h0
    · simp only [List.length_append, List.length_cons, List.length_nil, Value.slice.injEq] at hv
      obtain ⟨rfl, _, rfl⟩ := hv
      refine ⟨⟨by rw [List.length_take]; omega, .inr ⟨g, c, cur, rfl, hb, hg, by simp at hnc; omega, hcm, hcs, ?_⟩⟩, g, rfl⟩
      rw [← htake]
      simp [List.take_take]
  obtain ⟨hown, g, rfl⟩ := hown
  refine ⟨⟨vs.take ds.length, T, hown, h2, fun i hi => ?_, fun i hi => h4 i (by simp; omega), fun i j hi hj => h5 i j (by simp; omega) (by simp; omega)⟩, g, vs.getD ds.length undef, rfl, ?_, T ds.length, ?_⟩
  · have h6 := h3 i (by simp; omega)
    have e1 : (vs.take ds.length).getD i undef = vs.getD i undef := by simp [List.getD, List.getElem?_take, hi]
    have e2 : (ds ++ [d]).getD i [] = ds.getD i [] := by simp [List.getD, List.getElem?_append_left hi]
    rw [e2] at h6; rw [e1]; exact h6
  · have h1b : w.ownsRow 0 e 1 (.slice (some ⟨g, 0, none⟩) (ds.length + 1) c) (ds.length + 1) vs := by rwa [show (ds ++ [d]).length = ds.length + 1 by simp] at h1
    have h7 := h1b.cellAt ds.length (by omega)
    rw [h7, List.getD, List.getElem?_eq_getElem (by omega)]; rfl
  · have e2 : (ds ++ [d]).getD ds.length [] = d := by simp [List.getD]
    rw [e2] at hlast; exact hlast.2
end

--== plain (Lem)
/-- a table of rows and a work list of rows, both owned from w0 on, apart -/
def TW (w0 : World) (vt vw : Value) (T W : List (List Int)) (w : World) : Prop :=
  ∃ S1 S2 : Nat → Prop, O2 w S1 vt T ∧ O2 w S2 vw W ∧ (∀ k, S1 k → ¬ S2 k) ∧ (∀ k, S1 k → w0.heap.size ≤ k ∧ k < w.heap.size) ∧ (∀ k, S2 k → w0.heap.size ≤ k ∧ k < w.heap.size) ∧ Below w0.heap.size w0 w
theorem TW.keep {w0 w w' : World} {vt vw : Value} {T W : List (List Int)} (h : TW w0 vt vw T W w) (hb : Below w.heap.size w w') : TW w0 vt vw T W w' := by
  obtain ⟨S1, S2, h1, h2, d, s1, s2, hB⟩ := h
  have z := hb.size
  exact ⟨S1, S2, local_O2.below h1 hb, local_O2.below h2 hb, d, fun k hk => ⟨(s1 k hk).1, by have := (s1 k hk).2; omega⟩, fun k hk => ⟨(s2 k hk).1, by have := (s2 k hk).2; omega⟩, below_size hB hb⟩
theorem TW.pop {w0 w : World} {vt : Value} {a : Option Addr} {n c : Nat} {T W : List (List Int)} {x : List Int} (h : TW w0 vt (.slice a (n + 1) c) T (W ++ [x]) w) (hn : W.length = n) :
    TW w0 vt (.slice a n c) T W w ∧ ∃ g r, a = some ⟨g, 0, none⟩ ∧ w.cell? ⟨g, n, none⟩ = some r ∧ Rd w r x := by
  obtain ⟨S1, S2, h1, h2, d, s1, s2, hB⟩ := h
  obtain ⟨h3, g, r, e, hc, Tx, hx⟩ := ON.pop h2 hn
  exact ⟨⟨S1, S2, h1, h3, d, s1, s2, hB⟩, g, r, e, hc, hx.rd⟩
--== rows
theorem TW.push {w0 w w5 : World} {vt vw u5 : Value} {T W : List (List Int)} {xs : List Int} (h : TW w0 vt vw T W w) (hB5 : Below w.heap.size w w5) (hI5 : Ints w5 w.heap.size u5 xs) (hone : u5.oneCell' = true) (hn : W.length ≤ 1000000000) :
    ∃ v6 w6, (Builtin.append_ #[23, 23] 23 #[vw, .slice (some ⟨w5.heap.size, 0, none⟩) 1 1]).run Try.prog (w5.alloc (.cells #[u5] 22)) = .ok v6 w6 ∧ TW w0 vt v6 T (W ++ [xs]) w6 ∧ w5.heap.size ≤ w6.heap.size := by
  obtain ⟨i0, hi, hz0, hz1, hz2⟩ := info_parts Try.infoRow
  obtain ⟨S1, S2, h1, h2, d, s1, s2, hB⟩ := h
  have z5 := hB5.size
  have hy5 := local_O1.mono (S' := fun k => w.heap.size ≤ k) hI5.o1 (fun k _ h => h.1)
  obtain ⟨v6, w6, hr6, hO6, hC6⟩ := run_appO local_O1 w5 23 23 i0 Try.underlying23 hi hz0 hz1 hz2 _ _ _ _ (local_O2.below h2 hB5) _ _ hy5 hone (fun k hk h => by have := (s2 k h).2; have hk' : w.heap.size ≤ k := hk; omega) hn
  have z6 := hC6.size
  have z0 := hB.size
  refine ⟨v6, w6, hr6, ⟨S1, _, local_O2.chg (local_O2.below h1 hB5) hC6 (fun k hk hh => d k hk hh.1), hO6, ?_, ?_, ?_, ?_⟩, z6⟩
  · rintro k hk (⟨h | h, _⟩ | h)
    · exact d k hk h
    · have := (s1 k hk).2; have h' : w.heap.size ≤ k := h; omega
    · have := (s1 k hk).2; have := h.1; omega
  · exact fun k hk => ⟨(s1 k hk).1, by have := (s1 k hk).2; omega⟩
  · rintro k (⟨h | h, hl⟩ | h)
    · exact ⟨(s2 k h).1, by omega⟩
    · have h' : w.heap.size ≤ k := h; exact ⟨by omega, by omega⟩
    · exact ⟨by have := h.1; omega, h.2⟩
  · exact (below_size hB hB5).trans (hC6.below (fun k hk => (s2 k hk.1).1) (by omega))
theorem TW.set {w0 w w5 : World} {vw u5 : Value} {g n c : Nat} {T W : List (List Int)} {xs : List Int} (h : TW w0 (.slice (some ⟨g, 0, none⟩) n c) vw T W w) (hn : n = T.length) {i : Nat} (hi : i < T.length) (hB5 : Below w.heap.size w w5) (hI5 : Ints w5 w.heap.size u5 xs) :
    TW w0 (.slice (some ⟨g, 0, none⟩) n c) vw (T.set i xs) W (w5.setCell ⟨g, i, none⟩ u5) := by
  obtain ⟨S1, S2, h1, h2, d, s1, s2, hB⟩ := h
  have z5 := hB5.size
  have hg : S1 g := by obtain ⟨_, _, _, h3, _⟩ := h1; exact h3 g rfl
  have hy5 := local_O1.mono (S' := fun k => w.heap.size ≤ k ∧ k < w5.heap.size) hI5.o1 (fun k hk h => ⟨h.1, hk⟩)
  obtain ⟨hO, hC⟩ := ON.set local_O1 hn (local_O2.below h1 hB5) hi hy5 (fun k hk hh => by have := (s1 k hh).2; have := hk.1; omega)
  have e : (w5.setCell ⟨g, i, none⟩ u5).heap.size = w5.heap.size := by simp
  refine ⟨_, S2, hO, local_O2.chg (local_O2.below h2 hB5) (ChgS.setCell w5 g i u5) (fun k hk hh => d g hg (hh ▸ hk)), ?_, ?_, ?_, ?_⟩
  · rintro k (h | h) hh
    · exact d k h hh
    · have := (s2 k hh).2; have := h.1; omega
  · rintro k (h | h)
    · exact ⟨(s1 k h).1, by have := (s1 k h).2; omega⟩
    · exact ⟨by have := h.1; have := hB.size; omega, by have := h.2; omega⟩
  · exact fun k hk => ⟨(s2 k hk).1, by have := (s2 k hk).2; omega⟩
  · exact (below_size hB hB5).setCell (p := ⟨g, i, none⟩) (s1 g hg).1 _
/-- beside them a fresh row that waits to be pushed -/
def TWR (w0 : World) (vt vw ur : Value) (T W : List (List Int)) (xs : List Int) (w : World) : Prop :=
  ∃ S1 S2 S3 : Nat → Prop, O2 w S1 vt T ∧ O2 w S2 vw W ∧ O1 w S3 ur xs ∧ (∀ k, S1 k → ¬ S2 k) ∧ (∀ k, S1 k → ¬ S3 k) ∧ (∀ k, S2 k → ¬ S3 k) ∧ (∀ k, S1 k → w0.heap.size ≤ k ∧ k < w.heap.size) ∧ (∀ k, S2 k → w0.heap.size ≤ k ∧ k < w.heap.size) ∧ (∀ k, S3 k → w0.heap.size ≤ k ∧ k < w.heap.size) ∧ Below w0.heap.size w0 w
theorem TW.setR {w0 w w1 w5 : World} {vw ur u5 : Value} {g n c : Nat} {T W : List (List Int)} {xs ys : List Int} (h : TW w0 (.slice (some ⟨g, 0, none⟩) n c) vw T W w) (hn : n = T.length) {i : Nat} (hi : i < T.length)
    (hB1 : Below w.heap.size w w1) (hr : Ints w1 w.heap.size ur xs) (hB5 : Below w1.heap.size w1 w5) (hI5 : Ints w5 w1.heap.size u5 ys) :
    TWR w0 (.slice (some ⟨g, 0, none⟩) n c) vw ur (T.set i ys) W xs (w5.setCell ⟨g, i, none⟩ u5) := by
  obtain ⟨S1, S2, h1, h2, d, s1, s2, hB⟩ := h
  have z1 := hB1.size
  have z5 := hB5.size
  have z0 := hB.size
  have hg : S1 g := by obtain ⟨_, _, _, h3, _⟩ := h1; exact h3 g rfl
  have hy5 := local_O1.mono (S' := fun k => w1.heap.size ≤ k ∧ k < w5.heap.size) hI5.o1 (fun k hk h => ⟨h.1, hk⟩)
  have hr5 : O1 w5 (win w.heap.size w1.heap.size) ur xs := local_O1.below hr.o1 hB5
  obtain ⟨hO, hC⟩ := ON.set local_O1 hn (local_O2.below (local_O2.below h1 hB1) hB5) hi hy5 (fun k hk hh => by have := (s1 k hh).2; have := hk.1; omega)
  have e : (w5.setCell ⟨g, i, none⟩ u5).heap.size = w5.heap.size := by simp
  have hS := ChgS.setCell w5 g i u5
  have lg := (s1 g hg).2
  refine ⟨_, S2, win w.heap.size w1.heap.size, hO, local_O2.chg (local_O2.below (local_O2.below h2 hB1) hB5) hS (fun k hk hh => d g hg (hh ▸ hk)), local_O1.chg hr5 hS (fun k hk hh => by have := hk.1; omega), ?_, ?_, ?_, ?_, ?_, ?_, ?_⟩
  · rintro k (h | h) hh
    · exact d k h hh
    · have := (s2 k hh).2; have := h.1; omega
  · rintro k (h | h) hh
    · have := (s1 k h).2; have := hh.1; omega
    · have := hh.2; have := h.1; omega
  · intro k hk hh; have := (s2 k hk).2; have := hh.1; omega
  · rintro k (h | h)
    · exact ⟨(s1 k h).1, by have := (s1 k h).2; omega⟩
    · exact ⟨by have := h.1; omega, by have := h.2; omega⟩
  · exact fun k hk => ⟨(s2 k hk).1, by have := (s2 k hk).2; omega⟩
  · exact fun k hk => ⟨by have := hk.1; omega, by have := hk.2; omega⟩
  · exact (below_size (below_size hB hB1) hB5).setCell (p := ⟨g, i, none⟩) (s1 g hg).1 _
theorem TWR.push {w0 w : World} {vt vw ur : Value} {T W : List (List Int)} {xs : List Int} (h : TWR w0 vt vw ur T W xs w) (hone : ur.oneCell' = true) (hn : W.length ≤ 1000000000) :
    ∃ v6 w6, (Builtin.append_ #[23, 23] 23 #[vw, .slice (some ⟨w.heap.size, 0, none⟩) 1 1]).run Try.prog (w.alloc (.cells #[ur] 22)) = .ok v6 w6 ∧ TW w0 vt v6 T (W ++ [xs]) w6 ∧ w.heap.size ≤ w6.heap.size := by
  obtain ⟨i0, hi, hz0, hz1, hz2⟩ := info_parts Try.infoRow
  obtain ⟨S1, S2, S3, h1, h2, h3, d12, d13, d23, s1, s2, s3, hB⟩ := h
  obtain ⟨v6, w6, hr6, hO6, hC6⟩ := run_appO local_O1 w 23 23 i0 Try.underlying23 hi hz0 hz1 hz2 _ _ _ _ h2 _ _ h3 hone (fun k hk hh => d23 k hh hk) hn
  have z6 := hC6.size
  have z0 := hB.size
  refine ⟨v6, w6, hr6, ⟨S1, _, local_O2.chg h1 hC6 (fun k hk hh => d12 k hk hh.1), hO6, ?_, ?_, ?_, ?_⟩, z6⟩
  · rintro k hk (⟨h | h, _⟩ | h)
    · exact d12 k hk h
    · exact d13 k hk h
    · have := (s1 k hk).2; have := h.1; omega
  · exact fun k hk => ⟨(s1 k hk).1, by have := (s1 k hk).2; omega⟩
  · rintro k (⟨h | h, hl⟩ | h)
    · exact ⟨(s2 k h).1, by omega⟩
    · exact ⟨(s3 k h).1, by omega⟩
    · exact ⟨by have := h.1; omega, h.2⟩
  · exact hB.trans (hC6.below (fun k hk => (s2 k hk.1).1) z0)
--== end
end Go.Proofs.Ytjefjhbnkcokhaa
