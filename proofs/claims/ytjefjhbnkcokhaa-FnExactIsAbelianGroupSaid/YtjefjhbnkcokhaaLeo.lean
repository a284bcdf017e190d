/-
  IsAbelianGroup: the reference's closure of a list of elements.
-/
import Derived.Test.YtjefjhbnkcokhaaLen
import Derived.Test.YtjefjhbnkcokhaaCnj
namespace Go.Proofs.Ytjefjhbnkcokhaa
set_option linter.unusedVariables false
set_option linter.unusedSimpArgs false
set_option maxRecDepth 100000
open Go.RowKit

--== rows
theorem ChgS.cell {S : Nat → Prop} {w w' : World} (h : ChgS S w w') {q : Addr} {y : Value} (hq : w.cell? q = some y) (hn : ¬ S q.block) : w'.cell? q = some y := by
  have hlt : q.block < w.heap.size := by
    by_cases hlt : q.block < w.heap.size
    · exact hlt
    · simp [World.cell?, Array.getElem?_eq_none (Nat.not_lt.1 hlt)] at hq
  have e := h.block q.block hlt hn
  simpa [World.cell?, e] using hq
theorem TW.push2 {w0 w w5 : World} {vw u5 : Value} {g n c : Nat} {T W : List (List Int)} {xs : List Int} (h : TW w0 (.slice (some ⟨g, 0, none⟩) n c) vw T W w) (hB5 : Below w.heap.size w w5) (hI5 : Ints w5 w.heap.size u5 xs) (hone : u5.oneCell' = true) (hn : W.length ≤ 1000000000) :
    ∃ v6 w6, (Builtin.append_ #[23, 23] 23 #[vw, .slice (some ⟨w5.heap.size, 0, none⟩) 1 1]).run Try.prog (w5.alloc (.cells #[u5] 22)) = .ok v6 w6 ∧ TW w0 (.slice (some ⟨g, 0, none⟩) n c) v6 T (W ++ [xs]) w6 ∧ w5.heap.size ≤ w6.heap.size ∧ ∀ d y, w.cell? ⟨g, d, none⟩ = some y → w6.cell? ⟨g, d, none⟩ = some y := by
  obtain ⟨i0, hi, hz0, hz1, hz2⟩ := info_parts Try.infoRow
  obtain ⟨S1, S2, h1, h2, d, s1, s2, hB⟩ := h
  have z5 := hB5.size
  have hg : S1 g := by obtain ⟨_, _, _, h3, _⟩ := h1; exact h3 g rfl
  have hy5 := local_O1.mono (S' := fun k => w.heap.size ≤ k) hI5.o1 (fun k _ h => h.1)
  obtain ⟨v6, w6, hr6, hO6, hC6⟩ := run_appO local_O1 w5 23 23 i0 Try.underlying23 hi hz0 hz1 hz2 _ _ _ _ (local_O2.below h2 hB5) _ _ hy5 hone (fun k hk h => by have := (s2 k h).2; have hk' : w.heap.size ≤ k := hk; omega) hn
  have z6 := hC6.size
  have z0 := hB.size
  refine ⟨v6, w6, hr6, ⟨S1, _, local_O2.chg (local_O2.below h1 hB5) hC6 (fun k hk hh => d k hk hh.1), hO6, ?_, ?_, ?_, ?_⟩, z6, fun k y hy => hC6.cell (below_cells hB5 _ _ hy) (fun hh => d g hg hh.1)⟩
  · rintro k hk (⟨h | h, _⟩ | h)
    · exact d k hk h
    · have := (s1 k hk).2; have h' : w.heap.size ≤ k := h; omega
    · have := (s1 k hk).2; have := h.1; omega
  · exact fun k hk => ⟨(s1 k hk).1, by have := (s1 k hk).2; omega⟩
  · rintro k (⟨h | h, hl⟩ | h)
    · exact ⟨(s2 k h).1, by omega⟩
    · have h' : w.heap.size ≤ k := h; exact ⟨by omega, by omega⟩
    · exact ⟨by have := h.1; omega, h.2⟩
  · exact (below_size hB hB5).trans (hC6.below (fun k hk => (s2 k hk.1).1) (by omega))
theorem TWR.push2 {w0 w : World} {vw ur : Value} {g n c : Nat} {T W : List (List Int)} {xs : List Int} (h : TWR w0 (.slice (some ⟨g, 0, none⟩) n c) vw ur T W xs w) (hone : ur.oneCell' = true) (hn : W.length ≤ 1000000000) :
    ∃ v6 w6, (Builtin.append_ #[23, 23] 23 #[vw, .slice (some ⟨w.heap.size, 0, none⟩) 1 1]).run Try.prog (w.alloc (.cells #[ur] 22)) = .ok v6 w6 ∧ TW w0 (.slice (some ⟨g, 0, none⟩) n c) v6 T (W ++ [xs]) w6 ∧ w.heap.size ≤ w6.heap.size ∧ ∀ d y, w.cell? ⟨g, d, none⟩ = some y → w6.cell? ⟨g, d, none⟩ = some y := by
  obtain ⟨i0, hi, hz0, hz1, hz2⟩ := info_parts Try.infoRow
  obtain ⟨S1, S2, S3, h1, h2, h3, d12, d13, d23, s1, s2, s3, hB⟩ := h
  have hg : S1 g := by obtain ⟨_, _, _, h3, _⟩ := h1; exact h3 g rfl
  obtain ⟨v6, w6, hr6, hO6, hC6⟩ := run_appO local_O1 w 23 23 i0 Try.underlying23 hi hz0 hz1 hz2 _ _ _ _ h2 _ _ h3 hone (fun k hk hh => d23 k hh hk) hn
  have z6 := hC6.size
  have z0 := hB.size
  refine ⟨v6, w6, hr6, ⟨S1, _, local_O2.chg h1 hC6 (fun k hk hh => d12 k hk hh.1), hO6, ?_, ?_, ?_, ?_⟩, z6, fun k y hy => hC6.cell hy (fun hh => d12 g hg hh.1)⟩
  · rintro k hk (⟨h | h, _⟩ | h)
    · exact d12 k hk h
    · exact d13 k hk h
    · have := (s1 k hk).2; have := h.1; omega
  · exact fun k hk => ⟨(s1 k hk).1, by have := (s1 k hk).2; omega⟩
  · rintro k (⟨h | h, hl⟩ | h)
    · exact ⟨(s2 k h).1, by omega⟩
    · exact ⟨(s3 k h).1, by omega⟩
    · exact ⟨by have := h.1; omega, h.2⟩
  · exact hB.trans (hC6.below (fun k hk => (s2 k hk.1).1) z0)
theorem TW.below {w0 w : World} {vt vw : Value} {T W : List (List Int)} (h : TW w0 vt vw T W w) : Below w0.heap.size w0 w := by
  obtain ⟨_, _, _, _, _, _, _, hB⟩ := h; exact hB
theorem TW.table {w0 w : World} {vt vw : Value} {T W : List (List Int)} (h : TW w0 vt vw T W w) : Rd2 w vt T := by
  obtain ⟨_, _, h1, _⟩ := h; exact h1.rd
theorem TW.form {w0 w : World} {vt vw : Value} {T W : List (List Int)} (h : TW w0 vt vw T W w) : ∃ a c, vw = .slice a W.length c ∧ W.length ≤ c := by
  obtain ⟨_, _, _, h2, _⟩ := h
  obtain ⟨a, c, e, hc, _⟩ := ON.form h2
  exact ⟨a, c, e, hc⟩
theorem TW.cell {w0 w : World} {vw : Value} {g n c : Nat} {T W : List (List Int)} (h : TW w0 (.slice (some ⟨g, 0, none⟩) n c) vw T W w) {d : Nat} (hd : d < T.length) :
    w.frozen? ⟨g, d, none⟩ = false ∧ ∃ a c, w.cell? ⟨g, d, none⟩ = some (.slice a (T.getD d []).length c) ∧ Rd w (.slice a (T.getD d []).length c) (T.getD d []) := by
  obtain ⟨S1, _, h1, _⟩ := h
  obtain ⟨ao, cap, e, _, _, h4⟩ := ON.open h1
  obtain ⟨b, o, r, e2, hc, hR⟩ := h1.rd.at hd
  simp only [Option.some.injEq, Addr.mk.injEq, and_true] at e2
  obtain ⟨rfl, rfl⟩ := e2
  rw [Nat.zero_add] at hc
  obtain ⟨a', c', e3, _⟩ := hR.form
  refine ⟨?_, a', c', by rw [hc, e3], e3 ▸ hR⟩
  rcases h4 with h4 | ⟨g', e4, _, _, h5⟩
  · omega
  · simp only [Value.slice.injEq] at e
    rw [← e.1] at e4
    simp only [Option.some.injEq, Addr.mk.injEq, and_true] at e4
    subst e4
    exact (h5 d hd).1
/-- the entry that has been stored reads as it was -/
theorem TW.entry {w0 w : World} {vw y : Value} {g n c : Nat} {T W : List (List Int)} {xs : List Int} (h : TW w0 (.slice (some ⟨g, 0, none⟩) n c) vw T W w) {d : Nat} (hd : d < T.length) (hc : w.cell? ⟨g, d, none⟩ = some y) (hx : T.getD d [] = xs) : Rd w y xs := by
  obtain ⟨_, a, c, h1, h2⟩ := h.cell hd
  rw [hc] at h1
  rw [Option.some.inj h1, ← hx]; exact h2
/-- the start of the closure -/
theorem TW.start {w0 w1 w2 : World} {vt vw : Value} {n : Nat} {L : List (List Int)} (h1 : O2 w1 (win w0.heap.size w1.heap.size) vt (List.replicate n [])) (hB1 : Below w0.heap.size w0 w1) (h2 : O2 w2 (win w1.heap.size w2.heap.size) vw L) (hB2 : Below w1.heap.size w1 w2) : TW w0 vt vw (List.replicate n []) L w2 :=
  ⟨_, _, local_O2.below h1 hB2, h2, fun k hk hh => by have := hk.2; have := hh.1; omega, fun k hk => ⟨hk.1, by have := hk.2; have := hB2.size; omega⟩, fun k hk => ⟨by have := hk.1; have := hB1.size; omega, hk.2⟩, below_size hB1 hB2⟩
theorem emp_rep (n : Nat) : emp (List.replicate n []) = n := by
  unfold emp
  rw [List.countP_replicate]; rfl
--== spec.l12Close
set_option maxHeartbeats 16000000 in
theorem s_l12Close {p : Pres} (hV : ValidP p) (hG : GT p 0) (L : List (List Int)) (v1 v2 v3 vl : Value) (w : World) (hp : RdP w v1 v2 v3 p) (hl : Rd2 w vl L) (hL : ∀ x ∈ L, VI p 0 x) (hLl : L.length ≤ 1000) :
    Calls Try.prog 97 #[.agg #[v1, v2, v3], vl] w fun e w' => ∃ u T D, e = .returned u ∧ Cl p L T [] ∧ FD p T 0 D ∧ Rd2 w' u (filt D) ∧ Below w.heap.size w w' := by
  obtain ⟨i0, hi, hz0, hz1, hz2⟩ := info_parts Try.infoRow
  have hn6 := hV.n6
  have HP := Lib.hid hp
  obtain ⟨p1, q1, rfl, _, _⟩ := hp.1.formN (n := p.n) rfl
  obtain ⟨p2, q2, rfl, _, _⟩ := hp.2.1.formN hV.pl
  obtain ⟨p3, q3, rfl, _, _⟩ := hp.2.2.formN hV.cl
  have HL := Lib.hid hl
  have HLV := Lib.hid hL
  have HLl := Lib.hid hLl
  have HG := Lib.hid hG
  have HVd := Lib.hid hV
  have HSZ : Hid ((w.alloc (Obj.cells #[Value.slice p1 p.n q1, Value.slice p2 p.n q2, Value.slice p3 p.n q3] 28)).heap.size = w.heap.size + 1) := by show _ = _; simp
  have G0 := Lib.hid (below_alloc w (Obj.cells #[Value.slice p1 p.n q1, Value.slice p2 p.n q2, Value.slice p3 p.n q3] 28))
  have X0 := Lib.hid (Bx.new w (Value.slice p1 p.n q1) (Value.slice p2 p.n q2) (Value.slice p3 p.n q3))
  clear hp hl hL hLl hG hV
  go_enter Try.func97, Try.ntmps97
  go_wp2_with (at_make; refine wp_mkO local_O1 _ rfl _ _ 23 rfl i0 Try.underlying23 hi hz0 hz1 hz2 _ _ _ _ p.n rfl rfl rfl rfl (by omega) ?_)
  generalize w.alloc (Obj.cells #[Value.slice p1 p.n q1, Value.slice p2 p.n q2, Value.slice p3 p.n q3] 28) = w0 at *
  intro w1 hO hB1 hlt1
  have HO : Hid (ON 22 O1 w1 (win w0.heap.size w1.heap.size) (.slice (some ⟨w.heap.size + 1, 0, none⟩) p.n p.n) (List.replicate p.n [])) := by
    show ON _ _ _ _ _ _
    rw [HSZ.out]; exact hO
  have HB1 : Hid (Below w0.heap.size w0 w1) := by
    show Below _ _ _
    rw [HSZ.out]; exact hB1
  clear hO hB1 hlt1 hi hz0 hz1 hz2
  go_wp2_with fail
  refine (s_l01Own2 _ L _ (HL.out.below (below_size G0.out HB1.out)) (by have := HLl.out; omega) (fun i hi => by
    have : L.getD i [] ∈ L := by rw [List.getD, List.getElem?_eq_getElem hi, Option.getD_some]; exact List.getElem_mem hi
    have := (HLV.out _ this).len; omega)).mono ?_
  rintro e w2 ⟨uw, rfl, hO2, hB2⟩
  have HT0 := Lib.hid (TW.start HO.out HB1.out hO2 hB2)
  have HC0 := Lib.hid (Cl.start HLV.out)
  clear hO2 hB2 HO HB1
  go_wp2_with fail
  go_loopg [7] (L.length + (p.n + 4) * emp (List.replicate p.n [])) (fun k u wr => ∃ T W : List (List Int), Hid (Cl p L T W) ∧ Hid (W.length + (p.n + 4) * emp T ≤ k ∧ k ≤ 100000) ∧ TW w0 (.slice (some ⟨w.heap.size + 1, 0, none⟩) p.n p.n) u T W wr)
  case atStart => exact ⟨_, L, HC0, ⟨Nat.le_refl _, by
    rw [emp_rep]
    have h1 := HLl.out
    have h2 : (p.n + 4) * p.n ≤ 10 * 6 := Nat.mul_le_mul (by omega) (by omega)
    omega⟩, HT0.out⟩
  case round =>
    clear HT0 HC0
    obtain ⟨T, W, HC, HK, hTW⟩ := hrel
    have mm0 := below_cells hTW.below _ _ X0.out.c0
    have mm1 := below_cells hTW.below _ _ X0.out.c1
    have mm2 := below_cells hTW.below _ _ X0.out.c2
    rcases List.eq_nil_or_concat W with rfl | ⟨ws, x, hWx⟩
    · have HT := Lib.hid hTW
      obtain ⟨aw, cw, rfl, _⟩ := hTW.form
      have hB := Lib.hid hTW.below
      clear hTW
      go_wp2_with fail
      refine (s_l12Full HVd.out HG.out T _ _ _ _ _ (HP.out.below (below_size G0.out hB.out)) HT.out.table HC.out.tl HC.out.tab).mono ?_
      rintro e w5 ⟨u5, D, rfl, hF, hR5, hB5⟩
      have HF := Lib.hid hF
      have HR5 := Lib.hid hR5
      have hB6 := below_size (below_size G0.out hB.out) hB5
      clear hF hR5 hB5 hB
      go_wp2_with fail
      go_ret
      exact ⟨_, T, D, rfl, HC.out, HF.out, HR5.out, hB6⟩
    · rw [List.concat_eq_append] at hWx
      subst hWx
      obtain ⟨wo, hwo⟩ : ∃ wo : World, wo = wr := ⟨_, rfl⟩
      subst hwo
      obtain ⟨nw, hnw⟩ : ∃ nw, ws.length = nw := ⟨_, rfl⟩
      have HNW := Lib.hid hnw
      obtain ⟨aw, cw, rfl, hcap⟩ := hTW.form
      have hcap2 : nw ≤ cw := by
        have h2 : (ws ++ [x]).length = nw + 1 := by simp [hnw]
        omega
      clear hcap
      rw [show (ws ++ [x]).length = nw + 1 by simp [hnw]] at hTW ⊢
      obtain ⟨hTP, gw, rw', rfl, hcw, hRx⟩ := hTW.pop hnw
      have HT := Lib.hid hTP
      have hB := Lib.hid hTP.below
      have hkx := HC.out.wv x (by simp)
      have hlx := hkx.len
      obtain ⟨ax, cx, rfl, _, _⟩ := hRx.formN hlx
      have HRX := Lib.hid hRx
      have HKX := Lib.hid hkx
      have hnwb : nw ≤ 100000 := by have := HK.out; have h2 : (ws ++ [x]).length = nw + 1 := by simp [hnw]
                                    omega
      have D0 : (0 : Int) < ((nw + 1 : Nat) : Int) := by omega
      have PT := Lib.hid (HP.out.below (below_size G0.out hB.out))
      have HSP := Lib.hid (strip_spec HG.out HC.out.tab p.n 0 (by omega) x hkx)
      obtain ⟨d, hd⟩ : ∃ d, (strip p T p.n 0 x).1 = d := ⟨_, rfl⟩
      obtain ⟨r, hr⟩ : ∃ r, (strip p T p.n 0 x).2 = r := ⟨_, rfl⟩
      have HD := Lib.hid hd
      have HR := Lib.hid hr
      obtain ⟨sd1, sd2, sd3, sd4⟩ := HSP.out
      rw [hd, hr] at sd3 sd4
      rw [hd] at sd2
      clear hTW hTP hRx hkx hnw hd hr sd1
      go_wp2_with fail
      refine (s_l12Strip HVd.out HG.out T x _ _ _ _ _ _ PT.out HT.out.table HRX.out HKX.out HC.out.tl HC.out.tab).mono ?_
      rintro e w3 ⟨ur, rfl, hI3, hB3⟩
      rw [HD.out]
      rw [HR.out] at hI3
      have HI3 := Lib.hid hI3
      have HB3 := Lib.hid hB3
      clear hI3 hB3 hcw mm0 mm1 mm2
      by_cases hdn : d = p.n
      · subst hdn
        have HC2 := Lib.hid (HC.out.skip HG.out HD.out)
        have HT2 := Lib.hid (HT.out.keep HB3.out)
        have hdd : ((p.n : Int) == (p.n : Int)) = true := by simp
        go_wp2_with fail
        go_roundg (gk - 1)
        case measure =>
          have := HK.out.1
          have h2 : (ws ++ [x]).length = nw + 1 := by simp [HNW.out]
          omega
        case rel =>
          exact ⟨T, ws, HC2, ⟨by
            have := HK.out.1
            have h2 : (ws ++ [x]).length = nw + 1 := by simp [HNW.out]
            have := HNW.out
            omega, by have := HK.out.2; omega⟩, HT2.out⟩
      · have hlt : d < p.n := by omega
        obtain ⟨hte, hr0⟩ := sd4 hlt
        have HTE := Lib.hid hte
        have HKR := Lib.hid sd3
        have hlr := sd3.len
        have rlo := sd3.lo d hlt
        have rhi := sd3.hi d hlt
        obtain ⟨rd, hrd⟩ : ∃ rd, r.getD d 0 = rd := ⟨_, rfl⟩
        have HRD := Lib.hid hrd
        have r4 := HVd.out.r4 d hlt
        obtain ⟨od, hod⟩ : ∃ od, p.r d = od := ⟨_, rfl⟩
        have HOD := Lib.hid hod
        rw [hod] at r4 rhi
        rw [hrd] at hr0 rlo rhi
        obtain ⟨ar, cr, rfl, _, _⟩ := HI3.out.rd.formN hlr
        obtain ⟨b5, o5, he5, hc5⟩ := HI3.out.rd.at (j := d) (by omega)
        obtain rfl : ar = some ⟨b5, o5, none⟩ := by simpa using he5
        rw [hrd] at hc5
        have hBB := Lib.hid (below_size hB.out HB3.out)
        obtain ⟨bo, oo, heo, hco⟩ := (HP.out.below G0.out).1.at (j := d) hlt
        obtain rfl : p1 = some ⟨bo, oo, none⟩ := by simpa using heo
        have hco' : w0.cell? ⟨bo, oo + d, none⟩ = some (.int .i64 od) := by rw [hco, ← hod]; rfl
        have HCO := Lib.hid hco'
        have hco3 := below_cells hBB.out _ _ hco'
        have R4 := Lib.hid r4
        have m0 := below_cells hBB.out _ _ X0.out.c0
        have m1 := below_cells hBB.out _ _ X0.out.c1
        have m2 := below_cells hBB.out _ _ X0.out.c2
        have KEEP : Hid (∀ wx, Below w3.heap.size w3 wx → Below w3.heap.size w3 wx ∧ wx.cell? ⟨w.heap.size, 0, none⟩ = some (Value.slice (some ⟨bo, oo, none⟩) p.n q1) ∧ wx.cell? ⟨w.heap.size, 1, none⟩ = some (Value.slice p2 p.n q2) ∧ wx.cell? ⟨w.heap.size, 2, none⟩ = some (Value.slice p3 p.n q3) ∧ wx.cell? ⟨b5, o5 + d, none⟩ = some (.int .i64 rd) ∧ wx.cell? ⟨bo, oo + d, none⟩ = some (.int .i64 od)) := fun wx hb =>
          ⟨hb, below_cells hb _ _ m0, below_cells hb _ _ m1, below_cells hb _ _ m2, below_cells hb _ _ hc5, below_cells hb _ _ hco3⟩
        have HINV : Hid (∀ wx, Calls Try.prog 127 #[.int .i64 rd, .int .i64 od] wx fun e w' => (∃ c : Int, e = .returned (.int .i64 c) ∧ 1 ≤ c ∧ c ≤ 7 ∧ (c * rd) % od = 1) ∧ wx = w') := fun wx => s_l01Inv rd od wx r4 (by omega) rhi
        have HPW : Hid (∀ wx c, 1 ≤ c → c ≤ 7 → Below w3.heap.size w3 wx → Calls Try.prog 126 #[.agg #[Value.slice (some ⟨bo, oo, none⟩) p.n q1, Value.slice p2 p.n q2, Value.slice p3 p.n q3], .slice (some ⟨b5, o5, none⟩) p.n cr, .int .i64 c] wx (RetInts wx (zpw p r c))) := fun wx c h1 h2 hb =>
          s_l10Pow HVd.out HG.out r c _ _ _ _ wx (PT.out.below (below_size HB3.out hb)) (HI3.out.rd.below hb) (HKR.out.mono (Nat.zero_le _)) (by omega)
        have D1 : ((d : Int) == (p.n : Int)) = false := by simp; omega
        have hltI : (d : Int) < (p.n : Int) := by omega
        clear hte sd3 sd4 hrd hod hco hco' he5 heo r4 rlo rhi hr0
        go_wp2_with fail
        go_region_held3 (fun wx => Below w3.heap.size w3 wx ∧ wx.cell? ⟨w.heap.size, 0, none⟩ = some (Value.slice (some ⟨bo, oo, none⟩) p.n q1) ∧ wx.cell? ⟨w.heap.size, 1, none⟩ = some (Value.slice p2 p.n q2) ∧ wx.cell? ⟨w.heap.size, 2, none⟩ = some (Value.slice p3 p.n q3) ∧ wx.cell? ⟨b5, o5 + d, none⟩ = some (.int .i64 rd) ∧ wx.cell? ⟨bo, oo + d, none⟩ = some (.int .i64 od))
          (first | exact KEEP.out _ (Below.refl _ _).drew | exact KEEP.out _ (below_size (And.left (by assumption)) (by assumption)) | assumption)
          (first
            | ((go_at_call 127); (with_reducible refine (HINV.out _).mono ?_); (rintro e w4 ⟨⟨c, rfl, hc1, hc7, hcm⟩, rfl⟩))
            | ((go_at_call 126); (with_reducible refine (HPW.out _ c hc1 hc7 (And.left (by assumption))).mono ?_); (rintro e w5 ⟨u5, rfl, hI5, hB5⟩)))
        have hB5' : Below w3.heap.size w3 w5 := And.left (by assumption)
        have hI5' : Ints w5 w3.heap.size u5 (zpw p r c) := hI5.mono (Nat.le_refl _)
        obtain ⟨zl1, zl2⟩ := zpw_lead HG.out (by omega) HKR.out c
        have hy1 := zl2 hlt
        rw [HRD.out, HOD.out, hcm] at hy1
        obtain ⟨y, hy⟩ : ∃ y, zpw p r c = y := ⟨_, rfl⟩
        rw [hy] at hI5' zl1 hy1
        have HY := Lib.hid zl1
        have HY1 := Lib.hid hy1
        obtain ⟨ay, cy, rfl, _, _⟩ := hI5'.rd.formN zl1.len
        have hTR := HT.out.setR HC.out.tl.symm (by rw [HC.out.tl]; exact hlt) HB3.out HI3.out hB5' hI5'
        obtain ⟨hfr, at5, ct5, hcd, _⟩ := (HT.out.keep (below_size HB3.out hB5')).cell (d := d) (by rw [HC.out.tl]; exact hlt)
        have hst : (w5.setCell ⟨w.heap.size + 1, d, none⟩ (.slice ay p.n cy)).cell? ⟨w.heap.size + 1, d, none⟩ = some (.slice ay p.n cy) := World.cell?_setCell_same _ _ _ hcd
        obtain ⟨v6, w6, hr6, hT6, hs6, hk6⟩ := hTR.push2 rfl (by rw [HNW.out]; omega)
        rw [show (w5.setCell ⟨w.heap.size + 1, d, none⟩ (.slice ay p.n cy)).heap.size = w5.heap.size by simp] at hr6
        have HST6 := Lib.hid (hk6 _ _ hst)
        have HT6 := Lib.hid hT6
        have B6 := Lib.hid hT6.below
        have HGET : Hid ((T.set d y).getD d [] = y) := by
          show _ = _
          exact gset_self _ _ _ _ (by rw [HC.out.tl]; exact hlt)
        have HTL : Hid ((T.set d y).length = p.n) := by show _ = _; rw [List.length_set]; exact HC.out.tl
        have HVY := Lib.hid (hT6.entry (by rw [HTL.out]; exact hlt) HST6.out HGET.out)
        clear hI5 hB5 hI5' hB5' zl1 zl2 hy1 hy hTR hst hs6 hk6 hT6 KEEP HINV HPW hcm hc1 hc7
        clear m0 m1 m2 hc5 hco3
        go_wp2_with (at_builtin; refine wp_of_run _ rfl _ _ _ rfl _ _ rfl rfl _ _ hr6 ?_)
        have KEEP6 : Hid (∀ wx, Below w0.heap.size w0 wx → wx.cell? ⟨w.heap.size, 0, none⟩ = some (Value.slice (some ⟨bo, oo, none⟩) p.n q1) ∧ wx.cell? ⟨w.heap.size, 1, none⟩ = some (Value.slice p2 p.n q2) ∧ wx.cell? ⟨w.heap.size, 2, none⟩ = some (Value.slice p3 p.n q3) ∧ wx.cell? ⟨bo, oo + d, none⟩ = some (.int .i64 od)) := fun wx hb =>
          ⟨below_cells hb _ _ X0.out.c0, below_cells hb _ _ X0.out.c1, below_cells hb _ _ X0.out.c2, below_cells hb _ _ HCO.out⟩
        have HPW6 : Hid (∀ wx, Below w6.heap.size w6 wx → Calls Try.prog 126 #[.agg #[Value.slice (some ⟨bo, oo, none⟩) p.n q1, Value.slice p2 p.n q2, Value.slice p3 p.n q3], .slice ay p.n cy, .int .i64 od] wx (RetInts wx (zpw p y od))) := fun wx hb =>
          s_l10Pow HVd.out HG.out y od _ _ _ _ wx (HP.out.below (below_size (below_size G0.out B6.out) hb)) (HVY.out.below hb) (HY.out.mono (Nat.zero_le _)) (by have := R4.out; omega)
        clear hcd hfr
        go_region_held3 (fun wx => wx.cell? ⟨w.heap.size, 0, none⟩ = some (Value.slice (some ⟨bo, oo, none⟩) p.n q1) ∧ wx.cell? ⟨w.heap.size, 1, none⟩ = some (Value.slice p2 p.n q2) ∧ wx.cell? ⟨w.heap.size, 2, none⟩ = some (Value.slice p3 p.n q3) ∧ wx.cell? ⟨bo, oo + d, none⟩ = some (.int .i64 od))
          (first
            | exact KEEP6.out _ (below_size B6.out (Below.refl _ _).drew)
            | exact KEEP6.out _ hK8
            | exact KEEP6.out _ (below_size B6.out hK7)
            | exact KEEP6.out _ (ball (below_size B6.out hK7) _))
          (first
            | ((go_at_call 126); (with_reducible refine (HPW6.out _ (Below.refl _ _).drew).mono ?_); (rintro e w7 ⟨u7, rfl, hI7, hB7⟩); (have hK7 : Below w6.heap.size w6 w7 := below_size (Below.refl _ _).drew hB7); (obtain ⟨a7, c7, rfl, _, _⟩ := hI7.form))
            | (obtain ⟨v8, w8, hr8, hT8, hs8, hk8⟩ := HT6.out.push2 hK7 (hI7.mono (Nat.le_refl _)) rfl (by rw [List.length_append, HNW.out]; simp; omega)
               have hK8 : Below w0.heap.size w0 w8 := hT8.below
               refine step_of_run rfl (.tmp 65) (.tmp 74) 23 rfl _ _ (by simp [Act.eval, Act.put]) (by simp [Act.eval, Act.put]) _ _ hr8 ?_))
        have HST8 := Lib.hid (hk8 _ _ HST6.out)
        rw [List.append_assoc] at hT8
        have HT8 := Lib.hid hT8
        have HPZ : Hid (∀ z ∈ [r] ++ [zpw p y od], VI p 0 z) := by
          show ∀ z ∈ _, _
          intro z hz
          simp only [List.cons_append, List.nil_append, List.mem_cons, List.not_mem_nil, or_false] at hz
          rcases hz with rfl | rfl
          · exact HKR.out.mono (Nat.zero_le _)
          · exact (zpw_lead HG.out (Nat.le_of_lt hlt) HY.out od).1.mono (Nat.zero_le _)
        have HPL : Hid (([r] ++ [zpw p y od]).length ≤ 0 + 2) := by show _ ≤ _; simp
        generalize [r] ++ [zpw p y od] = P0 at *
        clear hI7 hB7 hK7 hT8 hk8 hs8 hr8 hK8 HPW6 hr6 HVY HST6 HT6 B6 KEEP6
        go_wp2_with fail
        go_loopw [7, 12] (fun u t wx => ∃ (m : Nat) (P : List (List Int)), m ≤ p.n ∧ t = .int .i64 m ∧ Hid ((∀ z ∈ P, VI p 0 z) ∧ P.length ≤ m + 2) ∧ TW w0 (.slice (some ⟨w.heap.size + 1, 0, none⟩) p.n p.n) u (T.set d y) (ws ++ P) wx ∧ wx.cell? ⟨w.heap.size + 1, d, none⟩ = some (.slice ay p.n cy)) (fun _ t _ => p.n - (intOf t).toNat)
        case atStart => exact ⟨0, P0, Nat.zero_le _, rfl, ⟨HPZ.out, HPL.out⟩, HT8.out, HST8.out⟩
        case round =>
          clear HT8 HST8 HPZ HPL
          obtain ⟨m, P, hm, rfl, HPP, hTm, hcm⟩ := hrel
          have HTm := Lib.hid hTm
          have HCM := Lib.hid hcm
          have Bm := Lib.hid hTm.below
          by_cases hlt2 : m < p.n
          · by_cases hmd : m = d
            · subst hmd
              have hmm : ((m : Int) == (m : Int)) = true := by simp
              clear hTm hcm
              go_wp2_with fail
              go_roundw
              case rel => exact ⟨m + 1, P, by omega, by go_num, ⟨HPP.out.1, by have := HPP.out.2; omega⟩, HTm.out, HCM.out⟩
              case measure => simp [intOf]; omega
            · have hmd' : ((m : Int) == (d : Int)) = false := by simp; omega
              have hmd2 : ((m : Int) != (d : Int)) = true := by rw [bne, hmd']; rfl
              have hnp2 : 0 < p.n := by omega
              obtain ⟨_, am, cm, hcell, hRm⟩ := hTm.cell (d := m) (by rw [HTL.out]; exact hlt2)
              obtain ⟨z, hz⟩ : ∃ z, (T.set d y).getD m [] = z := ⟨_, rfl⟩
              have HZ := Lib.hid hz
              rw [hz] at hcell hRm
              by_cases hz0 : z = []
              · subst hz0
                rw [List.length_nil] at hcell
                clear hTm hcm hRm hz
                go_wp2_with fail
                go_roundw
                case rel => exact ⟨m + 1, P, by omega, by go_num, ⟨HPP.out.1, by have := HPP.out.2; omega⟩, HTm.out, HCM.out⟩
                case measure => simp [intOf]; omega
              · have hzT : T.getD m [] = z := by rw [← hz, gset_ne _ _ _ _ _ (fun h => hmd h.symm)]
                have hkz := (HC.out.tab m hlt2 (by rw [hzT]; exact hz0)).1
                rw [hzT] at hkz
                have HKZ := Lib.hid (hkz.mono (Nat.zero_le m))
                rw [hkz.len] at hcell hRm
                have HRm := Lib.hid hRm
                have HCL := Lib.hid hcell
                have HVY := Lib.hid (hTm.entry (by rw [HTL.out]; exact hlt) hcm HGET.out)
                have hnp : (0 : Int) < (p.n : Int) := by omega
                obtain ⟨wq, hwq⟩ : ∃ wq : World, wq = wr := ⟨_, rfl⟩
                subst hwq
                have KEEP6 : Hid (∀ wx, Below w0.heap.size w0 wx → wx.cell? ⟨w.heap.size + 1, m, none⟩ = some (.slice am p.n cm) → wx.cell? ⟨w.heap.size, 0, none⟩ = some (Value.slice (some ⟨bo, oo, none⟩) p.n q1) ∧ wx.cell? ⟨w.heap.size, 1, none⟩ = some (Value.slice p2 p.n q2) ∧ wx.cell? ⟨w.heap.size, 2, none⟩ = some (Value.slice p3 p.n q3) ∧ wx.cell? ⟨w.heap.size + 1, m, none⟩ = some (.slice am p.n cm)) := fun wx hb h =>
                  ⟨below_cells hb _ _ X0.out.c0, below_cells hb _ _ X0.out.c1, below_cells hb _ _ X0.out.c2, h⟩
                have HCO6 : Hid (∀ wx, Below wq.heap.size wq wx → Calls Try.prog 95 #[.agg #[Value.slice (some ⟨bo, oo, none⟩) p.n q1, Value.slice p2 p.n q2, Value.slice p3 p.n q3], .slice ay p.n cy, .slice am p.n cm] wx (RetInts wx (p.at 0 (p.inv 0 (p.at 0 z y)) (p.at 0 y z)))) := fun wx hb =>
                  s_l10Comm HVd.out HG.out y z _ _ _ _ _ wx (HP.out.below (below_size (below_size G0.out Bm.out) hb)) (HVY.out.below hb) (HRm.out.below hb) (HY.out.mono (Nat.zero_le _)) HKZ.out
                have hPl : (ws ++ P).length ≤ 1000000000 := by rw [List.length_append, HNW.out]; have := HPP.out.2; omega
                have HPl := Lib.hid hPl
                have hY0 := HY.out.mono (Nat.zero_le d)
                have HCV : Hid (VI p 0 (p.at 0 (p.inv 0 (p.at 0 z y)) (p.at 0 y z))) := HG.out.at (HG.out.inv (HG.out.at HKZ.out hY0)) (HG.out.at hY0 HKZ.out)
                generalize p.at 0 (p.inv 0 (p.at 0 z y)) (p.at 0 y z) = Z at *
                clear hTm hcm hRm hz hz0 hzT hkz hPl hY0
                go_wp2_with fail
                go_region_held3 (fun wx => wx.cell? ⟨w.heap.size, 0, none⟩ = some (Value.slice (some ⟨bo, oo, none⟩) p.n q1) ∧ wx.cell? ⟨w.heap.size, 1, none⟩ = some (Value.slice p2 p.n q2) ∧ wx.cell? ⟨w.heap.size, 2, none⟩ = some (Value.slice p3 p.n q3) ∧ wx.cell? ⟨w.heap.size + 1, m, none⟩ = some (.slice am p.n cm))
                  (first
                    | exact KEEP6.out _ (below_size Bm.out (Below.refl _ _).drew) HCL.out
                    | exact KEEP6.out _ hK8 (hk8 _ _ HCL.out)
                    | exact KEEP6.out _ (below_size Bm.out hK7) (below_cells hK7 _ _ HCL.out)
                    | exact KEEP6.out _ (ball (below_size Bm.out hK7) _) (below_cells (ball hK7 _) _ _ HCL.out))
                  (first
                    | ((go_at_call 95); (with_reducible refine (HCO6.out _ (Below.refl _ _).drew).mono ?_); (rintro e w7 ⟨u7, rfl, hI7, hB7⟩); (have hK7 : Below wq.heap.size wq w7 := below_size (Below.refl _ _).drew hB7); (obtain ⟨a7, c7, rfl, _, _⟩ := hI7.form))
                    | (obtain ⟨v8, w8, hr8, hT8, hs8, hk8⟩ := HTm.out.push2 hK7 (hI7.mono (Nat.le_refl _)) rfl HPl.out
                       have hK8 : Below w0.heap.size w0 w8 := hT8.below
                       refine step_of_run rfl (.tmp 92) (.tmp 100) 23 rfl _ _ (by simp [Act.eval, Act.put]) (by simp [Act.eval, Act.put]) _ _ hr8 ?_))
                have HC8 := Lib.hid (hk8 _ _ HCM.out)
                rw [List.append_assoc] at hT8
                have HT8 := Lib.hid hT8
                have HP8 : Hid ((∀ z ∈ P ++ [Z], VI p 0 z) ∧ (P ++ [Z]).length ≤ (m + 1) + 2) := by
                  refine ⟨fun z hz => ?_, by have := HPP.out.2; simp; omega⟩
                  rcases List.mem_append.1 hz with hz | hz
                  · exact HPP.out.1 z hz
                  · obtain rfl := List.mem_singleton.1 hz; exact HCV.out
                clear hI7 hB7 hK7 hT8 hk8 hs8 hr8 hK8 KEEP6 HCO6 hcell
                go_wp2_with fail
                go_roundw
                case rel => exact ⟨m + 1, P ++ [Z], by omega, by go_num, HP8, HT8.out, HC8.out⟩
                case measure => simp [intOf]; omega
          · obtain rfl : m = p.n := by omega
            have HCF := Lib.hid (HC.out.fill HG.out HD.out hlt HY.out HY1.out HPP.out.1)
            have hyn : y ≠ [] := fun e => by
              have := HY.out.len
              rw [e] at this; simp at this; omega
            have hem := emp_set hyn (d := d) (T := T) (by rw [HC.out.tl]; exact hlt) HTE.out
            have HM : Hid ((ws ++ P).length + (p.n + 4) * emp (T.set d y) < gk ∧ gk ≤ 100000) := by
              have h1 := HK.out.1
              have h2 := HPP.out.2
              rw [← hem, Nat.mul_succ, List.length_append] at h1
              refine ⟨?_, HK.out.2⟩
              rw [List.length_append]
              simp only [List.length_singleton] at h1
              omega
            clear hTm hcm hem
            go_wp2_with fail
            go_roundg ((ws ++ P).length + (p.n + 4) * emp (T.set d y))
            case measure => exact HM.out.1
            case rel => exact ⟨_, _, HCF, ⟨Nat.le_refl _, by have := HM.out; omega⟩, HTm.out⟩
--== end
end Go.Proofs.Ytjefjhbnkcokhaa
