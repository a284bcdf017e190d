/-
  SectionOf: the plain part; a list of rows and a module's list that grow side by side.
-/
import Derived.Test.YtjnnjnhmecidmaaSed
import Derived.Test.YtjnnjnhmecidmaaMof
namespace Go.Proofs.Ytjnnjnhmecidmaa
set_option linter.unusedVariables false
set_option linter.unusedSimpArgs false
set_option maxRecDepth 100000
open Go.RowKit

def dC (p : Pres) (f k t : Nat) : List Int := (p.C k (k + 1 + t)).drop f
/-- of the first m conjugates of level k: those below f, and those from f on -/
def tlC (p : Pres) (f k m : Nat) : List (List Int) := (List.range (min m (f - (k + 1)))).map (dC p f k)
def rwC (p : Pres) (f k m : Nat) : List (List Int) := (List.range (m - (f - (k + 1)))).map fun c => dC p f k (f - (k + 1) + c)
def pwT (p : Pres) (f j : Nat) : List (List Int) := (List.range j).map fun k => (p.P k).drop f
def acD (p : Pres) (f j : Nat) : List (List (List Int)) := (List.range j).map fun k => rwC p f k (p.n - (k + 1))
def cjT (p : Pres) (f j : Nat) : List (List Int) := ((List.range j).map fun k => tlC p f k (p.n - (k + 1))).flatten
theorem tlC_0 (p : Pres) (f k : Nat) : tlC p f k 0 = [] := by simp [tlC]
theorem rwC_0 (p : Pres) (f k : Nat) : rwC p f k 0 = [] := by simp [rwC]
theorem tlC_lt (p : Pres) {f k m : Nat} (h : k + 1 + m < f) : tlC p f k (m + 1) = tlC p f k m ++ [dC p f k m] := by
  unfold tlC
  rw [show min (m + 1) (f - (k + 1)) = m + 1 by omega, show min m (f - (k + 1)) = m by omega, List.range_succ, List.map_append]; rfl
theorem tlC_ge (p : Pres) {f k m : Nat} (h : ¬ k + 1 + m < f) : tlC p f k (m + 1) = tlC p f k m := by
  unfold tlC
  rw [show min (m + 1) (f - (k + 1)) = min m (f - (k + 1)) by omega]
theorem rwC_lt (p : Pres) {f k m : Nat} (h : k + 1 + m < f) : rwC p f k (m + 1) = rwC p f k m := by
  unfold rwC
  rw [show m + 1 - (f - (k + 1)) = 0 by omega, show m - (f - (k + 1)) = 0 by omega]
theorem rwC_ge (p : Pres) {f k m : Nat} (h : ¬ k + 1 + m < f) : rwC p f k (m + 1) = rwC p f k m ++ [dC p f k m] := by
  unfold rwC
  rw [show m + 1 - (f - (k + 1)) = (m - (f - (k + 1))) + 1 by omega, List.range_succ, List.map_append]
  simp only [List.map_cons, List.map_nil]
  rw [show f - (k + 1) + (m - (f - (k + 1))) = m by omega]
theorem pwT_succ (p : Pres) (f j : Nat) : pwT p f (j + 1) = pwT p f j ++ [(p.P j).drop f] := by simp [pwT, List.range_succ]
theorem acD_succ (p : Pres) (f j : Nat) : acD p f (j + 1) = acD p f j ++ [rwC p f j (p.n - (j + 1))] := by simp [acD, List.range_succ]
theorem cjT_succ (p : Pres) (f j : Nat) : cjT p f (j + 1) = cjT p f j ++ tlC p f j (p.n - (j + 1)) := by simp [cjT, List.range_succ]
theorem pwT_len (p : Pres) (f j : Nat) : (pwT p f j).length = j := by simp [pwT]
theorem acD_len (p : Pres) (f j : Nat) : (acD p f j).length = j := by simp [acD]
theorem tlC_len (p : Pres) (f k m : Nat) : (tlC p f k m).length ≤ f := by simp [tlC]; omega
theorem rwC_len (p : Pres) (f k m : Nat) : (rwC p f k m).length ≤ m := by simp [rwC]
theorem cjT_len (p : Pres) (f : Nat) : ∀ j, (cjT p f j).length ≤ j * f
  | 0 => by simp [cjT]
  | j + 1 => by
    rw [cjT_succ, List.length_append, Nat.succ_mul]
    have := cjT_len p f j; have := tlC_len p f j (p.n - (j + 1)); omega

theorem ChgS.trans' {S T : Nat → Prop} {a b c : World} (h : ChgS S a b) (k : ChgS T b c) (h2 : ∀ x, x < a.heap.size → T x → S x) : ChgS S a c :=
  ⟨k.os.trans h.os, k.tape.trans h.tape, k.output.trans h.output, Nat.le_trans h.size k.size, fun i hi hh => (k.block i (by have := h.size; omega) fun x => hh (h2 i hi x)).trans (h.block i hi hh)⟩
theorem ChgS.wide {S T : Nat → Prop} {a b : World} (h : ChgS S a b) (hs : ∀ x, S x → T x) : ChgS T a b := h.trans (ChgS.refl S b) hs hs

--== rows
theorem push_rows {w5 : World} {S : Nat → Prop} {u u5 : Value} {L : List (List Int)} {xs : List Int} {N : Nat} (hO : O2 w5 S u L) (hS : ∀ k, S k → k < N) (hI5 : Ints w5 N u5 xs) (hone : u5.oneCell' = true) (hN : N ≤ w5.heap.size) (hn : L.length ≤ 1000000000) :
    ∃ v6 w6, (Builtin.append_ #[23, 23] 23 #[u, .slice (some ⟨w5.heap.size, 0, none⟩) 1 1]).run Try.prog (w5.alloc (.cells #[u5] 22)) = .ok v6 w6 ∧ O2 w6 (fun k => (S k ∨ N ≤ k) ∧ k < w6.heap.size) v6 (L ++ [xs]) ∧ ChgS S w5 w6 := by
  obtain ⟨i0, hi, hz0, hz1, hz2⟩ := info_parts Try.infoRow
  have hy5 := local_O1.mono (S' := fun k => N ≤ k) hI5.o1 (fun k _ h => h.1)
  obtain ⟨v6, w6, hr6, hO6, hC6⟩ := run_appO local_O1 w5 23 23 i0 Try.underlying23 hi hz0 hz1 hz2 _ _ _ _ hO _ _ hy5 hone (fun k hk h => by have := hS k h; have hk' : N ≤ k := hk; omega) hn
  refine ⟨v6, w6, hr6, local_O2.mono hO6 (fun k hk h => ⟨?_, hk⟩), hC6.wide fun _ h => h.1⟩
  rcases h with ⟨h | h, _⟩ | h
  · exact .inl h
  · exact .inr h
  · exact .inr (by have := h.1; omega)
/-- two lists of rows that grow side by side, from wo on -/
def InR (S0 : Nat → Prop) (wo : World) (u8 u11 : Value) (T R : List (List Int)) (wr : World) : Prop :=
  ∃ S1 S3 : Nat → Prop, O2 wr S1 u8 T ∧ O2 wr S3 u11 R ∧ (∀ k, S1 k → ¬ S3 k) ∧ (∀ k, S1 k → (S0 k ∨ wo.heap.size ≤ k) ∧ k < wr.heap.size) ∧ (∀ k, S3 k → wo.heap.size ≤ k ∧ k < wr.heap.size) ∧ ChgS S0 wo wr
theorem InR.forms {S0 : Nat → Prop} {wo wr : World} {u8 u11 : Value} {T R : List (List Int)} (h : InR S0 wo u8 u11 T R wr) : (∃ a c, u8 = .slice a T.length c) ∧ ∃ a c, u11 = .slice a R.length c := by
  obtain ⟨S1, S3, h1, h3, _⟩ := h
  obtain ⟨a, c, e, _⟩ := ON.form h1
  obtain ⟨a', c', e', _⟩ := ON.form h3
  exact ⟨⟨a, c, e⟩, a', c', e'⟩
theorem InR.tail {S0 : Nat → Prop} {wo wr w5 : World} {u8 u11 u5 : Value} {T R : List (List Int)} {xs : List Int} (h : InR S0 wo u8 u11 T R wr) (hB5 : Below wr.heap.size wr w5) (hI5 : Ints w5 wr.heap.size u5 xs) (hone : u5.oneCell' = true) (hn : T.length ≤ 1000000000) :
    ∃ v6 w6, (Builtin.append_ #[23, 23] 23 #[u8, .slice (some ⟨w5.heap.size, 0, none⟩) 1 1]).run Try.prog (w5.alloc (.cells #[u5] 22)) = .ok v6 w6 ∧ InR S0 wo v6 u11 (T ++ [xs]) R w6 := by
  obtain ⟨S1, S3, h1, h3, d, s1, s3, hC⟩ := h
  have z5 := hB5.size
  obtain ⟨v6, w6, hr, hO, hC6⟩ := push_rows (local_O2.below h1 hB5) (fun k hk => (s1 k hk).2) hI5 hone hB5.size hn
  have z6 := hC6.size
  have z0 := hC.size
  refine ⟨v6, w6, hr, _, S3, hO, local_O2.chg (local_O2.below h3 hB5) hC6 (fun k hk hh => d k hh hk), ?_, ?_, ?_, ?_⟩
  · rintro k ⟨hk | hk, _⟩ hh
    · exact d k hk hh
    · have := (s3 k hh).2; omega
  · rintro k ⟨hk | hk, hl⟩
    · exact ⟨(s1 k hk).1, hl⟩
    · exact ⟨.inr (by omega), hl⟩
  · exact fun k hk => ⟨(s3 k hk).1, by have := (s3 k hk).2; omega⟩
  · exact (hC.trans' (ChgS.of_below (fun _ => False) hB5) (fun _ _ hf => hf.elim)).trans' hC6 fun x hx hs => by
      rcases (s1 x hs).1 with h | h
      · exact h
      · omega
theorem InR.row {S0 : Nat → Prop} {wo wr w5 : World} {u8 u11 u5 : Value} {T R : List (List Int)} {xs : List Int} (h : InR S0 wo u8 u11 T R wr) (hB5 : Below wr.heap.size wr w5) (hI5 : Ints w5 wr.heap.size u5 xs) (hone : u5.oneCell' = true) (hn : R.length ≤ 1000000000) :
    ∃ v6 w6, (Builtin.append_ #[23, 23] 23 #[u11, .slice (some ⟨w5.heap.size, 0, none⟩) 1 1]).run Try.prog (w5.alloc (.cells #[u5] 22)) = .ok v6 w6 ∧ InR S0 wo u8 v6 T (R ++ [xs]) w6 := by
  obtain ⟨S1, S3, h1, h3, d, s1, s3, hC⟩ := h
  have z5 := hB5.size
  obtain ⟨v6, w6, hr, hO, hC6⟩ := push_rows (local_O2.below h3 hB5) (fun k hk => (s3 k hk).2) hI5 hone hB5.size hn
  have z6 := hC6.size
  have z0 := hC.size
  refine ⟨v6, w6, hr, S1, _, local_O2.chg (local_O2.below h1 hB5) hC6 (fun k hk hh => d k hk hh), hO, ?_, ?_, ?_, ?_⟩
  · rintro k hh ⟨hk | hk, _⟩
    · exact d k hh hk
    · have := (s1 k hh).2; omega
  · exact fun k hk => ⟨(s1 k hk).1, by have := (s1 k hk).2; omega⟩
  · rintro k ⟨hk | hk, hl⟩
    · exact ⟨(s3 k hk).1, hl⟩
    · exact ⟨by omega, hl⟩
  · exact (hC.trans' (ChgS.of_below (fun _ => False) hB5) (fun _ _ hf => hf.elim)).trans' hC6 fun x hx hs => by
      have := (s3 x hs).1; omega
theorem InR.chg {S0 : Nat → Prop} {wo wr : World} {u8 u11 : Value} {T R : List (List Int)} (h : InR S0 wo u8 u11 T R wr) : ChgS S0 wo wr := by
  obtain ⟨_, _, _, _, _, _, _, h⟩ := h; exact h
/-- a module's box b and its list, beside blocks S0 (the tails'), from wb on -/
def MB (wb : World) (b : Nat) (x y : Value) (acts : List (List (List Int))) (v : Value) (S0 : Nat → Prop) (wr : World) : Prop :=
  ∃ S2 : Nat → Prop, Bt 42 wr b x y v ∧ O3 wr S2 v acts ∧ (∀ k, S0 k → ¬ S2 k) ∧ (∀ k, S0 k → wb.heap.size ≤ k ∧ k ≠ b ∧ k < wr.heap.size) ∧ (∀ k, S2 k → wb.heap.size ≤ k ∧ k ≠ b ∧ k < wr.heap.size) ∧ Below wb.heap.size wb wr ∧ wb.heap.size ≤ b
def MP2 (wb : World) (b : Nat) (x y u8 : Value) (tl : List (List Int)) (acts : List (List (List Int))) (wr : World) : Prop :=
  ∃ (v : Value) (S0 : Nat → Prop), MB wb b x y acts v S0 wr ∧ O2 wr S0 u8 tl
section
variable {wb wo : World} {b : Nat} {x y u8 v : Value} {tl : List (List Int)} {acts : List (List (List Int))} {S0 : Nat → Prop}
theorem MB.inr (h : MB wb b x y acts v S0 wo) (h1 : O2 wo S0 u8 tl) : InR S0 wo u8 (.slice none 0 0) tl [] wo := by
  obtain ⟨S2, hX, h2, d, s1, s2, hB, hb⟩ := h
  exact ⟨S0, fun _ => False, h1, local_O2.nil _ _, fun _ _ hf => hf, fun k hk => ⟨.inl hk, (s1 k hk).2.2⟩, fun _ hf => hf.elim, ChgS.refl _ _⟩
theorem MB.form (h : MB wb b x y acts v S0 wo) : ∃ a c, v = .slice a acts.length c := by
  obtain ⟨S2, hX, h2, _⟩ := h
  obtain ⟨a, c, e, _⟩ := ON.form h2
  exact ⟨a, c, e⟩
theorem MB.keep (h : MB wb b x y acts v S0 wo) {wr : World} (hc : ChgS S0 wo wr) : Below wb.heap.size wb wr ∧ Bt 42 wr b x y v := by
  obtain ⟨S2, hX, h2, d, s1, s2, hB, hb⟩ := h
  exact ⟨hB.trans (hc.below (fun k hk => (s1 k hk).1) hB.size), hX.chg hc fun hk => (s1 b hk).2.1 rfl⟩
/-- a round that has written to the tails alone -/
theorem MB.done (h : MB wb b x y acts v S0 wo) {wr : World} {u8' u11 : Value} {tl' R : List (List Int)} (hI : InR S0 wo u8' u11 tl' R wr) : MP2 wb b x y u8' tl' acts wr := by
  obtain ⟨hk1, hk2⟩ := h.keep hI.chg
  obtain ⟨S2, hX, h2, d, s1, s2, hB, hb⟩ := h
  have lb := hX.lt
  obtain ⟨T1, T3, k1, k3, dd, t1, t3, hC⟩ := hI
  have zr := hC.size
  refine ⟨v, T1, ⟨S2, hk2, local_O3.chg h2 hC fun k hk hh => d k hh hk, ?_, ?_, ?_, hk1, hb⟩, k1⟩
  · intro k hk h
    rcases (t1 k hk).1 with h' | h'
    · exact d k h' h
    · have := (s2 k h).2.2; omega
  · intro k hk
    have e := (t1 k hk).2
    rcases (t1 k hk).1 with h | h
    · exact ⟨(s1 k h).1, (s1 k h).2.1, e⟩
    · have := hB.size; exact ⟨by omega, by omega, e⟩
  · intro k hk; have := s2 k hk; exact ⟨this.1, this.2.1, by omega⟩
/-- the rows are appended to the module's list -/
theorem MB.act (h : MB wb b x y acts v S0 wo) {wr : World} {u8' u11 : Value} {tl' R : List (List Int)} (hI : InR S0 wo u8' u11 tl' R wr) (hone : u11.oneCell' = true) (hn : acts.length ≤ 1000000) :
    ∃ a' c' w4, (Builtin.append_ #[24, 24] 24 #[v, .slice (some ⟨wr.heap.size, 0, none⟩) 1 1]).run Try.prog (wr.alloc (.cells #[u11] 23)) = .ok (.slice a' (acts.length + 1) c') w4 ∧
      w4.cell? ⟨b, 2, none⟩ = some v ∧ w4.frozen? ⟨b, 2, none⟩ = false ∧ MP2 wb b x y u8' tl' (acts ++ [R]) (w4.setCell ⟨b, 2, none⟩ (.slice a' (acts.length + 1) c')) := by
  obtain ⟨hk1, hk2⟩ := h.keep hI.chg
  obtain ⟨S2, hX, h2, d, s1, s2, hB, hb⟩ := h
  have lb := hX.lt
  have zb := hB.size
  obtain ⟨T1, T3, k1, k3, dd, t1, t3, hC⟩ := hI
  obtain ⟨i0, hi, hz0, hz1, hz2⟩ := info_parts Try.infoRow2
  have zr := hC.size
  have h2' : O3 wr S2 v acts := local_O3.chg h2 hC fun k hk hh => d k hh hk
  obtain ⟨v', w4, hr, hO4, hC4⟩ := run_appO local_O2 wr 24 24 i0 Try.underlying24 hi hz0 hz1 hz2 _ _ v acts h2' u11 R k3 hone (fun k hk hh => by have := (t3 k hk).1; have := (s2 k hh).2.2; omega) (by omega)
  have z4 := hC4.size
  obtain ⟨a', c', rfl, _, _⟩ := ON.form hO4
  rw [show (acts ++ [R]).length = acts.length + 1 by simp] at hr hO4
  have X4 := hk2.chg hC4 (fun hh => (s2 b hh.1).2.1 rfl)
  have T4 := local_O2.chg k1 hC4 (fun k hk hh => by
    rcases (t1 k hk).1 with h | h
    · exact d k h hh.1
    · have := (s2 k hh.1).2.2; omega)
  have nb1 : ¬ T1 b := fun hh => by
    rcases (t1 b hh).1 with h | h
    · exact (s1 b h).2.1 rfl
    · omega
  have nb2 : ¬ aft S2 T3 wr w4 b := by
    rintro (⟨h | h, _⟩ | h)
    · exact (s2 b h).2.1 rfl
    · have := (t3 b h).1; omega
    · have := h.1; omega
  refine ⟨a', c', w4, hr, X4.c2, X4.fr 2, .slice a' (acts.length + 1) c', T1, ⟨aft S2 T3 wr w4, X4.set2 _, local_O3.sets hO4 nb2 2 _, ?_, ?_, ?_, ?_, hb⟩, local_O2.sets T4 nb1 2 _⟩
  · rintro k hk (⟨h | h, _⟩ | h)
    · rcases (t1 k hk).1 with h' | h'
      · exact d k h' h
      · have := (s2 k h).2.2; omega
    · exact dd k hk h
    · have := (t1 k hk).2; have := h.1; omega
  · intro k hk
    have e := (t1 k hk).2
    refine ⟨?_, fun hb => nb1 (hb ▸ hk), by simp; omega⟩
    rcases (t1 k hk).1 with h | h
    · exact (s1 k h).1
    · omega
  · intro k hk
    refine ⟨?_, fun hb => nb2 (hb ▸ hk), ?_⟩
    · rcases hk with ⟨h | h, _⟩ | h
      · exact (s2 k h).1
      · have := (t3 k h).1; omega
      · have := h.1; omega
    · rcases hk with ⟨_, h⟩ | h
      · simp; omega
      · have := h.2; simp; omega
  · exact (hk1.trans (hC4.below (fun k hk => (s2 k hk.1).1) (by omega))).setCell (p := ⟨b, 2, none⟩) hb _
end
end Go.Proofs.Ytjnnjnhmecidmaa
