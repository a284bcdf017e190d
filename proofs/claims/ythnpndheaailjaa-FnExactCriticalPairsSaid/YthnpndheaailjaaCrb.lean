/-
  Lists of critical pairs that a call owns: rows of three cells; what reads; the append of one.
-/
import Derived.Test.YthnpndheaailjaaCra
import Derived.Test.YthnpndheaailjaaRow
namespace Go.Proofs.Ythnpndheaailjaa
set_option linter.unusedVariables false
set_option linter.unusedSimpArgs false
set_option maxRecDepth 100000
open Go.RowKit

--== plain
theorem own_rebase {w : World} {B B' e n s : Nat} {v : Value} {vs : List Value} (h : w.ownsRow B e s v n vs) (hB : B' ≤ B) : w.ownsRow B' e s v n vs := by
  refine ⟨h.1, h.2.imp id ?_⟩
  rintro ⟨g, cap, cur, h1, h2, h3⟩
  exact ⟨g, cap, cur, h1, Nat.le_trans hB h2, h3⟩
theorem own_keepS {w w' : World} {B e n s : Nat} {v : Value} {vs : List Value} (h : w.ownsRow B e s v n vs) (hb : ∀ g, v.ownBlock = some g → w'.heap[g]? = w.heap[g]?) : w'.ownsRow B e s v n vs := by
  refine ⟨h.1, h.2.imp id ?_⟩
  rintro ⟨g, cap, cur, rfl, h2, h3, h4⟩
  exact ⟨g, cap, cur, rfl, h2, (hb g rfl).trans h3, h4⟩
/-- an append of whole elements of any size, onto a row that the call owns -/
theorem run_appS {P : Program} (w : World) (B : Nat) (t ty e : TypeId) (i : TypeInfo) (z : Value) (size bytes : Nat) (ht : P.underlying t = some (.slice e)) (hi : P.info? e = some i) (hz : i.zero = some z)
    (hsize : i.size = size) (hby : i.bytes = bytes) (hzs : z.cells.size = size) (hsz : 0 < size) (v : Value) (n : Nat) (xs : List Value) (hown : w.ownsRow B e size v n xs)
    (ad : Addr) (m c : Nat) (news : List Value) (hl : news.length = m * size) (hnews : ∀ j u, news[j]? = some u → w.cell? (ad.add j) = some u) (h1 : ∀ u ∈ news, u.oneCell' = true) (h63 : n + m ≤ maxLen) (hbytes : (n + m) * bytes ≤ 140737488355328) (hB : B ≤ w.heap.size) :
    ∃ v' w', (Builtin.append_ #[t, t] ty #[v, .slice (some ad) m c]).run P w = .ok v' w' ∧ w'.ownsRow B e size v' (n + m) (xs ++ news) ∧ w.grownBy w' v.ownBlock ∧ ∀ g, v'.ownBlock = some g → v.ownBlock = some g ∨ w.heap.size ≤ g := by
  rcases hown.2 with ⟨rfl, rfl⟩ | ⟨g, cap, cur, rfl, hbg, hg, hnc, hcm, hcs, htake⟩
  · obtain ⟨v', w', h2, h3, h4, h5⟩ := run_append_own w B t ty e i z size bytes ht hi hz hsize hby hzs hsz _ 0 xs hown ad m c news hl hnews h1 h63 hbytes hB
    obtain ⟨v'', w'', h2', h3', h4', h5'⟩ := run_append_own w w.heap.size t ty e i z size bytes ht hi hz hsize hby hzs hsz _ 0 xs ⟨hown.1, .inl ⟨rfl, rfl⟩⟩ ad m c news hl hnews h1 h63 hbytes (Nat.le_refl _)
    rw [h2] at h2'
    obtain ⟨rfl, rfl⟩ : v' = v'' ∧ w' = w'' := by simpa using h2'
    exact ⟨v', w', h2, h3, h4, fun k hk => .inr (h3'.lt k hk).1⟩
  · by_cases hroom : n + m ≤ cap
    · obtain ⟨w', h2, h3, h4⟩ := run_append_fits w B t ty e i size ht hi hsize g n cap xs hown ad m c news hl hnews h1 hroom
      exact ⟨_, w', h2, h3, h4, moved_same rfl⟩
    · have holds : ∀ j u, xs[j]? = some u → w.cell? ((⟨g, 0, none⟩ : Addr).add j) = some u := hown.cells (g := g) rfl
      obtain ⟨v', w', h2, h3, h4⟩ := run_append_arg_grows w t ty e i z size bytes ht hi hz hsize hby hzs hsz ⟨g, 0, none⟩ n cap xs hown.1 holds ad m c news hl hnews (by omega) h63 hbytes
      exact ⟨v', w', h2, own_rebase h3 hB, ⟨h4.os, h4.tape, h4.output, h4.size, fun k hk _ => h4.block k hk (by simp)⟩, fun k hk => .inr (h3.lt k hk).1⟩
theorem gapp_at {β : Type} (l m : List β) (j : Nat) (d : β) : (l ++ m).getD (l.length + j) d = m.getD j d := by rw [List.getD_eq_getElem?_getD, List.getElem?_append_right (by omega), Nat.add_sub_cancel_left, ← List.getD_eq_getElem?_getD]
def pick3 (n : Nat) (A : Nat → Nat → Prop) (P0 P1 P2 : Nat → Prop) (j : Nat) : Nat → Prop := if j < n * 3 then A j else if j = n * 3 + 0 then P0 else if j = n * 3 + 1 then P1 else P2
theorem pick3_lt {n : Nat} {A : Nat → Nat → Prop} {P0 P1 P2 : Nat → Prop} {j : Nat} (h : j < n * 3) : pick3 n A P0 P1 P2 j = A j := if_pos h
theorem pick3_0 {n : Nat} {A : Nat → Nat → Prop} {P0 P1 P2 : Nat → Prop} : pick3 n A P0 P1 P2 (n * 3 + 0) = P0 := by unfold pick3; rw [if_neg (by omega), if_pos rfl]
theorem pick3_1 {n : Nat} {A : Nat → Nat → Prop} {P0 P1 P2 : Nat → Prop} : pick3 n A P0 P1 P2 (n * 3 + 1) = P1 := by unfold pick3; rw [if_neg (by omega), if_neg (by omega), if_pos rfl]
theorem pick3_2 {n : Nat} {A : Nat → Nat → Prop} {P0 P1 P2 : Nat → Prop} : pick3 n A P0 P1 P2 (n * 3 + 2) = P2 := by unfold pick3; rw [if_neg (by omega), if_neg (by omega), if_neg (by omega)]
theorem cases3 {n j : Nat} (h : j < (n + 1) * 3) : j < n * 3 ∨ j = n * 3 + 0 ∨ j = n * 3 + 1 ∨ j = n * 3 + 2 := by omega
--== pairs
theorem Try.infoCp : (Try.prog.info? 127).map (fun i => (i.zero, i.size, i.bytes)) = some (some (.agg #[.slice none 0 0, .slice none 0 0, .slice none 0 0]), 3, 72) := by kernel_rfl
theorem Try.underCp : Try.prog.underlying 76 = some (.slice 127) := by kernel_rfl
/-- n critical pairs, whose 3 n parts read as F -/
def RT (w : World) (v : Value) (n : Nat) (F : List (List Int)) : Prop :=
  ∃ (ao : Option Addr) (cap : Nat), v = .slice ao n cap ∧ n ≤ cap ∧ cap ≤ 9223372036854775807 ∧ F.length = n * 3 ∧ (n = 0 ∨ ∃ b off, ao = some ⟨b, off, none⟩ ∧ ∀ j, j < n * 3 → ∃ r, w.cell? ⟨b, off + j, none⟩ = some r ∧ Rd w r (F.getD j []))
theorem RT.of_cells {w w' : World} {v : Value} {n : Nat} {F : List (List Int)} (h : RT w v n F) (hc : ∀ a u, w.cell? a = some u → w'.cell? a = some u) : RT w' v n F := by
  obtain ⟨ao, cap, h1, h2, h3, h4, h5⟩ := h
  refine ⟨ao, cap, h1, h2, h3, h4, h5.imp id ?_⟩
  rintro ⟨b, off, e, h6⟩
  exact ⟨b, off, e, fun j hj => by
    obtain ⟨r, h7, h8⟩ := h6 j hj
    exact ⟨r, hc _ _ h7, h8.of_cells hc⟩⟩
theorem RT.below {w w' : World} {v : Value} {n : Nat} {F : List (List Int)} (h : RT w v n F) (hb : Below w.heap.size w w') : RT w' v n F := h.of_cells (below_cells hb)
theorem RT.form {w : World} {v : Value} {n : Nat} {F : List (List Int)} (h : RT w v n F) : ∃ a c, v = .slice a n c ∧ n ≤ c ∧ c ≤ 9223372036854775807 := by
  obtain ⟨ao, cap, h1, h2, h3, _⟩ := h; exact ⟨ao, cap, h1, h2, h3⟩
/-- the three parts of pair i -/
theorem RT.at {w : World} {ao : Option Addr} {cap n : Nat} {F : List (List Int)} (h : RT w (.slice ao n cap) n F) {i : Nat} (hi : i < n) :
    ∃ b off, ao = some ⟨b, off, none⟩ ∧ ∀ j, j < 3 → ∃ r, w.cell? ⟨b, off + i * 3 + j, none⟩ = some r ∧ Rd w r (F.getD (i * 3 + j) []) := by
  obtain ⟨ao', cap', h1, h2, h3, h4, h5⟩ := h
  simp only [Value.slice.injEq] at h1
  obtain ⟨rfl, _, rfl⟩ := h1
  rcases h5 with h5 | ⟨b, off, e, h6⟩
  · omega
  · refine ⟨b, off, e, fun j hj => ?_⟩
    obtain ⟨r, h7, h8⟩ := h6 (i * 3 + j) (by omega)
    rw [← Nat.add_assoc] at h7
    exact ⟨r, h7, h8⟩
/-- n critical pairs that the call owns, in blocks of S -/
def OT (w : World) (S : Nat → Prop) (v : Value) (n : Nat) (F : List (List Int)) : Prop :=
  ∃ (vs : List Value) (T : Nat → Nat → Prop), w.ownsRow 0 127 3 v n vs ∧ F.length = n * 3 ∧ BlkS v S ∧
    (∀ i, i < n * 3 → (∀ k, T i k → S k) ∧ O1 w (T i) (vs.getD i undef) (F.getD i [])) ∧
    (∀ i, i < n * 3 → ∀ g, v.ownBlock = some g → ¬ T i g) ∧
    (∀ i j, i < n * 3 → j < n * 3 → i ≠ j → ∀ k, T i k → ¬ T j k)
theorem OT.nil (w : World) (S : Nat → Prop) : OT w S (.slice none 0 0) 0 [] :=
  ⟨[], fun _ _ => False, World.ownsRow_nil _ _ _ _, rfl, fun g hg => by simp [Value.ownBlock] at hg, fun i hi => by omega, fun i hi => by omega, fun i j hi => by omega⟩
theorem OT.new (w : World) : OT (w.alloc (Obj.cells #[] 127)) (fun k => k = w.heap.size) (.slice (some ⟨w.heap.size, 0, none⟩) 0 0) 0 [] :=
  ⟨[], fun _ _ => False, ⟨rfl, .inr ⟨w.heap.size, 0, #[], rfl, Nat.zero_le _, heap_alloc_new w _, Nat.le_refl _, by simp [maxLen], rfl, rfl⟩⟩, rfl, fun g hg => by
    obtain rfl : w.heap.size = g := by simpa [Value.ownBlock] using hg
    rfl, fun i hi => by omega, fun i hi => by omega, fun i j hi => by omega⟩
theorem OT.loc {w w' : World} {S : Nat → Prop} {v : Value} {n : Nat} {F : List (List Int)} (h : OT w S v n F) (hb : ∀ k, S k → k < w.heap.size → w'.heap[k]? = w.heap[k]?) : OT w' S v n F := by
  obtain ⟨vs, T, h1, h0, h2, h3, h4, h5⟩ := h
  exact ⟨vs, T, own_keepS h1 fun g hg => hb g (h2 g hg) (World.ownsRow.lt h1 g hg).2, h0, h2, fun i hi => ⟨(h3 i hi).1, local_O1.loc (h3 i hi).2 fun k hk1 hk3 => hb k ((h3 i hi).1 k hk1) hk3⟩, h4, h5⟩
theorem OT.mono {w : World} {S S' : Nat → Prop} {v : Value} {n : Nat} {F : List (List Int)} (h : OT w S v n F) (h1 : ∀ k, k < w.heap.size → S k → S' k) : OT w S' v n F := by
  obtain ⟨vs, T, k1, k0, k2, k3, k4, k5⟩ := h
  exact ⟨vs, fun i k => T i k ∧ k < w.heap.size, k1, k0, fun g hg => h1 g (World.ownsRow.lt k1 g hg).2 (k2 g hg), fun i hi => ⟨fun k hk => h1 k hk.2 ((k3 i hi).1 k hk.1), local_O1.mono (k3 i hi).2 fun k hk1 hk2 => ⟨hk2, hk1⟩⟩,
    fun i hi g hg ht => k4 i hi g hg ht.1, fun i j hi hj hij k ht ht' => k5 i j hi hj hij k ht.1 ht'.1⟩
theorem OT.below {w w' : World} {S : Nat → Prop} {v : Value} {n : Nat} {F : List (List Int)} (h : OT w S v n F) (hb : Below w.heap.size w w') : OT w' S v n F := h.loc fun k _ hk => hb.block k hk
theorem OT.chg {w w' : World} {S T : Nat → Prop} {v : Value} {n : Nat} {F : List (List Int)} (h : OT w S v n F) (hc : ChgS T w w') (hd : ∀ k, S k → ¬ T k) : OT w' S v n F := h.loc fun k h1 hk => hc.block k hk (hd k h1)
theorem OT.rt {w : World} {S : Nat → Prop} {v : Value} {n : Nat} {F : List (List Int)} (h : OT w S v n F) : RT w v n F := by
  obtain ⟨vs, T, h1, h0, h2, h3, h4, h5⟩ := h
  have hvl : vs.length = n * 3 := h1.1
  have h1' := h1
  rcases h1'.2 with ⟨rfl, rfl⟩ | ⟨g, cap, cur, rfl, hb, hg, hnc, hcm, hcs, htake⟩
  · exact ⟨none, 0, rfl, Nat.le_refl _, by omega, h0, .inl rfl⟩
  · refine ⟨_, cap, rfl, hnc, by unfold maxLen at hcm; omega, h0, .inr ⟨g, 0, rfl, fun j hj => ⟨vs.getD j undef, ?_, (h3 j hj).2.rd⟩⟩⟩
    rw [Nat.zero_add, h1.cellAt j hj, List.getD, List.getElem?_eq_getElem (by omega)]; rfl
/-- 'append(out, pair)': the pair's parts lie in blocks of X -/
theorem run_appT (w : World) {S X T1 T2 T3 : Nat → Prop} {v x1 x2 x3 : Value} {n : Nat} {F : List (List Int)} {f1 f2 f3 : List Int} (h : OT w S v n F) (h1 : O1 w T1 x1 f1) (h2 : O1 w T2 x2 f2) (h3 : O1 w T3 x3 f3)
    (s1 : ∀ k, T1 k → X k) (s2 : ∀ k, T2 k → X k) (s3 : ∀ k, T3 k → X k) (d12 : ∀ k, T1 k → ¬ T2 k) (d13 : ∀ k, T1 k → ¬ T3 k) (d23 : ∀ k, T2 k → ¬ T3 k) (hd : ∀ k, X k → ¬ S k)
    (o1 : x1.oneCell' = true) (o2 : x2.oneCell' = true) (o3 : x3.oneCell' = true) (hn : n ≤ 1000000) :
    ∃ v' w', (Builtin.append_ #[76, 76] 76 #[v, .slice (some ⟨w.heap.size, 0, none⟩) 1 1]).run Try.prog (w.alloc (.cells #[x1, x2, x3] 127)) = .ok v' w' ∧
      OT w' (aft S X w w') v' (n + 1) (F ++ [f1, f2, f3]) ∧ ChgS S w w' := by
  obtain ⟨i0, hi, hz0, hz1, hz2⟩ := info_parts Try.infoCp
  obtain ⟨vs, T, k1, k0, k2, k3, k4, k5⟩ := h
  have hvl : vs.length = n * 3 := k1.1
  obtain ⟨v', w', hr, g1, g2, g3⟩ := run_appS (w.alloc (.cells #[x1, x2, x3] 127)) 0 76 76 127 i0 _ 3 72 Try.underCp hi hz0 hz1 hz2 rfl (by decide) v n vs (World.ownsRow.alloc k1 _)
    ⟨w.heap.size, 0, none⟩ 1 1 [x1, x2, x3] rfl (fun j u hj => by
      have hj3 : j < 3 := (List.getElem?_eq_some_iff.1 hj).1
      rw [Addr.add_lit, Nat.zero_add]
      simp only [World.cell?_alloc_at]
      rw [← hj]
      rcases (show j = 0 ∨ j = 1 ∨ j = 2 by omega) with rfl | rfl | rfl <;> rfl)
    (fun u hu => by
      simp only [List.mem_cons, List.not_mem_nil, or_false] at hu
      rcases hu with rfl | rfl | rfl
      · exact o1
      · exact o2
      · exact o3) (by simp [maxLen]; omega) (by omega) (Nat.zero_le _)
  have hG : Grew w w' v v' := ⟨⟨g2.os, g2.tape, g2.output, by have := g2.size; simp at this; omega, fun k hk hne => (g2.block k (by simp; omega) hne).trans (Below.heap_alloc w _ k hk)⟩, fun g hg => (g3 g hg).imp id fun h => by simp at h; omega⟩
  have hsz := hG.grown.size
  have keep : ∀ (A : Nat → Prop) (u : Value) (c : List Int), O1 w A u c → (∀ g, v.ownBlock = some g → ¬ A g) → O1 w' (fun k => A k ∧ k < w.heap.size) u c := fun A u c hu hd' =>
    local_O1.loc (local_O1.cut hu) fun k hk1 hk3 => hG.grown.block k hk3 fun e => hd' k e.symm hk1.1
  have hvX : ∀ g, v.ownBlock = some g → ¬ X g := fun g hg ht => hd g ht (k2 g hg)
  refine ⟨v', w', hr, ⟨vs ++ [x1, x2, x3], pick3 n (fun j k => T j k ∧ k < w.heap.size) (fun k => T1 k ∧ k < w.heap.size) (fun k => T2 k ∧ k < w.heap.size) (fun k => T3 k ∧ k < w.heap.size), g1, by simp [k0]; omega, fun g hg => ?_, fun j hj => ?_, fun j hj g hg => ?_, fun j k hj hk hjk => ?_⟩, ChgS.of_grew hG fun g hg => k2 g hg⟩
  · have hlt := World.ownsRow.lt g1 g hg
    rcases hG.moved g hg with hm | hm
    · exact .inl ⟨.inl (k2 g hm), (World.ownsRow.lt k1 g hm).2⟩
    · exact .inr ⟨hm, hlt.2⟩
  · have e1 : ∀ t, (vs ++ [x1, x2, x3]).getD (n * 3 + t) undef = [x1, x2, x3].getD t undef := fun t => by rw [← hvl]; exact gapp_at _ _ _ _
    have e2 : ∀ t, (F ++ [f1, f2, f3]).getD (n * 3 + t) [] = [f1, f2, f3].getD t [] := fun t => by rw [← k0]; exact gapp_at _ _ _ _
    rcases cases3 hj with hjl | rfl | rfl | rfl
    · rw [pick3_lt hjl, gapp_left _ _ _ _ (by omega), gapp_left _ _ _ _ (by omega)]
      have := k3 j hjl
      exact ⟨fun k hk => .inl ⟨.inl (this.1 k hk.1), hk.2⟩, keep _ _ _ this.2 fun g hg => k4 j hjl g hg⟩
    · rw [pick3_0, e1, e2]
      exact ⟨fun k hk => .inl ⟨.inr (s1 k hk.1), hk.2⟩, keep _ _ _ h1 fun g hg hh => hvX g hg (s1 g hh)⟩
    · rw [pick3_1, e1, e2]
      exact ⟨fun k hk => .inl ⟨.inr (s2 k hk.1), hk.2⟩, keep _ _ _ h2 fun g hg hh => hvX g hg (s2 g hh)⟩
    · rw [pick3_2, e1, e2]
      exact ⟨fun k hk => .inl ⟨.inr (s3 k hk.1), hk.2⟩, keep _ _ _ h3 fun g hg hh => hvX g hg (s3 g hh)⟩
  · rcases cases3 hj with hjl | rfl | rfl | rfl
    · rw [pick3_lt hjl]
      rcases hG.moved g hg with hm | hm
      · exact fun hh => k4 j hjl g hm hh.1
      · exact fun hh => by have := hh.2; omega
    · rw [pick3_0]
      rcases hG.moved g hg with hm | hm
      · exact fun hh => hvX g hm (s1 g hh.1)
      · exact fun hh => by have := hh.2; omega
    · rw [pick3_1]
      rcases hG.moved g hg with hm | hm
      · exact fun hh => hvX g hm (s2 g hh.1)
      · exact fun hh => by have := hh.2; omega
    · rw [pick3_2]
      rcases hG.moved g hg with hm | hm
      · exact fun hh => hvX g hm (s3 g hh.1)
      · exact fun hh => by have := hh.2; omega
  · have sT : ∀ i, i < n * 3 → ∀ k, T i k → ¬ X k := fun i hi k hk hx => hd k hx ((k3 i hi).1 k hk)
    rcases cases3 hj with a | rfl | rfl | rfl <;> rcases cases3 hk with b | rfl | rfl | rfl
    · rw [pick3_lt a, pick3_lt b]; exact fun x hx hx' => k5 j k a b hjk x hx.1 hx'.1
    · rw [pick3_lt a, pick3_0]; exact fun x hx hx' => sT j a x hx.1 (s1 x hx'.1)
    · rw [pick3_lt a, pick3_1]; exact fun x hx hx' => sT j a x hx.1 (s2 x hx'.1)
    · rw [pick3_lt a, pick3_2]; exact fun x hx hx' => sT j a x hx.1 (s3 x hx'.1)
    · rw [pick3_0, pick3_lt b]; exact fun x hx hx' => sT k b x hx'.1 (s1 x hx.1)
    · exact absurd rfl hjk
    · rw [pick3_0, pick3_1]; exact fun x hx hx' => d12 x hx.1 hx'.1
    · rw [pick3_0, pick3_2]; exact fun x hx hx' => d13 x hx.1 hx'.1
    · rw [pick3_1, pick3_lt b]; exact fun x hx hx' => sT k b x hx'.1 (s2 x hx.1)
    · rw [pick3_1, pick3_0]; exact fun x hx hx' => d12 x hx'.1 hx.1
    · exact absurd rfl hjk
    · rw [pick3_1, pick3_2]; exact fun x hx hx' => d23 x hx.1 hx'.1
    · rw [pick3_2, pick3_lt b]; exact fun x hx hx' => sT k b x hx'.1 (s3 x hx.1)
    · rw [pick3_2, pick3_0]; exact fun x hx hx' => d13 x hx'.1 hx.1
    · rw [pick3_2, pick3_1]; exact fun x hx hx' => d23 x hx'.1 hx.1
    · exact absurd rfl hjk
--== end
end Go.Proofs.Ythnpndheaailjaa
