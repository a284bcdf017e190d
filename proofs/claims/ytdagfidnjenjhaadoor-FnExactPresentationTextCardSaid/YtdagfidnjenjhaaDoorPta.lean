/-
  The text of a presentation: what it is; letters and digits; rows of strings.
-/
import Derived.Test.YtdagfidnjenjhaaDoorTriv
import Derived.Test.YtdagfidnjenjhaaDoorText
import Derived.Lib.Join
import Derived.Lib.ItoaNum
namespace Go.Proofs.YtdagfidnjenjhaaDoor
set_option linter.unusedVariables false
set_option linter.unusedSimpArgs false
set_option maxRecDepth 100000
open Go.RowKit

--== plain
abbrev Txt := List UInt8
def dg (o : Int) : Txt := Lib.decDigits o.toNat
def lt1 (i : Nat) : Txt := [UInt8.ofNat (97 + i)]
def wtx (v : List Int) : Txt := (txtW (nwL v)).data.toList
def powX (p : Pres) (i : Nat) : Txt := lt1 i ++ ([94] ++ (dg (p.r i) ++ ([61] ++ wtx (p.P i))))
def cnjX (p : Pres) (i j : Nat) : Txt := lt1 j ++ ([94] ++ (lt1 i ++ ([61] ++ wtx (p.C i j))))
def ordsT (p : Pres) (m : Nat) : List Txt := (List.range m).map fun i => dg (p.r i)
def pow1 (p : Pres) (i : Nat) : List Txt := if zeroB (p.P i) = true then [] else [powX p i]
def powsT (p : Pres) (m : Nat) : List Txt := (List.range m).flatMap (pow1 p)
def cnj1 (p : Pres) (i j : Nat) : List Txt := if p.C i j = unitL p.n j then [] else [cnjX p i j]
def cnjR (p : Pres) (i m : Nat) : List Txt := (List.range m).flatMap fun d => cnj1 p i (i + 1 + d)
def cnjsT (p : Pres) (m : Nat) : List Txt := (List.range m).flatMap fun i => cnjR p i (p.n - (i + 1))
def ordT (p : Pres) : Txt := if p.n = 0 then [49] else Lib.join (ordsT p p.n) [32]
/-- the text of a valid presentation -/
def ptx (p : Pres) : Txt := Lib.join (ordT p :: (powsT p p.n ++ cnjsT p p.n)) [59, 32]
theorem ordsT_succ (p : Pres) (m : Nat) : ordsT p (m + 1) = ordsT p m ++ [dg (p.r m)] := by simp [ordsT, List.range_succ]
theorem ordsT_len (p : Pres) (m : Nat) : (ordsT p m).length = m := by simp [ordsT]
theorem powsT_succ (p : Pres) (m : Nat) : powsT p (m + 1) = powsT p m ++ pow1 p m := by simp [powsT, List.range_succ]
theorem cnjR_succ (p : Pres) (i m : Nat) : cnjR p i (m + 1) = cnjR p i m ++ cnj1 p i (i + 1 + m) := by simp [cnjR, List.range_succ]
theorem cnjsT_succ (p : Pres) (m : Nat) : cnjsT p (m + 1) = cnjsT p m ++ cnjR p m (p.n - (m + 1)) := by simp [cnjsT, List.range_succ]
theorem joinTail_app (sep : Txt) (a b : List Txt) : Lib.joinTail sep (a ++ b) = Lib.joinTail sep a ++ Lib.joinTail sep b := by simp [Lib.joinTail]
theorem joinTail_one (sep x : Txt) : Lib.joinTail sep [x] = sep ++ x := by simp [Lib.joinTail]
theorem joinTail_nil (sep : Txt) : Lib.joinTail sep [] = [] := rfl
/-- one more element behind at least one -/
theorem join_snoc (xs : List Txt) (x sep : Txt) (h : xs ≠ []) : Lib.join (xs ++ [x]) sep = Lib.join xs sep ++ (sep ++ x) := by
  cases xs with
  | nil => exact absurd rfl h
  | cons a r => rw [List.cons_append, Lib.join_cons, Lib.join_cons, joinTail_app, joinTail_one, List.append_assoc]
theorem ptx_eq (p : Pres) : ptx p = ordT p ++ (Lib.joinTail [59, 32] (powsT p p.n) ++ Lib.joinTail [59, 32] (cnjsT p p.n)) := by
  unfold ptx
  rw [Lib.join_cons, joinTail_app]
theorem ba_app (a b : ByteArray) : (a ++ b).data.toList = a.data.toList ++ b.data.toList := by simp [ByteArray.data_append]
theorem ba_of (l : Txt) : (⟨l.toArray⟩ : ByteArray).data.toList = l := by simp
theorem ba_ext {a b : ByteArray} (h : a.data.toList = b.data.toList) : a = b := by
  cases a; cases b
  congr 1
  exact Array.toList_inj.1 h
theorem dg_small {o : Int} (h0 : 0 ≤ o) (h1 : o < 10) : dg o = [UInt8.ofNat (48 + o.toNat)] := by
  unfold dg Lib.decDigits
  rw [dif_pos (by omega)]
theorem dg_str {o : Int} (h0 : 0 ≤ o) (h1 : o < 10) : (strOfNums [48 + o]).data.toList = dg o := by
  rw [dg_small h0 h1, strOfNums_data, List.map_cons, List.map_nil, show (48 + o).toNat = 48 + o.toNat by omega]
theorem lt_str (k : Nat) : (txtW [(k : Int) + 1]).data.toList = lt1 k := by
  rw [txtW_ne (by simp), strOfNums_data]
  unfold lt1 txtL chI
  rw [List.map_cons, List.map_nil, List.map_cons, List.map_nil, if_pos (by omega), show (96 + ((k : Int) + 1)).toNat = 97 + k by omega]
--== rows of strings
theorem Tryd.infoStr : (Tryd.prog.info? 9).map (fun i => (i.zero, i.size, i.bytes)) = some (some (.string ⟨#[]⟩), 1, 16) := by kernel_rfl
def Strs (w : World) (B : Nat) (v : Value) (ss : List ByteArray) : Prop := w.ownsRow B 9 1 v ss.length (ss.map Value.string)
theorem Strs.nil (w : World) (B : Nat) : Strs w B (.slice none 0 0) [] := World.ownsRow_nil _ _ _ _
theorem Strs.one (w : World) (s : ByteArray) : Strs (w.alloc (.cells #[.string s] 9)) w.heap.size (.slice (some ⟨w.heap.size, 0, none⟩) 1 1) [s] :=
  ⟨rfl, .inr ⟨w.heap.size, 1, #[.string s], rfl, Nat.le_refl _, heap_alloc_new w _, by simp, by simp [maxLen], by simp, by simp⟩⟩
theorem Strs.form {w : World} {B : Nat} {v : Value} {ss : List ByteArray} (h : Strs w B v ss) : ∃ a c, v = .slice a ss.length c ∧ ss.length ≤ c := by
  rcases h.2 with ⟨rfl, h0⟩ | ⟨g, cap, cur, rfl, _, _, hn, _⟩
  · exact ⟨none, 0, by rw [h0], by omega⟩
  · exact ⟨_, cap, rfl, hn⟩
theorem Strs.formN {w : World} {B : Nat} {v : Value} {ss : List ByteArray} (h : Strs w B v ss) {n : Nat} (e : ss.length = n) : ∃ a c, v = .slice a n c ∧ n ≤ c := e ▸ h.form
theorem Strs.below {w w' : World} {B : Nat} {v : Value} {ss : List ByteArray} (h : Strs w B v ss) (hb : Below w.heap.size w w') : Strs w' B v ss := own_below h hb
theorem Strs.at {w : World} {B : Nat} {a : Option Addr} {n c : Nat} {ss : List ByteArray} (h : Strs w B (.slice a n c) ss) {j : Nat} {s : ByteArray} (hj : ss[j]? = some s) : ∃ g, a = some ⟨g, 0, none⟩ ∧ B ≤ g ∧ g < w.heap.size ∧ w.cell? ⟨g, j, none⟩ = some (.string s) := by
  have hlt : j < ss.length := (List.getElem?_eq_some_iff.1 hj).1
  have h' : w.ownsRow B 9 1 (.slice a n c) ss.length (ss.map Value.string) := h
  rcases h.2 with ⟨_, h0⟩ | ⟨g, cap, cur, he, hB, hg, _⟩
  · omega
  · simp only [Value.slice.injEq] at he
    obtain ⟨rfl, rfl, rfl⟩ := he
    refine ⟨g, rfl, hB, (own_lt h' rfl).2, ?_⟩
    rw [h'.cellAt j (by omega), List.getElem?_map, hj]; rfl
theorem run_appStr (w : World) (B : Nat) (v : Value) (ss : List ByteArray) (hown : Strs w B v ss) (s : ByteArray) (hn : ss.length ≤ 100000000) (hB : B ≤ w.heap.size) :
    ∃ v' w', (Builtin.append_ #[56, 56] 56 #[v, .slice (some ⟨w.heap.size, 0, none⟩) 1 1]).run Tryd.prog (w.alloc (.cells #[.string s] 9)) = .ok v' w' ∧ Strs w' B v' (ss ++ [s]) ∧ Below B w w' := by
  obtain ⟨i0, hi, hz0, hz1, hz2⟩ := info_parts Tryd.infoStr
  obtain ⟨v', w', hr, h1, h2, h3⟩ := run_app (w.alloc (.cells #[.string s] 9)) B 56 56 9 i0 _ 16 Tryd.underlying56 hi hz0 hz1 hz2 rfl v ss.length (ss.map Value.string) (World.ownsRow.alloc hown _)
    (.slice (some ⟨w.heap.size, 0, none⟩) 1 1) [.string s]
    ⟨_, 1, rfl, by simp, by simp, fun h => by (cases h), .inr ⟨w.heap.size, 0, rfl, fun j hj => by
      obtain rfl : j = 0 := by simpa using hj
      simp⟩⟩ (fun y hy => by simp at hy; subst hy; rfl) (by simp [maxLen]; omega) (by simp; omega) (by simp; omega)
  have hg : Grew w w' v v' := ⟨⟨h2.os, h2.tape, h2.output, by have := h2.size; simp at this; omega, fun k hk hne => (h2.block k (by simp; omega) hne).trans (Below.heap_alloc w _ k hk)⟩, fun g hg => (h3 g hg).imp id fun h => by simp at h; omega⟩
  refine ⟨v', w', hr, ?_, hg.below hB fun g hg => (World.ownsRow.lt hown g hg).1⟩
  unfold Strs
  rw [List.length_append, List.map_append]
  exact h1
--== spec.l01Dec
set_option maxHeartbeats 1000000 in
theorem s_l01Dec1 (o : Int) (w : World) (h0 : 0 ≤ o) (h1 : o < 10) : Calls Tryd.prog 25 #[.int .i64 o] w fun e w' => ∃ s, e = .returned (.string s) ∧ s.data.toList = dg o ∧ Below w.heap.size w w' := by
  have HD := Lib.hid (dg_str h0 h1)
  have hb : U8s (w.alloc (.cells #[.int .u8 (48 + o)] 5)) w.heap.size (.slice (some ⟨w.heap.size, 0, none⟩) 1 1) [48 + o] :=
    ⟨rfl, .inr ⟨w.heap.size, 1, #[.int .u8 (48 + o)], rfl, Nat.le_refl _, heap_alloc_new w _, by simp, by simp [maxLen], by simp, by simp⟩⟩
  have HB := Lib.hid hb
  have hB5 := below_alloc w (Obj.cells #[.int .u8 (48 + o)] 5)
  go_enter Tryd.func25, Tryd.ntmps25
  go_wp2_with (with_reducible refine wp_b2s _ rfl _ rfl Tryd.underlying60 Tryd.underlying5 Tryd.underlying9 _ _ _ rfl hb ?_)
  go_ret
  exact ⟨_, rfl, HD.out, hB5⟩
--== spec.l07Letter
set_option maxHeartbeats 1000000 in
theorem s_l07Letter (k : Nat) (w : World) (hk : k ≤ 6) : Calls Tryd.prog 27 #[.int .i64 k] w fun e w' => ∃ s, e = .returned (.string s) ∧ s.data.toList = lt1 k ∧ Below w.heap.size w w' := by
  have HD := Lib.hid (lt_str k)
  have HR : Hid (Rd (w.alloc (.cells #[.int .i64 ((k : Int) + 1)] 2)) (.slice (some ⟨w.heap.size, 0, none⟩) 1 1) [(k : Int) + 1]) :=
    ⟨_, 1, rfl, by simp, by simp, fun h => by (cases h), .inr ⟨w.heap.size, 0, rfl, fun j hj => by
      obtain rfl : j = 0 := by simpa using hj
      simp⟩⟩
  go_enter Tryd.func27, Tryd.ntmps27
  go_wp2_with fail
  refine (s_l06Text _ [(k : Int) + 1] _ HR.out (by simp) (fun x hx => by simp at hx; omega)).mono ?_
  rintro e w5 ⟨rfl, hB⟩
  have hB5 := below_size (below_alloc w (Obj.cells #[.int .i64 ((k : Int) + 1)] 2)) hB
  clear hB
  go_wp2_with fail
  go_ret
  exact ⟨_, rfl, HD.out, hB5⟩
--== impl.letterOf
set_option maxHeartbeats 1000000 in
theorem i_letterOf (k : Nat) (w : World) (hk : k ≤ 5) : Calls Tryd.prog 37 #[.int .i64 k] w fun e w' => ∃ s, e = .returned (.string s) ∧ s.data.toList = lt1 k ∧ w = w' := by
  rcases (show k = 0 ∨ k = 1 ∨ k = 2 ∨ k = 3 ∨ k = 4 ∨ k = 5 by omega) with rfl | rfl | rfl | rfl | rfl | rfl
  all_goals
    go_enter Tryd.func37, Tryd.ntmps37
    go_wp2_with fail
    go_ret
    exact ⟨_, rfl, by decide, rfl⟩
--== end
end Go.Proofs.YtdagfidnjenjhaaDoor
