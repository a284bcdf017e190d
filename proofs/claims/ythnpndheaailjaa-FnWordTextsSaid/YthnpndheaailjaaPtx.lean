/-
  The text of a word is parsed to the word (plain part).
-/
import Derived.Test.YthnpndheaailjaaParse
namespace Go.Proofs.Ythnpndheaailjaa
set_option linter.unusedVariables false
set_option linter.unusedSimpArgs false
set_option maxRecDepth 100000
open Go.RowKit Go.PlainAid

theorem bt_str {ys : List Int} {j : Nat} (hj : j < ys.length) (h : ∀ y ∈ ys, 0 ≤ y ∧ y ≤ 255) : bt (strOfNums ys) j = ys.getD j 0 := by
  have hs : j < (strOfNums ys).size := by rw [strOfNums_size]; exact hj
  have hb := h _ (getD_mem hj)
  rw [← get_bt _ j hs]
  have e : (strOfNums ys)[j]'hs = UInt8.ofNat (ys.getD j 0).toNat := by
    have : (strOfNums ys).data.toList[j]? = some (UInt8.ofNat (ys.getD j 0).toNat) := by
      rw [strOfNums_data, List.getElem?_map, List.getElem?_eq_getElem hj]
      simp [List.getD, hj]
    have h2 : (strOfNums ys).data.toList[j]? = some ((strOfNums ys)[j]'hs) := by
      rw [List.getElem?_eq_getElem (by rw [Array.length_toList]; exact hs)]
      rfl
    rw [h2] at this
    exact Option.some.inj this
  rw [e, UInt8.toNat_ofNat']
  omega
theorem ch_bd {k x : Int} (hk : k ≤ 6) (h : letB k x = true) : 65 ≤ chI x ∧ chI x ≤ 102 ∧ ltrI (chI x) = x ∧ ((97 ≤ chI x ∧ chI x ≤ 96 + k) ∨ (65 ≤ chI x ∧ chI x ≤ 64 + k)) := by
  unfold letB at h
  simp only [Bool.and_eq_true, inB_true, bne_iff_ne, ne_eq] at h
  unfold chI ltrI
  by_cases hp : 0 < x
  · rw [if_pos hp, if_pos (by omega)]; omega
  · rw [if_neg hp, if_neg (by omega)]; omega
theorem txt_at {xs : List Int} {j : Nat} (hj : j < xs.length) : (txtL xs).getD j 0 = chI (xs.getD j 0) := by simp [txtL, List.getD, hj]
theorem prs_txt {k : Int} {xs : List Int} (hk : inB k 0 6 = true) (hw : wordB k xs = true) : prsC k (txtW xs) = 0 ∧ prsL k (txtW xs) = xs := by
  obtain ⟨hk0, hk6⟩ := inB_true.1 hk
  have hw2 : xs.all (letB k) = true ∧ xs.length ≤ 64 := by simpa [wordB] using hw
  have hl := List.all_eq_true.1 hw2.1
  by_cases h0 : xs.length = 0
  · have hx : xs = [] := List.eq_nil_of_length_eq_zero h0
    have h1 : is1 (txtW xs) = true := by rw [txtW_empty h0]; unfold is1; rw [ByteArray.toList_eq]; rfl
    obtain ⟨e1, e2⟩ := rd_one (k := k) h1
    obtain ⟨e3, e4⟩ := prs_good hk e2
    rw [e3, e4, e1, hx]
    exact ⟨rfl, rfl⟩
  · have hb : ∀ y ∈ txtL xs, 0 ≤ y ∧ y ≤ 255 := by
      intro y hy
      unfold txtL at hy
      obtain ⟨x, hx, rfl⟩ := List.mem_map.1 hy
      have := ch_bd hk6 (hl x hx)
      omega
    have hsz : (txtW xs).size = xs.length := by rw [txtW_ne h0, strOfNums_size, txtL_length]
    have hbt : ∀ j, j < xs.length → bt (txtW xs) j = chI (xs.getD j 0) := fun j hj => by
      rw [txtW_ne h0, bt_str (by rw [txtL_length]; exact hj) hb, txt_at hj]
    have h1 : is1 (txtW xs) = false := by
      cases h : is1 (txtW xs) with
      | false => rfl
      | true =>
        unfold is1 at h
        rw [beq_iff_eq] at h
        have hlen := toList_size (txtW xs)
        rw [h, hsz] at hlen
        have hlen' : xs.length = 1 := by simpa using hlen.symm
        have hb0 := hbt 0 (by omega)
        have := ch_bd hk6 (hl _ (getD_mem (xs := xs) (k := 0) (by omega)))
        have e0 : bt (txtW xs) 0 = 49 := by
          rw [← get_bt _ 0 (by rw [hsz]; omega)]
          have h2 : (txtW xs).data.toList[0]? = some ((txtW xs)[0]'(by rw [hsz]; omega)) := by
            rw [List.getElem?_eq_getElem (by have := hsz; simp only [ByteArray.size] at this; simp; omega)]
            rfl
          rw [ByteArray.toList_eq] at h
          rw [h] at h2
          have := Option.some.inj h2
          rw [← this]; rfl
        omega
    have h2 : allVB k (txtW xs) = true := allVB_true fun j hj => by
      rw [hsz] at hj
      rw [hbt j hj]
      exact (valid_imp hk0 hk6).2 (ch_bd hk6 (hl _ (getD_mem hj))).2.2.2
    obtain ⟨e1, e2⟩ := rd_good h1 h2
    have hne : (txtW xs).toList.isEmpty = false := by rw [isEmpty_size, hsz]; simpa using h0
    rw [hne] at e2
    have hlet : letsL (txtW xs) (txtW xs).size = xs := by
      rw [hsz]
      refine all_eq (letsL_length _ _) fun j hj => ?_
      rw [letsL_length] at hj
      have e : (letsL (txtW xs) xs.length).getD j 0 = ltrI (bt (txtW xs) j) := by simp [letsL, List.getD, hj]
      rw [e, hbt j hj]
      exact (ch_bd hk6 (hl _ (getD_mem hj))).2.2.1
    obtain ⟨e3, e4⟩ := prs_good hk (show rdOk k (txtW xs) = true from e2)
    have e5 := codeS_in (xs := xs) hw2.2
    rw [e3, e4, e1, hlet]
    exact e5
end Go.Proofs.Ythnpndheaailjaa
