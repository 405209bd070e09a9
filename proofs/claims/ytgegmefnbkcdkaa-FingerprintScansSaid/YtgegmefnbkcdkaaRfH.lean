/- Plain facts that tie the reference's directory to the program's. No program in sight. -/
import Derived.Test.YtgegmefnbkcdkaaRfG
namespace Go.Proofs.Ytgegmefnbkcdkaa
open Go.RowKit
theorem gap_ex : ∀ (l : List Int) (m : Int), l.Pairwise (· < ·) → (∀ x ∈ l, m ≤ x) → ∃ k : Nat, gapP l m = m + k ∧ k ≤ l.length ∧ (∀ j, (hj : j < l.length) → j < k → l[j] = m + j) ∧ ∀ h : k < l.length, m + k < l[k]
  | [], m, _, _ => ⟨0, by simp [gapP], by simp, by simp, by simp⟩
  | x :: l, m, hs, hm => by
    rw [List.pairwise_cons] at hs
    simp only [gapP]
    by_cases e : x = m
    · subst e
      obtain ⟨k, h1, h2, h3, h4⟩ := gap_ex l (x + 1) hs.2 (fun y hy => by have := hs.1 y hy; omega)
      refine ⟨k + 1, by rw [if_pos rfl, h1]; omega, by simp; exact h2, fun j hj hjk => ?_, fun h => ?_⟩
      · cases j with
        | zero => simp
        | succ j =>
          simp only [List.getElem_cons_succ]
          rw [h3 j (by simpa using hj) (by omega)]; omega
      · simp only [List.getElem_cons_succ]
        have := h4 (by simpa using h)
        omega
    · refine ⟨0, by rw [if_neg e]; omega, by simp, fun j _ h => absurd h (by omega), fun _ => ?_⟩
      have := hm x (by simp)
      simp only [List.getElem_cons_zero]
      omega
/-- The place of the new file. -/
theorem gap_of {fs : FS} (hi : Inv fs) : ∃ k : Nat, Gap fs.F k ∧ freeP fs.p.F = (k : Int) + 1 ∧ ∀ h : k < fs.F.length, (k : Int) + 1 < fs.F[k].ino := by
  obtain ⟨h1, h2⟩ := inos_pos hi
  obtain ⟨k, h3, h4, h5, h6⟩ := gap_ex _ 1 h1 h2
  have hl : k ≤ fs.F.length := by simpa using h4
  have hj : ∀ j, (hj : j < fs.F.length) → j < k → fs.F[j].ino = (j : Int) + 1 := fun j hj hjk => by
    have := h5 j (by simpa using hj) hjk
    simp only [List.getElem_map] at this
    omega
  have hk : ∀ h : k < fs.F.length, (k : Int) + 1 < fs.F[k].ino := fun h => by
    have := h6 (by simpa using h)
    simp only [List.getElem_map] at this
    omega
  have hg : Gap fs.F k := ⟨hl, hj, fun h => by have := hk h; omega⟩
  exact ⟨k, hg, free_gap hg, hk⟩
theorem insAt_gap {fs : FS} (hi : Inv fs) {k p : Nat} (hg : Gap fs.F k) (hk : ∀ h : k < fs.F.length, (k : Int) + 1 < fs.F[k].ino) {t : Fi} (ht : t.ino = (k : Int) + 1) (h : InsAt fs.F t p) : putAt fs.F t p = putFile fs.F k t := by
  obtain ⟨hp, h1, h2⟩ := h
  have e : p = k := by
    rcases Nat.lt_trichotomy p k with hlt | rfl | hgt
    · have hpl : p < fs.F.length := by have := hg.1; omega
      have a := h1 p (Nat.le_refl _) hpl
      have b := hg.2.1 p hpl hlt
      omega
    · rfl
    · have hkl : k < fs.F.length := by omega
      have a := h2 (by omega) (by omega)
      have b := hk hkl
      rcases Nat.eq_or_lt_of_le (show k ≤ p - 1 by omega) with e | e
      · have : fs.F[p - 1].ino = fs.F[k].ino := by congr 1; exact getElem_congr_idx e.symm
        omega
      · have := List.pairwise_iff_getElem.1 hi.f k (p - 1) hkl (by omega) e
        omega
  subst e
  unfold putAt putFile
  obtain ⟨ino, dv, data, cp, wh, left⟩ := t
  simp only at ht
  rw [ht]
theorem insN_put {M : List Nm} (hs : NSrt M) {s : ByteArray} (hne : ∀ n ∈ M, n.nm ≠ s) {p : Nat} (h : InsN M s p) (i : Int) : putNm M ⟨s, i⟩ p = putName M ⟨s, i⟩ := by
  obtain ⟨hp, h1, h2⟩ := h
  have hlow : ∀ n ∈ M.take p, decide (lb n.nm < lb s) = true := fun n hn => by
    obtain ⟨j, hj, rfl⟩ := List.getElem_of_mem hn
    rw [List.length_take] at hj
    rw [List.getElem_take]
    have hpl : p - 1 < M.length := by omega
    have a := h2 (by omega) hpl
    have b := hne _ (List.getElem_mem hpl)
    have c : lb M[p - 1].nm < lb s := by
      rcases Decidable.em (lb M[p - 1].nm < lb s) with h | h
      · exact h
      · exact absurd (lb_inj (List.le_antisymm (List.not_lt.1 a) (List.not_lt.1 h))) b
    rcases Nat.eq_or_lt_of_le (show j ≤ p - 1 by omega) with e | e
    · subst e; exact decide_eq_true c
    · exact decide_eq_true (List.lt_trans (List.pairwise_iff_getElem.1 hs j (p - 1) (by omega) hpl e) c)
  have hhigh : ∀ n ∈ M.drop p, decide (lb n.nm < lb s) = false := fun n hn => by
    obtain ⟨j, hj, rfl⟩ := List.getElem_of_mem hn
    rw [List.length_drop] at hj
    rw [List.getElem_drop]
    exact decide_eq_false (List.lt_asymm (h1 (p + j) (by omega) (by omega)))
  have e1 : M.takeWhile (fun n => decide (lb n.nm < lb s)) = M.take p := by
    conv => lhs; rw [← List.take_append_drop p M]
    rw [List.takeWhile_append_of_pos hlow]
    cases hd : M.drop p with
    | nil => simp
    | cons a l =>
      have := hhigh a (by rw [hd]; simp)
      rw [List.takeWhile_cons_of_neg (by show ¬ (decide (lb a.nm < lb s) = true); rw [this]; simp), List.append_nil]
  have e2 : M.dropWhile (fun n => decide (lb n.nm < lb s)) = M.drop p := by
    conv => lhs; rw [← List.take_append_drop p M]
    rw [List.dropWhile_append_of_pos hlow]
    cases hd : M.drop p with
    | nil => simp
    | cons a l =>
      have := hhigh a (by rw [hd]; simp)
      rw [List.dropWhile_cons_of_neg (by show ¬ (decide (lb a.nm < lb s) = true); rw [this]; simp)]
  unfold putNm putName
  rw [e1, e2]
theorem doP_err {d : PD} {c : PC} (h : (doP d c).1 ≠ 0) : (doP d c).2 = d := by
  unfold doP at h ⊢
  split
  · rfl
  · split
    · rfl
    · split
      · rename_i h1 h2 h3
        rw [if_neg h1, if_neg h2, if_pos h3] at h
        exact absurd rfl h
      · rfl
theorem doP_ok {d : PD} {c : PC} (h : (doP d c).1 = 0) : (1 ≤ c.kind ∧ c.kind ≤ 8) ∧ badP c = false ∧ (stepP d c).1 = 0 := by
  rw [err_of] at h
  split at h
  · cases h
  · rename_i h1
    split at h
    · cases h
    · rename_i h2
      exact ⟨by omega, by simpa using h2, h⟩
theorem step_1 {fs : FS} {name dst : ByteArray} {data : List UInt8} {n : Int} (h : (stepP fs.p ⟨1, name, dst, data, n⟩).1 = 0) : hasP fs.N name = false ∧ fs.N.length < 40 ∧ data.length ≤ 60000 := by
  unfold stepP at h
  simp only [if_true] at h
  split at h
  · cases h
  · rename_i h1
    split at h
    · cases h
    · rename_i h2
      split at h
      · cases h
      · rename_i h3
        exact ⟨by show hasP fs.p.N name = false; simpa using h1, Nat.lt_of_not_le h2, by omega⟩
theorem step_8 {fs : FS} {name dst : ByteArray} {data : List UInt8} {n : Int} (h : (stepP fs.p ⟨8, name, dst, data, n⟩).1 = 0) : hasP fs.N name = true ∧ data.length ≤ 60000 := by
  unfold stepP at h
  simp only [show ¬ (8 : Int) = 1 by decide, show ¬ (8 : Int) = 7 by decide, if_false, if_true] at h
  split at h
  · cases h
  · rename_i h1
    split at h
    · cases h
    · exact ⟨by show hasP fs.p.N name = true; simpa using h1, by omega⟩
theorem step_7 {fs : FS} {name dst : ByteArray} {data : List UInt8} {n : Int} (h : (stepP fs.p ⟨7, name, dst, data, n⟩).1 = 0) : hasP fs.N name = true := by
  unfold stepP at h
  simp only [show ¬ (7 : Int) = 1 by decide, if_false, if_true] at h
  split at h
  · rename_i h1; exact h1
  · cases h
theorem step_f {fs : FS} {kind : Int} {name dst : ByteArray} {data : List UInt8} {n : Int} (hk : 2 ≤ kind ∧ kind ≤ 6) (h : (stepP fs.p ⟨kind, name, dst, data, n⟩).1 = 0) : hasP fs.N name = true := by
  cases hq : hasP fs.N name with
  | true => rfl
  | false =>
    have := (no_file hq).2
    unfold stepP at h
    simp only [show ¬ kind = 1 by omega, show ¬ kind = 7 by omega, show ¬ kind = 8 by omega, if_false, this] at h
    cases h
theorem step_2 {fs : FS} {name dst : ByteArray} {data : List UInt8} {n : Int} {t : PF} (hf : fileP fs.p name = some t) (h : (stepP fs.p ⟨2, name, dst, data, n⟩).1 = 0) : t.cp = false ∧ t.data.length + data.length ≤ 60000 := by
  unfold stepP at h
  simp only [show ¬ (2 : Int) = 1 by decide, show ¬ (2 : Int) = 7 by decide, show ¬ (2 : Int) = 8 by decide, if_false, if_true, hf] at h
  split at h
  · cases h
  · rename_i h1
    split at h
    · cases h
    · exact ⟨by simpa using h1, by omega⟩
theorem step_3 {fs : FS} {name dst : ByteArray} {data : List UInt8} {n : Int} {t : PF} (hf : fileP fs.p name = some t) (h : (stepP fs.p ⟨3, name, dst, data, n⟩).1 = 0) : t.cp = false := by
  unfold stepP at h
  simp only [show ¬ (3 : Int) = 1 by decide, show ¬ (3 : Int) = 7 by decide, show ¬ (3 : Int) = 8 by decide, show ¬ (3 : Int) = 2 by decide, if_false, if_true, hf] at h
  split at h
  · cases h
  · rename_i h1; simpa using h1
theorem step_4 {fs : FS} {name dst : ByteArray} {data : List UInt8} {n : Int} {t : PF} (hf : fileP fs.p name = some t) (h : (stepP fs.p ⟨4, name, dst, data, n⟩).1 = 0) : dst ≠ name := by
  unfold stepP at h
  simp only [show ¬ (4 : Int) = 1 by decide, show ¬ (4 : Int) = 7 by decide, show ¬ (4 : Int) = 8 by decide, show ¬ (4 : Int) = 2 by decide, show ¬ (4 : Int) = 3 by decide, if_false, if_true, hf] at h
  split at h
  · cases h
  · rename_i h1; exact h1
theorem step_5 {fs : FS} {name dst : ByteArray} {data : List UInt8} {n : Int} {t : PF} (hf : fileP fs.p name = some t) (h : (stepP fs.p ⟨5, name, dst, data, n⟩).1 = 0) : (t.cp = false ∨ t.wh = true) ∧ hasP fs.N dst = false ∧ fs.N.length < 40 := by
  unfold stepP at h
  simp only [show ¬ (5 : Int) = 1 by decide, show ¬ (5 : Int) = 7 by decide, show ¬ (5 : Int) = 8 by decide, show ¬ (5 : Int) = 2 by decide, show ¬ (5 : Int) = 3 by decide, show ¬ (5 : Int) = 4 by decide, if_false, if_true, hf] at h
  split at h
  · cases h
  · rename_i h1
    split at h
    · cases h
    · rename_i h2
      split at h
      · cases h
      · rename_i h3
        refine ⟨?_, by show hasP fs.p.N dst = false; simpa using h2, Nat.lt_of_not_le h3⟩
        cases hc : t.cp <;> cases hw : t.wh <;> simp_all
theorem step_6 {fs : FS} {name dst : ByteArray} {data : List UInt8} {n : Int} {t : PF} (hf : fileP fs.p name = some t) (h : (stepP fs.p ⟨6, name, dst, data, n⟩).1 = 0) : (t.cp = true ∧ t.wh = false) ∧ 1 ≤ n := by
  unfold stepP at h
  simp only [show ¬ (6 : Int) = 1 by decide, show ¬ (6 : Int) = 7 by decide, show ¬ (6 : Int) = 8 by decide, show ¬ (6 : Int) = 2 by decide, show ¬ (6 : Int) = 3 by decide, show ¬ (6 : Int) = 4 by decide, show ¬ (6 : Int) = 5 by decide, if_false, hf] at h
  split at h
  · cases h
  · rename_i h1
    split at h
    · cases h
    · rename_i h2
      refine ⟨?_, by omega⟩
      cases hc : t.cp <;> cases hw : t.wh <;> simp_all
/-- A name that is there, with its file's place. -/
theorem has_places {fs : FS} (hi : Inv fs) {s : ByteArray} (h : hasP fs.N s = true) : ∃ (i k : Nat) (hii : i < fs.N.length) (hk : k < fs.F.length), fs.N[i].nm = s ∧ fs.F[k].ino = fs.N[i].ino ∧ lookP fs.N s = some fs.F[k].ino ∧ fileP fs.p s = some fs.F[k].p := by
  obtain ⟨k, hk, h1, h2⟩ := has_file hi h
  have hf := h1
  unfold lookP at hf
  cases e : fs.N.find? fun n => decide (n.nm = s) with
  | none => rw [e] at hf; cases hf
  | some n =>
    rw [e] at hf
    obtain ⟨i, hii, hn⟩ := List.getElem_of_mem (List.mem_of_find?_eq_some e)
    have hs := List.find?_some e
    refine ⟨i, k, hii, hk, ?_, ?_, h1, h2⟩
    · rw [hn]; simpa using hs
    · rw [hn]
      have : n.ino = fs.F[k].ino := by simpa using hf
      exact this.symm
theorem hasN_no {N : List Nm} {s : ByteArray} (h : hasP N s = false) : ∀ n ∈ N, n.nm ≠ s := by
  intro n hn e
  rw [has_yes ⟨n, hn, e⟩] at h
  cases h
end Go.Proofs.Ytgegmefnbkcdkaa
