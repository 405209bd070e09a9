/- Inodes stay small under changes. No program in sight. -/
import Derived.Test.YtgegmefnbkcdkaaDoorScan
import Derived.Test.YtgegmefnbkcdkaaDoorFsHold
namespace Go.Proofs.YtgegmefnbkcdkaaDoor
open Go.RowKit
def SmB (fs : FS) : Prop := (∀ t ∈ fs.F, t.ino ≤ 1000) ∧ fs.O.length ≤ 100 ∧ ∀ i ∈ fs.O, 1 ≤ i ∧ i ≤ 1000
theorem gap_le : ∀ (l : List Int) (k : Int), gapP l k ≤ k + l.length
  | [], k => by simp [gapP]
  | i :: r, k => by
    unfold gapP
    have := gap_le r (k + 1)
    split
    · simp only [List.length_cons]; omega
    · simp only [List.length_cons]; omega
theorem step_ino (d : PD) (c : PC) : ∀ t ∈ (stepP d c).2.F, t.ino = freeP d.F ∨ ∃ u ∈ d.F, u.ino = t.ino := by
  have h0 : ∀ t ∈ d.F, t.ino = freeP d.F ∨ ∃ u ∈ d.F, u.ino = t.ino := fun t ht => .inr ⟨t, ht, rfl⟩
  have hadd : ∀ x : PF, x.ino = freeP d.F → ∀ t ∈ addP d.F x, t.ino = freeP d.F ∨ ∃ u ∈ d.F, u.ino = t.ino := by
    intro x hx t ht
    unfold addP at ht
    rcases List.mem_append.1 ht with h | h
    · exact h0 t ((List.takeWhile_sublist _).subset h)
    · rcases List.mem_cons.1 h with rfl | h
      · exact .inl hx
      · exact h0 t ((List.dropWhile_sublist _).subset h)
  have hupd : ∀ (i : Int) (g : PF → PF), (∀ t, (g t).ino = t.ino) → ∀ t ∈ updP d.F i g, t.ino = freeP d.F ∨ ∃ u ∈ d.F, u.ino = t.ino := by
    intro i g hg t ht
    unfold updP at ht
    obtain ⟨u, hu, rfl⟩ := List.mem_map.1 ht
    refine .inr ⟨u, hu, ?_⟩
    split
    · exact (hg u).symm
    · rfl
  have key : ∀ r : Int × PD, r = stepP d c → ∀ t ∈ r.2.F, t.ino = freeP d.F ∨ ∃ u ∈ d.F, u.ino = t.ino := by
    intro r hr
    unfold stepP at hr
    (repeat' split at hr) <;> subst hr <;> first
      | exact h0
      | exact hadd _ rfl
      | exact hupd _ _ (fun _ => rfl)
  exact key _ rfl
theorem do_ino (d : PD) (c : PC) : ∀ t ∈ (doP d c).2.F, t.ino = freeP d.F ∨ ∃ u ∈ d.F, u.ino = t.ino := by
  have h0 : ∀ t ∈ d.F, t.ino = freeP d.F ∨ ∃ u ∈ d.F, u.ino = t.ino := fun t ht => .inr ⟨t, ht, rfl⟩
  unfold doP
  split
  · exact h0
  split
  · exact h0
  split
  · intro t ht
    simp only [purgeP] at ht
    exact step_ino d c t (List.mem_filter.1 ht).1
  · exact h0
theorem SmB.step {fs fs' : FS} {c : PC} (h : SmB fs) (hi : Inv fs) (hp : fs'.p = (doP fs.p c).2) (ho : fs'.O = fs.O) : SmB fs' := by
  refine ⟨fun t ht => ?_, by rw [ho]; exact h.2.1, by rw [ho]; exact h.2.2⟩
  have h1 : t.p ∈ fs'.p.F := List.mem_map.2 ⟨t, ht, rfl⟩
  rw [hp] at h1
  rcases do_ino fs.p c t.p h1 with h2 | ⟨u, hu, h2⟩
  · have h3 := gap_le (fs.p.F.map (·.ino)) 1
    have h4 : (fs.p.F.map (·.ino)).length = fs.F.length := by simp [FS.p]
    have h5 := hi.count
    have h6 := h.2.1
    have h7 : t.ino = freeP fs.p.F := h2
    unfold freeP at h7
    omega
  · obtain ⟨v, hv, rfl⟩ := List.mem_map.1 hu
    have h3 : v.ino = t.ino := h2
    have := h.1 v hv
    omega
theorem SmB.hold {fs fs' : FS} {is : List Int} (h : SmB fs) (hi : Inv fs) (hp : fs'.p = holdP fs.p is) (hl : fs'.O.length ≤ 100) : SmB fs' := by
  refine ⟨fun t ht => ?_, hl, fun i hx => ?_⟩
  · have h1 : t.p ∈ fs'.p.F := List.mem_map.2 ⟨t, ht, rfl⟩
    rw [hp] at h1
    simp only [holdP, purgeP] at h1
    obtain ⟨v, hv, e⟩ := List.mem_map.1 (List.mem_filter.1 h1).1
    have h3 : v.ino = t.ino := congrArg PF.ino e
    have := h.1 v hv
    omega
  · have h1 : fs'.O = heldP fs.p.F is := congrArg PD.O hp
    rw [h1] at hx
    unfold heldP at hx
    obtain ⟨u, hu, rfl⟩ := List.mem_map.1 (List.mem_filter.1 hx).1
    obtain ⟨v, hv, rfl⟩ := List.mem_map.1 hu
    exact ⟨hi.p v hv, h.1 v hv⟩
theorem SmB.new : SmB ⟨[], [], []⟩ := ⟨by simp, by simp, by simp⟩
theorem SmB.smi {fs : FS} (h : SmB fs) (hi : Inv fs) : SmI fs := by
  have hF : ∀ t ∈ fs.F, 1 ≤ t.ino ∧ t.ino ≤ 1000000 := fun t ht => ⟨hi.p t ht, by have := h.1 t ht; omega⟩
  refine ⟨hF, fun n hn => ?_, fun i hx => by have := h.2.2 i hx; omega⟩
  obtain ⟨t, ht, e⟩ := hi.a n hn
  have h1 := hF t ht
  have h2 := hi.v n hn
  unfold vld at h2
  simp only [Bool.and_eq_true, decide_eq_true_eq] at h2
  omega
theorem scan_len (d : PD) (p : ByteArray) (k : Int) : (scanP d p k).length ≤ d.F.length := by
  unfold scanP sortS
  rw [List.length_mergeSort]
  refine Nat.le_trans (List.length_filterMap_le _ _) (Nat.le_trans (List.length_filter_le _ _) ?_)
  unfold inosP
  rw [List.length_map]
  exact Nat.le_refl _
end Go.Proofs.YtgegmefnbkcdkaaDoor
