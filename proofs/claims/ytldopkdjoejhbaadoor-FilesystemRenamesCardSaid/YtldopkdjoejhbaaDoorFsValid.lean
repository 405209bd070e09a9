/- Which strings are file names. -/
import Derived.Test.YtldopkdjoejhbaaDoorFsDir
namespace Go.Proofs.YtldopkdjoejhbaaDoor
open Go.RowKit

def okB (b : UInt8) : Bool := decide (33 ≤ b.toNat) && decide (b.toNat ≤ 126)
/-- A file name. -/
def vld (s : ByteArray) : Bool := s.data.toList.all okB && decide (1 ≤ s.size) && decide (s.size ≤ 32)
theorem vld_bad {s : ByteArray} {k : Nat} (hk : k < s.size) (h : okB s[k] = false) : vld s = false := by
  have : s.data.toList.all okB = false := by
    rw [List.all_eq_false]
    exact ⟨s[k], Array.mem_toList_iff.2 (Array.getElem_mem (xs := s.data) hk), by rw [h]; simp⟩
  unfold vld; rw [this]; rfl
theorem vld_all {s : ByteArray} (h : ∀ j, (hj : j < s.size) → okB s[j] = true) : vld s = (decide (1 ≤ s.size) && decide (s.size ≤ 32)) := by
  have : s.data.toList.all okB = true := by
    rw [List.all_eq_true]
    intro b hb
    obtain ⟨j, hj, rfl⟩ := List.getElem_of_mem hb
    have hj' : j < s.size := by simpa using hj
    exact h j hj'
  unfold vld; rw [this]; simp
set_option maxHeartbeats 2000000 in
theorem valid_any (s : ByteArray) (w : World) (hs : s.size ≤ 4294967296) : Calls Tryd.prog 40 #[.string s] w fun e w' => e = .returned (.bool (vld s)) ∧ Below w.heap.size w w' := by
  have hs' : (s.size : Int) ≤ 4294967296 := by omega
  go_enter Tryd.func40, Tryd.ntmps40
  go_wp2_with (refine wpList_bytes rfl _ _ 5 _ rfl _ rfl Tryd.underlying9 Tryd.underlying22 Tryd.underlying5 ?_; intro c w1 hc hb hlt hrow)
  have HB := keep hb
  have HROW := keep hrow
  clear hb hrow
  go_loop [4, 8] (fun _ i => ∃ k : Nat, k ≤ s.size ∧ i = .int .i64 k ∧ Hid (∀ j, (hj : j < s.size) → j < k → okB s[j] = true)) (fun _ i => s.size - (intOf i).toNat)
  case atStart => exact ⟨0, Nat.zero_le _, rfl, keep (fun j _ h => absurd h (by omega))⟩
  case round =>
    obtain ⟨k, hk, rfl, hP⟩ := hrel
    by_cases hlt : k < s.size
    · have hcell : w1.cell? ⟨w.heap.size, k, none⟩ = some (.int .u8 (s[k].toNat : Int)) := by
        have := HROW.out k (.int .u8 (s[k].toNat : Int)) (by simp [List.getElem?_eq_getElem (show k < s.data.toList.length by simpa using hlt)]; rfl)
        simpa using this
      have hu : (s[k].toNat : Int) < 256 := by have := s[k].toNat_lt; omega
      have hu0 : (0 : Int) ≤ (s[k].toNat : Int) := by omega
      obtain ⟨b, hb⟩ : ∃ b, s[k] = b := ⟨_, rfl⟩
      rw [hb] at hcell hu hu0
      have hstep : okB b = true → ∀ j, (hj : j < s.size) → j < k + 1 → okB s[j] = true := fun h j hj hjk => by
        by_cases e : j = k
        · subst e; rw [hb]; exact h
        · exact hP.out j hj (by omega)
      have hbad : okB b = false → vld s = false := fun h => vld_bad hlt (by rw [hb]; exact h)
      have HSTEP := keep hstep
      have HBAD := keep hbad
      have i1 : (k : Int) < (s.size : Int) := by omega
      clear hstep hbad hb
      by_cases h1 : (b.toNat : Int) < 33
      · have hv : vld s = false := HBAD.out (by unfold okB; rw [decide_eq_false (by omega)]; rfl)
        have HV := keep hv
        have g1 : decide ((b.toNat : Int) < 33) = true := decide_eq_true h1
        clear hv HBAD HSTEP
        go_wp2_with fail
        go_ret
        exact ⟨by rw [HV.out]; rfl, HB.out⟩
      · have g1 : decide ((b.toNat : Int) < 33) = false := decide_eq_false h1
        by_cases h2 : 126 < (b.toNat : Int)
        · have hv : vld s = false := HBAD.out (by unfold okB; rw [decide_eq_false (p := b.toNat ≤ 126) (by omega), Bool.and_false])
          have HV := keep hv
          have g2 : decide (126 < (b.toNat : Int)) = true := decide_eq_true h2
          clear hv HBAD HSTEP
          go_wp2_with fail
          go_ret
          exact ⟨by rw [HV.out]; rfl, HB.out⟩
        · have g2 : decide (126 < (b.toNat : Int)) = false := decide_eq_false h2
          have HN := keep (HSTEP.out (by unfold okB; rw [decide_eq_true (by omega), decide_eq_true (by omega)]; rfl))
          clear HBAD HSTEP
          go_wp2_with fail
          go_round
          case rel => exact ⟨k + 1, by omega, by go_num, HN⟩
          case measure => simp [intOf]; omega
    · obtain rfl : k = s.size := by omega
      have hv := vld_all (s := s) fun j hj => hP.out j hj hj
      have HV := keep hv
      clear hv hP
      have htl : s.toList.length = s.size := by rw [Lib.toList_data]; simp
      have HTL := keep htl
      clear htl
      go_wp2_with fail
      · rename_i h0 _
        go_ret
        refine ⟨?_, HB.out⟩
        rw [HV.out]
        have h1 := HTL.out
        rw [h0] at h1
        have h2 : s.size = 0 := h1.symm
        rw [h2]; rfl
      · rename_i h0 _
        go_ret
        refine ⟨?_, HB.out⟩
        rw [HV.out]
        have h1 : 1 ≤ s.size := by
          rw [← HTL.out]
          exact List.length_pos_iff.2 h0
        have h2 : s.toList.isEmpty = false := by rw [List.isEmpty_eq_false_iff]; exact h0
        show Ending.returned (.bool (!s.toList.isEmpty && decide ((s.size : Int) ≤ 32))) = _
        rw [h2, decide_eq_true h1]
        have h3 : decide ((s.size : Int) ≤ 32) = decide (s.size ≤ 32) := by
          by_cases h : s.size ≤ 32
          · rw [decide_eq_true h, decide_eq_true (by omega)]
          · rw [decide_eq_false h, decide_eq_false (by omega)]
        rw [h3]
        rfl
end Go.Proofs.YtldopkdjoejhbaaDoor
