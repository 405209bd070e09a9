/- The reference's directory: FileName, free. -/
import Derived.Test.YtgegmefnbkcdkaaRfA
namespace Go.Proofs.Ytgegmefnbkcdkaa
open Go.RowKit
set_option maxHeartbeats 4000000 in
theorem refFileName_any (s : ByteArray) (w : World) (hs : s.size ≤ 9223372036854775807) : Calls Try.prog 52 #[.string s] w fun e w' => e = .returned (.bool (vld s)) ∧ w' = w := by
  have hs' : (s.size : Int) ≤ 9223372036854775807 := by omega
  go_enter Try.func52, Try.ntmps52
  by_cases h1 : (s.size : Int) < 1
  · have g1 : decide ((s.size : Int) < 1) = true := decide_eq_true h1
    have HV : Hid (vld s = false) := keep (by unfold vld; rw [show decide (1 ≤ s.size) = false from decide_eq_false (by omega)]; simp)
    clear h1
    go_wp2_with fail
    go_ret
    exact ⟨by rw [HV.out]; rfl, rfl⟩
  · have g1 : decide ((s.size : Int) < 1) = false := decide_eq_false h1
    by_cases h2 : 32 < (s.size : Int)
    · have g2 : decide (32 < (s.size : Int)) = true := decide_eq_true h2
      have HV : Hid (vld s = false) := keep (by unfold vld; rw [show decide (s.size ≤ 32) = false from decide_eq_false (by omega)]; simp)
      clear h1 h2
      go_wp2_with fail
      go_ret
      exact ⟨by rw [HV.out]; rfl, rfl⟩
    · have g2 : decide (32 < (s.size : Int)) = false := decide_eq_false h2
      go_wp2_with fail
      go_loop [3] (fun i => ∃ k : Nat, k ≤ s.size ∧ i = .int .i64 k ∧ Hid (∀ j, (hj : j < s.size) → j < k → okB s[j] = true)) (fun i => s.size - (intOf i).toNat)
      case atStart => exact ⟨0, Nat.zero_le _, rfl, keep (fun j _ h => absurd h (by omega))⟩
      case round =>
        obtain ⟨k, hk, rfl, hP⟩ := hrel
        by_cases hlt : k < s.size
        · have hu : (s[k].toNat : Int) < 256 := by have := s[k].toNat_lt; omega
          have hu0 : (0 : Int) ≤ (s[k].toNat : Int) := by omega
          have i0 : (0 : Int) ≤ (k : Int) := by omega
          have i1 : (k : Int) < (s.size : Int) := by omega
          have hstep : okB s[k] = true → ∀ j, (hj : j < s.size) → j < k + 1 → okB s[j] = true := fun h j hj hjk => by
            by_cases e : j = k
            · subst e; exact h
            · exact hP.out j hj (by omega)
          have hbad : okB s[k] = false → vld s = false := fun h => vld_bad hlt h
          have HSTEP := keep hstep
          have HBAD := keep hbad
          clear hstep hbad
          by_cases h3 : (s[k].toNat : Int) < 33
          · have HV : Hid (vld s = false) := keep (HBAD.out (by unfold okB; rw [decide_eq_false (by omega)]; rfl))
            have g3 : decide ((s[k].toNat : Int) < 33) = true := decide_eq_true h3
            clear HBAD HSTEP
            go_wp2_with fail
            go_ret
            exact ⟨by rw [HV.out]; rfl, rfl⟩
          · have g3 : decide ((s[k].toNat : Int) < 33) = false := decide_eq_false h3
            by_cases h4 : 126 < (s[k].toNat : Int)
            · have HV : Hid (vld s = false) := keep (HBAD.out (by unfold okB; rw [decide_eq_false (p := s[k].toNat ≤ 126) (by omega), Bool.and_false]))
              have g4 : decide (126 < (s[k].toNat : Int)) = true := decide_eq_true h4
              clear HBAD HSTEP
              go_wp2_with fail
              go_ret
              exact ⟨by rw [HV.out]; rfl, rfl⟩
            · have g4 : decide (126 < (s[k].toNat : Int)) = false := decide_eq_false h4
              have HN := keep (HSTEP.out (by unfold okB; rw [decide_eq_true (by omega), decide_eq_true (by omega)]; rfl))
              clear HBAD HSTEP
              go_wp2_with fail
              go_round
              case rel => exact ⟨k + 1, by omega, by go_num, HN⟩
              case measure => simp [intOf]; omega
        · obtain rfl : k = s.size := by omega
          have HV : Hid (vld s = true) := keep (by rw [vld_all fun j hj => hP.out j hj hj, decide_eq_true (show 1 ≤ s.size by omega), decide_eq_true (show s.size ≤ 32 by omega)]; rfl)
          go_wp2_with fail
          go_ret
          exact ⟨by rw [HV.out]; rfl, rfl⟩
/-- The least number from m on that a list in ascending order lacks. -/
theorem gap_spec : ∀ (l : List Int) (m : Int), l.Pairwise (· < ·) → (∀ x ∈ l, m ≤ x) → m ≤ gapP l m ∧ gapP l m ∉ l ∧ ∀ j, m ≤ j → j < gapP l m → j ∈ l
  | [], m, _, _ => ⟨Int.le_refl _, by simp, fun j h1 h2 => absurd h2 (by simp only [gapP]; omega)⟩
  | x :: l, m, hs, hm => by
    rw [List.pairwise_cons] at hs
    simp only [gapP]
    by_cases e : x = m
    · subst e
      rw [if_pos rfl]
      obtain ⟨h1, h2, h3⟩ := gap_spec l (x + 1) hs.2 (fun y hy => by have := hs.1 y hy; omega)
      refine ⟨by omega, ?_, fun j hj1 hj2 => ?_⟩
      · rw [List.mem_cons]; rintro (h | h)
        · omega
        · exact h2 h
      · by_cases ej : j = x
        · subst ej; simp
        · exact List.mem_cons_of_mem _ (h3 j (by omega) hj2)
    · rw [if_neg e]
      refine ⟨Int.le_refl _, ?_, fun j h1 h2 => absurd h2 (by omega)⟩
      have := hm x (by simp)
      rw [List.mem_cons]; rintro (h | h)
      · omega
      · have := hs.1 m h; omega
theorem gap_uniq {l : List Int} {m g : Int} (hs : l.Pairwise (· < ·)) (hm : ∀ x ∈ l, m ≤ x) (h1 : m ≤ g) (h2 : g ∉ l) (h3 : ∀ j, m ≤ j → j < g → j ∈ l) : g = gapP l m := by
  obtain ⟨k1, k2, k3⟩ := gap_spec l m hs hm
  rcases Int.lt_trichotomy g (gapP l m) with h | h | h
  · exact absurd (k3 g h1 h) h2
  · exact h
  · exact absurd (h3 _ k1 h) k2
theorem inos_pos {fs : FS} (hi : Inv fs) : (fs.F.map (·.ino)).Pairwise (· < ·) ∧ ∀ x ∈ fs.F.map (·.ino), (1 : Int) ≤ x := by
  refine ⟨by rw [List.pairwise_map]; exact hi.f, fun x hx => ?_⟩
  obtain ⟨t, ht, rfl⟩ := List.mem_map.1 hx
  exact hi.p t ht
def ManyIno (F : List Fi) (k : Nat) : Prop := ∀ j : Int, 1 ≤ j → j < k → j ∈ F.map (·.ino)
theorem many_le {F : List Fi} {k : Nat} (h : ManyIno F k) : k ≤ F.length + 1 := by
  have h1 := nodup_sub ((List.range (k - 1)).map fun i : Nat => (i : Int) + 1) (F.map (·.ino)) (by
    rw [List.nodup_iff_pairwise_ne, List.pairwise_map]
    exact (List.nodup_iff_pairwise_ne.1 List.nodup_range).imp fun h e => h (by omega)) (fun x hx => by
    obtain ⟨i, hi, rfl⟩ := List.mem_map.1 hx
    rw [List.mem_range] at hi
    exact h _ (by omega) (by omega))
  simp at h1
  omega
theorem ManyIno.step {F : List Fi} {k : Nat} (h : ManyIno F k) (hk : (k : Int) ∈ F.map (·.ino)) : ManyIno F (k + 1) := fun j h1 h2 => by
  by_cases e : j = k
  · subst e; exact hk
  · exact h j h1 (by omega)
set_option maxHeartbeats 4000000 in
set_option maxRecDepth 100000 in
theorem refFree_any (vN vF vO : Value) (fs : FS) (w : World) (h : FsT w vN vF vO fs) (hi : Inv fs) (hm : fs.F.length ≤ 1000000) :
    Calls Try.prog 34 #[.agg #[vN, vF, vO]] w fun x w' => x = .returned (.int .i64 (freeP fs.p.F)) ∧ Below w.heap.size w w' := by
  obtain ⟨A1, c1, rfl, _, _⟩ := h.n.form
  obtain ⟨A2, c2, rfl, _, _⟩ := h.f.form
  obtain ⟨A3, c3, rfl, _, _⟩ := h.o.form
  obtain ⟨W, hW⟩ : ∃ W, W = w.alloc (.cells #[.slice A1 fs.N.length c1, .slice A2 fs.F.length c2, .slice A3 fs.O.length c3] 40) := ⟨_, rfl⟩
  have hb : Below w.heap.size w W := hW ▸ (Below.refl _ w).alloc (Nat.le_refl _) _
  have hF : Blk W w.heap.size 40 #[.slice A1 fs.N.length c1, .slice A2 fs.F.length c2, .slice A3 fs.O.length c3] := hW ▸ Blk.new w _ _
  have HT := keep (h.up hb)
  have HB := keep hb
  have HF := keep hF
  have HI := keep hi
  clear h hb hF hi
  go_enter Try.func34, Try.ntmps34
  go_wp2_with fail
  rw [← hW]
  clear hW
  go_loopw [3] (fun i wr => ∃ k : Nat, 1 ≤ k ∧ i = .int .i64 k ∧ Hid (ManyIno fs.F k) ∧ Hid (Below W.heap.size W wr)) (fun i _ => fs.F.length + 2 - (intOf i).toNat)
  case atStart => exact ⟨1, by omega, rfl, keep (fun j h1 h2 => by omega), keep (Below.refl _ _)⟩
  case round =>
    obtain ⟨k, hk, rfl, hM, hb⟩ := hrel
    obtain ⟨wo, rfl⟩ : ∃ wo : World, wo = wr := ⟨_, rfl⟩
    have hle := many_le hM.out
    obtain ⟨f0, f1, f2⟩ := (HF.out.below hb.out HF.out.lt).cell3
    have HAT := keep (refAt_any _ _ _ fs k _ (HT.out.up hb.out) hm)
    go_wp2_with fail
    refine HAT.out.mono ?_
    rintro e w1 ⟨r, rfl, hr, hb1⟩
    rcases hr with ⟨rfl, hno⟩ | ⟨j, hj, rfl, hij, _⟩
    · have HR : Hid ((k : Int) = freeP fs.p.F) := keep (by
        have h1 := inos_pos HI.out
        have h2 : fs.p.F.map (·.ino) = fs.F.map (·.ino) := by show (fs.F.map Fi.p).map (·.ino) = _; rw [List.map_map]; rfl
        unfold freeP
        rw [h2]
        exact gap_uniq h1.1 h1.2 (by omega) (fun hx => by
          obtain ⟨t, ht, e⟩ := List.mem_map.1 hx
          exact hno t ht e) (fun j h3 h4 => hM.out j h3 h4))
      have HBE := keep (bchain HB.out (bchain hb.out hb1))
      clear hno hb1
      go_wp2_with fail
      go_ret
      exact ⟨by rw [← HR.out]; rfl, HBE.out⟩
    · have HN : Hid (ManyIno fs.F (k + 1)) := keep (hM.out.step (by rw [← hij]; exact List.mem_map.2 ⟨_, List.getElem_mem hj, rfl⟩))
      have HBE := keep (bchain hb.out hb1)
      have i0 : (0 : Int) ≤ (j : Int) := by omega
      clear hij hb1
      go_wp2_with fail
      go_roundw
      case rel => exact ⟨k + 1, by omega, by go_num, HN, HBE⟩
      case measure => simp [intOf]; omega
end Go.Proofs.Ytgegmefnbkcdkaa
