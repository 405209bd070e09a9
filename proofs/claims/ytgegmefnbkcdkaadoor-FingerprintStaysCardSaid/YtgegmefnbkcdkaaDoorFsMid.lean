/- Which strings are file names. The methods of a directory that is being changed: link, unlink. The methods of a directory that is being changed: unlink, fresh. A new file. -/
import Derived.Test.YtgegmefnbkcdkaaDoorFsDir
namespace Go.Proofs.YtgegmefnbkcdkaaDoor
open Go.RowKit
def okB (b : UInt8) : Bool := decide (33 ≤ b.toNat) && decide (b.toNat ≤ 126)
/-- A file name. -/
def vld (s : ByteArray) : Bool := s.data.toList.all okB && decide (1 ≤ s.size) && decide (s.size ≤ 32)
theorem vld_bad {s : ByteArray} {k : Nat} (hk : k < s.size) (h : okB s[k] = false) : vld s = false := by
  have : s.data.toList.all okB = false := by
    rw [List.all_eq_false]
    exact ⟨s[k], Array.mem_toList_iff.2 (Array.getElem_mem (xs := s.data) hk), by rw [h]; simp⟩
  unfold vld; rw [this]; rfl
theorem vld_all {s : ByteArray} (h : ∀ j, (hj : j < s.size) → okB s[j] = true) : vld s = (decide (1 ≤ s.size) && decide (s.size ≤ 32)) := by
  have : s.data.toList.all okB = true := by
    rw [List.all_eq_true]
    intro b hb
    obtain ⟨j, hj, rfl⟩ := List.getElem_of_mem hb
    have hj' : j < s.size := by simpa using hj
    exact h j hj'
  unfold vld; rw [this]; simp
set_option maxHeartbeats 2000000 in
theorem valid_any (s : ByteArray) (w : World) (hs : s.size ≤ 9223372036854775807) : Calls Tryd.prog 24 #[.string s] w fun e w' => e = .returned (.bool (vld s)) ∧ Below w.heap.size w w' := by
  have hs' : (s.size : Int) ≤ 9223372036854775807 := by omega
  go_enter Tryd.func24, Tryd.ntmps24
  go_wp2_with (refine wpList_bytes rfl _ _ 5 _ rfl _ rfl Tryd.underlying9 Tryd.underlying22 Tryd.underlying5 ?_; intro c w1 hc hb hlt hrow)
  have HB := keep hb
  have HROW := keep hrow
  clear hb hrow
  go_loop [4, 8] (fun _ i => ∃ k : Nat, k ≤ s.size ∧ i = .int .i64 k ∧ Hid (∀ j, (hj : j < s.size) → j < k → okB s[j] = true)) (fun _ i => s.size - (intOf i).toNat)
  case atStart => exact ⟨0, Nat.zero_le _, rfl, keep (fun j _ h => absurd h (by omega))⟩
  case round =>
    obtain ⟨k, hk, rfl, hP⟩ := hrel
    by_cases hlt : k < s.size
    · have hcell : w1.cell? ⟨w.heap.size, k, none⟩ = some (.int .u8 (s[k].toNat : Int)) := by
        have := HROW.out k (.int .u8 (s[k].toNat : Int)) (by simp [List.getElem?_eq_getElem (show k < s.data.toList.length by simpa using hlt)]; rfl)
        simpa using this
      have hu : (s[k].toNat : Int) < 256 := by have := s[k].toNat_lt; omega
      have hu0 : (0 : Int) ≤ (s[k].toNat : Int) := by omega
      obtain ⟨b, hb⟩ : ∃ b, s[k] = b := ⟨_, rfl⟩
      rw [hb] at hcell hu hu0
      have hstep : okB b = true → ∀ j, (hj : j < s.size) → j < k + 1 → okB s[j] = true := fun h j hj hjk => by
        by_cases e : j = k
        · subst e; rw [hb]; exact h
        · exact hP.out j hj (by omega)
      have hbad : okB b = false → vld s = false := fun h => vld_bad hlt (by rw [hb]; exact h)
      have HSTEP := keep hstep
      have HBAD := keep hbad
      have i1 : (k : Int) < (s.size : Int) := by omega
      clear hstep hbad hb
      by_cases h1 : (b.toNat : Int) < 33
      · have hv : vld s = false := HBAD.out (by unfold okB; rw [decide_eq_false (by omega)]; rfl)
        have HV := keep hv
        have g1 : decide ((b.toNat : Int) < 33) = true := decide_eq_true h1
        clear hv HBAD HSTEP
        go_wp2_with fail
        go_ret
        exact ⟨by rw [HV.out]; rfl, HB.out⟩
      · have g1 : decide ((b.toNat : Int) < 33) = false := decide_eq_false h1
        by_cases h2 : 126 < (b.toNat : Int)
        · have hv : vld s = false := HBAD.out (by unfold okB; rw [decide_eq_false (p := b.toNat ≤ 126) (by omega), Bool.and_false])
          have HV := keep hv
          have g2 : decide (126 < (b.toNat : Int)) = true := decide_eq_true h2
          clear hv HBAD HSTEP
          go_wp2_with fail
          go_ret
          exact ⟨by rw [HV.out]; rfl, HB.out⟩
        · have g2 : decide (126 < (b.toNat : Int)) = false := decide_eq_false h2
          have HN := keep (HSTEP.out (by unfold okB; rw [decide_eq_true (by omega), decide_eq_true (by omega)]; rfl))
          clear HBAD HSTEP
          go_wp2_with fail
          go_round
          case rel => exact ⟨k + 1, by omega, by go_num, HN⟩
          case measure => simp [intOf]; omega
    · obtain rfl : k = s.size := by omega
      have hv := vld_all (s := s) fun j hj => hP.out j hj hj
      have HV := keep hv
      clear hv hP
      have htl : s.toList.length = s.size := by rw [Lib.toList_data]; simp
      have HTL := keep htl
      clear htl
      go_wp2_with fail
      · rename_i h0 _
        go_ret
        refine ⟨?_, HB.out⟩
        rw [HV.out]
        have h1 := HTL.out
        rw [h0] at h1
        have h2 : s.size = 0 := h1.symm
        rw [h2]; rfl
      · rename_i h0 _
        go_ret
        refine ⟨?_, HB.out⟩
        rw [HV.out]
        have h1 : 1 ≤ s.size := by
          rw [← HTL.out]
          exact List.length_pos_iff.2 h0
        have h2 : s.toList.isEmpty = false := by rw [List.isEmpty_eq_false_iff]; exact h0
        show Ending.returned (.bool (!s.toList.isEmpty && decide ((s.size : Int) ≤ 32))) = _
        rw [h2, decide_eq_true h1]
        have h3 : decide ((s.size : Int) ≤ 32) = decide (s.size ≤ 32) := by
          by_cases h : s.size ≤ 32
          · rw [decide_eq_true h, decide_eq_true (by omega)]
          · rw [decide_eq_false h, decide_eq_false (by omega)]
        rw [h3]
        rfl
end Go.Proofs.YtgegmefnbkcdkaaDoor
namespace Go.Proofs.YtgegmefnbkcdkaaDoor
open Go.RowKit
theorem Dir.lt_ {w : World} {B gd : Nat} {fs : FS} (h : Dir w B gd fs) : gd < w.heap.size := by
  obtain ⟨_, _, _, _, hb, _⟩ := h
  exact hb.lt
theorem Dir.up {w w' : World} {B gd : Nat} {fs : FS} (h : Dir w B gd fs) (hb : Below w.heap.size w w') : Dir w' B gd fs := by
  obtain ⟨h1, vN, vF, vO, h2, h3⟩ := h
  exact ⟨h1, vN, vF, vO, h2.below hb h2.lt, h3.up hb⟩
/-- Where a name is put in. -/
def putName (N : List Nm) (t : Nm) : List Nm := N.takeWhile (fun n => decide (lb n.nm < lb t.nm)) ++ t :: N.dropWhile fun n => decide (lb n.nm < lb t.nm)
theorem at_split {N : List Nm} {s : ByteArray} {i : Nat} (h : At_nm (cfn s) N i) : N.takeWhile (fun n => decide (lb n.nm < lb s)) = N.take i ∧ N.dropWhile (fun n => decide (lb n.nm < lb s)) = N.drop i := by
  obtain ⟨hi, h1, h2⟩ := h
  have e : N = N.take i ++ N.drop i := (List.take_append_drop i N).symm
  have a1 : ∀ n ∈ N.take i, decide (lb n.nm < lb s) = true := fun n hn => by
    obtain ⟨j, hj, rfl⟩ := List.getElem_of_mem hn
    rw [List.length_take] at hj
    rw [List.getElem_take]
    have := h1 j (by omega)
    rw [cfAt_nm_in (by omega), cfn_neg] at this
    exact decide_eq_true this
  have a2 : ∀ n, (N.drop i).head? = some n → decide (lb n.nm < lb s) = false := fun n hn => by
    rw [List.head?_drop] at hn
    obtain ⟨hi2, rfl⟩ := List.getElem?_eq_some_iff.1 hn
    have := h2 i (Nat.le_refl _)
    rw [cfAt_nm_in hi2] at this
    exact decide_eq_false fun h => by have := cfn_neg.2 h; omega
  constructor
  · rw [e, List.takeWhile_append_of_pos a1]
    have : (N.drop i).takeWhile (fun n => decide (lb n.nm < lb s)) = [] := by
      cases hd : N.drop i with
      | nil => rfl
      | cons n r => rw [List.takeWhile_cons, if_neg]; rw [a2 n (by rw [hd]; rfl)]; simp
    rw [this, List.append_nil, ← e]
  · rw [e, List.dropWhile_append_of_pos a1, ← e]
    cases hd : N.drop i with
    | nil => rfl
    | cons n r => rw [List.dropWhile_cons, if_neg]; rw [a2 n (by rw [hd]; rfl)]; simp
set_option maxHeartbeats 4000000 in
set_option maxRecDepth 100000 in
theorem link_any (gd B : Nat) (fs : FS) (s : ByteArray) (ino : Int) (w : World) (hB : B ≤ w.heap.size) (h : Dir w B gd fs) (hs : NSrt fs.N) (hm : Small fs) :
    Calls Tryd.prog 88 #[.pointer (some ⟨gd, 0, none⟩), .string s, .int .i64 ino] w (DirRes B gd ⟨putName fs.N ⟨s, ino⟩, fs.F, fs.O⟩ w) := by
  obtain ⟨hBg, vN, vF, vO, hBk, hO⟩ := h
  obtain ⟨A1, c1, rfl, _⟩ := own_sl hO.n
  have hq := name_any gd s _ fs.N w ((hBk.cell 0).trans rfl) hO.r.n hs (by have := hm.n; omega)
  have HQ := keep hq
  have HBK := keep hBk
  have HO := keep hO
  clear hq hBk hO
  go_enter Tryd.func88, Tryd.ntmps88
  go_wp2_with fail
  refine HQ.out.mono ?_
  rintro e w1 ⟨i, hA, rfl, hb1⟩
  have hsp := at_split hA
  have hi := hA.1
  have hz1 := hb1.size
  have hB1 := HBK.out.below hb1 HBK.out.lt
  have hO1 := HO.out.up hb1
  have k0 : w1.cell? ⟨gd, 0, none⟩ = some (.slice A1 fs.N.length c1) := (hB1.cell 0).trans rfl
  have hgl1 := hB1.lt
  clear hA
  generalize decide (cfAt_nm (cfn s) fs.N i = 0) = q
  have HSP := keep hsp
  have HB1 := keep hB1
  have HO1 := keep hO1
  have HBB := keep hb1
  clear hsp hB1 hO1 hb1
  have hal : Below w1.heap.size w1 (w1.alloc (.cells #[.string s, .int .i64 ino] 57)) := (Below.refl _ w1).alloc (Nat.le_refl _) _
  obtain ⟨W, hW⟩ : ∃ W, W = w1.alloc (.cells #[.string s, .int .i64 ino] 57) := ⟨_, rfl⟩
  rw [← hW] at hal
  have hBn : Blk W w1.heap.size 57 #[.string s, .int .i64 ino] := hW ▸ Blk.new _ _ _
  have hOW := HO1.out.up hal
  have hBW := HB1.out.below hal hgl1
  have hins := insert_Nm _ fs.N.length i (nms fs.N) [.string s, .int .i64 ino] w1.heap.size W B hOW.n (by have := hal.size; omega) hi hBn rfl (fun e => by
    have := (HO1.out.n.lt w1.heap.size e).2
    omega) (nms_one _) (by intro u hu; simp at hu; rcases hu with rfl | rfl <;> rfl) (by have := hm.n; omega)
  have HINS := keep hins
  have HOW := keep hOW
  have HBW := keep hBW
  have hb2 := bchain HBB.out hal
  have HB2 := keep hb2
  have HBG := keep hBg
  clear hins hOW hBW hBn hal hb2 hm
  go_wp2_with fail
  rw [← hW]
  clear hW
  go_wp2_with fail
  refine HINS.out.mono ?_
  rintro e w3 ⟨v3, rfl, ho3, hg3⟩
  obtain ⟨A5, c5, rfl, _⟩ := own_sl ho3
  have hrow : (nms fs.N).take (i * 2) ++ [.string s, .int .i64 ino] ++ (nms fs.N).drop (i * 2) = nms (putName fs.N ⟨s, ino⟩) := by
    unfold putName
    have e1 : fs.N.takeWhile (fun n => decide (lb n.nm < lb s)) = fs.N.take i := HSP.out.1
    have e2 : fs.N.dropWhile (fun n => decide (lb n.nm < lb s)) = fs.N.drop i := HSP.out.2
    show _ = nms (fs.N.takeWhile (fun n => decide (lb n.nm < lb s)) ++ ⟨s, ino⟩ :: fs.N.dropWhile fun n => decide (lb n.nm < lb s))
    rw [e1, e2, show nms fs.N = fs.N.flatMap nmV from rfl, rows_take nmV_len _ _ hi, rows_drop nmV_len _ _ hi]
    simp [nms, nmV]
  have hlen : (putName fs.N ⟨s, ino⟩).length = fs.N.length + 1 := by
    have := congrArg List.length hrow
    rw [nms_len] at this
    have h2 := ho3.1
    rw [this] at h2
    omega
  rw [hrow] at ho3
  have ho4 : w3.ownsRow B 57 2 (.slice A5 (fs.N.length + 1) c5) (putName fs.N ⟨s, ino⟩).length (nms (putName fs.N ⟨s, ino⟩)) := by rw [hlen]; exact ho3
  have hb3 := HBW.out.grown hg3 (fun e => own_off HOW.out.n HBW.out (by decide) e.symm)
  have hO3 : FsO w3 B (.slice A5 (fs.N.length + 1) c5) vF vO ⟨putName fs.N ⟨s, ino⟩, fs.F, fs.O⟩ := HOW.out.putN hg3 ho4
  have hD : Dir (w3.setCell ⟨gd, 0, none⟩ (.slice A5 (fs.N.length + 1) c5)) B gd ⟨putName fs.N ⟨s, ino⟩, fs.F, fs.O⟩ := ⟨HBG.out, _, _, _, hb3.set_ 0 _, hO3.set_ hb3 0 _⟩
  have hBe : Below B w (w3.setCell ⟨gd, 0, none⟩ (.slice A5 (fs.N.length + 1) c5)) := (((HB2.out.mono hB).grown hg3 (Nat.le_trans hB HB2.out.size) (own_ge HOW.out.n))).setCell (p := ⟨gd, 0, none⟩) HBG.out _
  have q1 : w3.cell? ⟨gd, 0, none⟩ = some (.slice A1 fs.N.length c1) := (hb3.cell 0).trans rfl
  have q2 : w3.frozen? ⟨gd, 0, none⟩ = false := hb3.frozen 0
  have HD := keep hD
  have HBE := keep (And.intro hBe ((TyKeep.of_below HB2.out |>.trans (TyKeep.grown hg3 HOW.out.n (.inr rfl))).trans (TyKeep.set_ hb3 0 (.slice A5 (fs.N.length + 1) c5))))
  clear hD hBe hb3 hO3 ho3 ho4 hg3 HINS HOW HBW hrow
  go_wp2_with fail
  go_end0
  exact ⟨rfl, HD.out, HBE.out⟩
end Go.Proofs.YtgegmefnbkcdkaaDoor
namespace Go.Proofs.YtgegmefnbkcdkaaDoor
open Go.RowKit
def rmName (N : List Nm) (s : ByteArray) : List Nm := N.filter fun n => !decide (n.nm = s)
theorem at_rm_no {N : List Nm} {s : ByteArray} {i : Nat} (hs : NSrt N) (h : At_nm (cfn s) N i) (h0 : cfAt_nm (cfn s) N i ≠ 0) : ∀ n ∈ N, n.nm ≠ s := by
  intro n hn e
  obtain ⟨j, hj, rfl⟩ := List.getElem_of_mem hn
  have hz : cfn s N[j] = 0 := cfn_zero.2 e
  rcases Nat.lt_trichotomy j i with hlt | rfl | hgt
  · have := h.2.1 j hlt
    rw [cfAt_nm_in hj] at this
    omega
  · rw [cfAt_nm_in hj] at h0
    exact h0 hz
  · have h1 := List.pairwise_iff_getElem.1 hs i j (by omega) hj hgt
    rw [e] at h1
    have h2 := h.2.2 i (Nat.le_refl _)
    rw [cfAt_nm_in (by omega)] at h2
    have := cfn_neg.2 h1
    omega
theorem at_rm_yes {N : List Nm} {s : ByteArray} {i : Nat} (hs : NSrt N) (h0 : cfAt_nm (cfn s) N i = 0) : ∃ hi : i < N.length, N[i].nm = s ∧ rmName N s = N.take i ++ N.drop (i + 1) := by
  have hi : i < N.length := by
    rcases Nat.lt_or_ge i N.length with h | h
    · exact h
    · rw [cfAt_nm_out h] at h0; omega
  rw [cfAt_nm_in hi] at h0
  have he := cfn_zero.1 h0
  refine ⟨hi, he, ?_⟩
  have e : N = N.take i ++ N[i] :: N.drop (i + 1) := by rw [← List.drop_eq_getElem_cons hi, List.take_append_drop]
  have hne : ∀ j, (hj : j < N.length) → j ≠ i → N[j].nm ≠ s := fun j hj hji ej => by
    rcases Nat.lt_or_gt_of_ne hji with h1 | h1
    · have := List.pairwise_iff_getElem.1 hs j i hj hi h1
      rw [ej, he] at this
      exact List.lt_irrefl _ this
    · have := List.pairwise_iff_getElem.1 hs i j hi hj h1
      rw [ej, he] at this
      exact List.lt_irrefl _ this
  have f1 : (N.take i).filter (fun n => !decide (n.nm = s)) = N.take i := List.filter_eq_self.2 fun n hn => by
    obtain ⟨j, hj, rfl⟩ := List.getElem_of_mem hn
    rw [List.length_take] at hj
    rw [List.getElem_take, decide_eq_false (hne j (by omega) (by omega))]
    rfl
  have f2 : (N.drop (i + 1)).filter (fun n => !decide (n.nm = s)) = N.drop (i + 1) := List.filter_eq_self.2 fun n hn => by
    obtain ⟨j, hj, rfl⟩ := List.getElem_of_mem hn
    rw [List.length_drop] at hj
    rw [List.getElem_drop, decide_eq_false (hne (i + 1 + j) (by omega) (by omega))]
    rfl
  have f3 : rmName N s = (N.take i ++ N[i] :: N.drop (i + 1)).filter fun n => !decide (n.nm = s) := by rw [← e]; rfl
  rw [f3, List.filter_append, List.filter_cons, f1, f2, decide_eq_true he]
  rfl
theorem rm_none {N : List Nm} {s : ByteArray} (h : ∀ n ∈ N, n.nm ≠ s) : rmName N s = N := List.filter_eq_self.2 fun n hn => by rw [decide_eq_false (h n hn)]; rfl
set_option maxHeartbeats 4000000 in
set_option maxRecDepth 100000 in
theorem unlink_any (gd B : Nat) (fs : FS) (s : ByteArray) (w : World) (hB : B ≤ w.heap.size) (h : Dir w B gd fs) (hs : NSrt fs.N) (hm : Small fs) :
    Calls Tryd.prog 92 #[.pointer (some ⟨gd, 0, none⟩), .string s] w (DirRes B gd ⟨rmName fs.N s, fs.F, fs.O⟩ w) := by
  have hD0 := h
  obtain ⟨hBg, vN, vF, vO, hBk, hO⟩ := h
  obtain ⟨A1, c1, rfl, _⟩ := own_sl hO.n
  have hq := name_any gd s _ fs.N w ((hBk.cell 0).trans rfl) hO.r.n hs (by have := hm.n; omega)
  have HQ := keep hq
  have HBK := keep hBk
  have HO := keep hO
  have HD0 := keep hD0
  clear hq hBk hO hD0
  go_enter Tryd.func92, Tryd.ntmps92
  go_wp2_with fail
  refine HQ.out.mono ?_
  rintro e w1 ⟨i, hA, rfl, hb1⟩
  by_cases hc : cfAt_nm (cfn s) fs.N i = 0
  · rw [decide_eq_true hc]
    obtain ⟨hi, _, hrm⟩ := at_rm_yes hs hc
    have hz1 := hb1.size
    have hBW := HBK.out.below hb1 HBK.out.lt
    have hOW := HO.out.up hb1
    have k0 : w1.cell? ⟨gd, 0, none⟩ = some (.slice A1 fs.N.length c1) := (hBW.cell 0).trans rfl
    have hdel := delete_Nm _ fs.N.length i (nms fs.N) w1 B hOW.n hi (nms_one _) (by have := hm.n; omega)
    have HRM := keep hrm
    have HDEL := keep hdel
    have HBW := keep hBW
    have HOW := keep hOW
    have HB2 := keep hb1
    have HBG := keep hBg
    have i1 : (i : Int) < (fs.N.length : Int) := by omega
    have i2 : (fs.N.length : Int) ≤ 1000 := by have := hm.n; omega
    clear hA hc hrm hdel hBW hOW hb1 hm
    go_wp2_with fail
    refine HDEL.out.mono ?_
    rintro e w3 ⟨v3, rfl, ho3, hg3⟩
    obtain ⟨A5, c5, rfl, _⟩ := own_sl ho3
    have hrow : (nms fs.N).take (i * 2) ++ (nms fs.N).drop ((i + 1) * 2) = nms (rmName fs.N s) := by
      rw [HRM.out, show nms fs.N = fs.N.flatMap nmV from rfl, rows_take nmV_len _ _ (by omega), rows_drop nmV_len _ _ (by omega)]
      simp [nms]
    have hlen : (rmName fs.N s).length = fs.N.length - 1 := by rw [HRM.out, List.length_append, List.length_take, List.length_drop]; omega
    rw [hrow] at ho3
    have ho4 : w3.ownsRow B 57 2 (.slice A5 (fs.N.length - 1) c5) (rmName fs.N s).length (nms (rmName fs.N s)) := by rw [hlen]; exact ho3
    have hb3 := HBW.out.grown hg3 (fun e => own_off HOW.out.n HBW.out (by decide) e.symm)
    have hO3 : FsO w3 B (.slice A5 (fs.N.length - 1) c5) vF vO ⟨rmName fs.N s, fs.F, fs.O⟩ := HOW.out.putN hg3 ho4
    have hD : Dir (w3.setCell ⟨gd, 0, none⟩ (.slice A5 (fs.N.length - 1) c5)) B gd ⟨rmName fs.N s, fs.F, fs.O⟩ := ⟨HBG.out, _, _, _, hb3.set_ 0 _, hO3.set_ hb3 0 _⟩
    have hBe : Below B w (w3.setCell ⟨gd, 0, none⟩ (.slice A5 (fs.N.length - 1) c5)) := (((HB2.out.mono hB).grown hg3 (Nat.le_trans hB HB2.out.size) (own_ge HOW.out.n))).setCell (p := ⟨gd, 0, none⟩) HBG.out _
    have q1 : w3.cell? ⟨gd, 0, none⟩ = some (.slice A1 fs.N.length c1) := (hb3.cell 0).trans rfl
    have q2 : w3.frozen? ⟨gd, 0, none⟩ = false := hb3.frozen 0
    have HD := keep hD
    have HBE := keep (And.intro hBe ((TyKeep.of_below HB2.out |>.trans (TyKeep.grown hg3 HOW.out.n (.inr rfl))).trans (TyKeep.set_ hb3 0 (.slice A5 (fs.N.length - 1) c5))))
    clear hD hBe hb3 hO3 ho3 ho4 hg3 HDEL HOW HBW hrow hlen
    go_wp2_with fail
    go_end0
    exact ⟨rfl, HD.out, HBE.out⟩
  · rw [decide_eq_false hc]
    have HRM := keep (rm_none (at_rm_no hs hA hc))
    have HB2 := keep hb1
    clear hA hc hb1
    go_wp2_with fail
    go_end0
    refine ⟨rfl, ?_, HB2.out.mono hB, TyKeep.of_below HB2.out⟩
    rw [HRM.out]
    exact HD0.out.up HB2.out
end Go.Proofs.YtgegmefnbkcdkaaDoor
namespace Go.Proofs.YtgegmefnbkcdkaaDoor
open Go.RowKit
theorem bys_one (l : List UInt8) : ∀ u ∈ bys l, u.oneCell' = true := by
  intro u hu
  obtain ⟨x, _, rfl⟩ := List.mem_map.1 hu
  rfl
/-- Bytes that are given. -/
def BR (w : World) (v : Value) (l : List UInt8) : Prop := Sl w (lt w.heap.size) 1 v l.length (bys l)
theorem BR.up {w w' : World} {v : Value} {l : List UInt8} (h : BR w v l) (hb : Below w.heap.size w w') : BR w' v l := Sl.upW h hb
theorem FiR.br {w : World} {t : Fi} (h : FiR w t) : BR w t.dv t.data := h.1.mono fun _ hb => hb.lt_
theorem clone_bytes (v : Value) (l : List UInt8) (w : World) (h : BR w v l) (hm : l.length ≤ 1000000) : Calls Tryd.prog 29 #[v] w fun x w' => ∃ v', x = .returned v' ∧ w'.ownsRow w.heap.size 5 1 v' l.length (bys l) ∧ Below w.heap.size w w' :=
  clone_By v l.length (bys l) w _ h (bys_one l) (fun _ hb => hb) hm
/-- Five cells of a box are written. -/
theorem Blk.five {w : World} {g : Nat} {t : TypeId} {a0 a1 a2 a3 a4 : Value} (h : Blk w g t #[a0, a1, a2, a3, a4]) (b0 b1 b2 b3 b4 : Value) :
    Blk (((((w.setCell ⟨g, 0, none⟩ b0).setCell ⟨g, 1, none⟩ b1).setCell ⟨g, 2, none⟩ b2).setCell ⟨g, 3, none⟩ b3).setCell ⟨g, 4, none⟩ b4) g t #[b0, b1, b2, b3, b4] :=
  ((((h.set_ 0 b0).set_ 1 b1).set_ 2 b2).set_ 3 b3).set_ 4 b4
theorem below_five {B g : Nat} {a w : World} (h : Below B a w) (hg : B ≤ g) (b0 b1 b2 b3 b4 : Value) :
    Below B a (((((w.setCell ⟨g, 0, none⟩ b0).setCell ⟨g, 1, none⟩ b1).setCell ⟨g, 2, none⟩ b2).setCell ⟨g, 3, none⟩ b3).setCell ⟨g, 4, none⟩ b4) :=
  ((((h.setCell (p := ⟨g, 0, none⟩) hg b0).setCell (p := ⟨g, 1, none⟩) hg b1).setCell (p := ⟨g, 2, none⟩) hg b2).setCell (p := ⟨g, 3, none⟩) hg b3).setCell (p := ⟨g, 4, none⟩) hg b4
theorem grown_five (w : World) (g : Nat) (b0 b1 b2 b3 b4 : Value) :
    w.grownBy (((((w.setCell ⟨g, 0, none⟩ b0).setCell ⟨g, 1, none⟩ b1).setCell ⟨g, 2, none⟩ b2).setCell ⟨g, 3, none⟩ b3).setCell ⟨g, 4, none⟩ b4) (some g) :=
  grownBy_set (grownBy_set (grownBy_set (grownBy_set (grownBy_set (World.grownBy.refl w _) 0 b0) 1 b1) 2 b2) 3 b3) 4 b4
def FreshRes (l : List UInt8) (w : World) (x : Ending) (w' : World) : Prop := ∃ dv, x = .returned (.agg #[.int .i64 0, dv, .bool false, .bool true, .int .i64 0]) ∧ FiR w' ⟨0, dv, l, false, true, 0⟩ ∧ Below w.heap.size w w'
set_option maxHeartbeats 4000000 in
set_option maxRecDepth 100000 in
theorem fresh_any (v : Value) (l : List UInt8) (w : World) (h : BR w v l) (hm : l.length ≤ 1000000) : Calls Tryd.prog 90 #[v] w (FreshRes l w) := by
  obtain ⟨W, hW⟩ : ∃ W, W = w.alloc (.cells #[.int .i64 0, .slice none 0 0, .bool false, .bool false, .int .i64 0] 60) := ⟨_, rfl⟩
  have hBk : Blk W w.heap.size 60 #[.int .i64 0, .slice none 0 0, .bool false, .bool false, .int .i64 0] := hW ▸ Blk.new _ _ _
  have hb : Below w.heap.size w W := hW ▸ (Below.refl _ w).alloc (Nat.le_refl _) _
  obtain ⟨A, c, rfl, _, _⟩ := Sl.form h
  have hq := clone_bytes _ l W (h.up hb) hm
  have HQ := keep hq
  have HB := keep hb
  have HBK := keep hBk
  clear hq hb hBk h
  go_enter Tryd.func90, Tryd.ntmps90
  go_wp2_with fail
  rw [← hW]
  clear hW
  go_wp2_with fail
  refine HQ.out.mono ?_
  rintro e w3 ⟨v3, rfl, ho3, hb3⟩
  obtain ⟨A5, c5, rfl, _⟩ := own_sl ho3
  have hB3 := HBK.out.below hb3 HBK.out.lt
  have k0 : w3.cell? ⟨w.heap.size, 0, none⟩ = some (.int .i64 0) := (hB3.cell 0).trans rfl
  have k1 : w3.cell? ⟨w.heap.size, 1, none⟩ = some (.slice none 0 0) := (hB3.cell 1).trans rfl
  have k2 : w3.cell? ⟨w.heap.size, 2, none⟩ = some (.bool false) := (hB3.cell 2).trans rfl
  have k3 : w3.cell? ⟨w.heap.size, 3, none⟩ = some (.bool false) := (hB3.cell 3).trans rfl
  have k4 : w3.cell? ⟨w.heap.size, 4, none⟩ = some (.int .i64 0) := (hB3.cell 4).trans rfl
  have f0 : w3.frozen? ⟨w.heap.size, 0, none⟩ = false := hB3.frozen 0
  have f1 : w3.frozen? ⟨w.heap.size, 1, none⟩ = false := hB3.frozen 1
  have f2 : w3.frozen? ⟨w.heap.size, 2, none⟩ = false := hB3.frozen 2
  have f3 : w3.frozen? ⟨w.heap.size, 3, none⟩ = false := hB3.frozen 3
  have f4 : w3.frozen? ⟨w.heap.size, 4, none⟩ = false := hB3.frozen 4
  have HB3 := keep hB3
  have HBF := keep (bchain HB.out hb3)
  have HF := keep (show FiR w3 ⟨0, .slice A5 l.length c5, l, false, true, 0⟩ from ⟨own_u8 ho3, hm⟩)
  clear hB3 hb3 ho3
  go_wp2_with fail
  have hb' := HB3.out.five (.int .i64 0) (.slice A5 l.length c5) (.bool false) (.bool true) (.int .i64 0)
  refine bodyPost_ret (results_cell_row rfl _ _ _ _ _ _ _ rfl hb' Tryd.underlying60 rfl (by kernel_rfl)) rfl ?_
  exact ⟨_, rfl, HF.out.grown (grown_five _ _ _ _ _ _ _) (noU8 HB3.out (by decide)), below_five HBF.out (Nat.le_refl _) _ _ _ _ _⟩
end Go.Proofs.YtgegmefnbkcdkaaDoor
