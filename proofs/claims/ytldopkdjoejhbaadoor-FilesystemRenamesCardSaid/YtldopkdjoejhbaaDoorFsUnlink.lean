/- The methods of a directory that is being changed: unlink, fresh. -/
import Derived.Test.YtldopkdjoejhbaaDoorFsLink
namespace Go.Proofs.YtldopkdjoejhbaaDoor
open Go.RowKit

def rmName (N : List Nm) (s : ByteArray) : List Nm := N.filter fun n => !decide (n.nm = s)
theorem at_rm_no {N : List Nm} {s : ByteArray} {i : Nat} (hs : NSrt N) (h : At_nm (cfn s) N i) (h0 : cfAt_nm (cfn s) N i ≠ 0) : ∀ n ∈ N, n.nm ≠ s := by
  intro n hn e
  obtain ⟨j, hj, rfl⟩ := List.getElem_of_mem hn
  have hz : cfn s N[j] = 0 := cfn_zero.2 e
  rcases Nat.lt_trichotomy j i with hlt | rfl | hgt
  · have := h.2.1 j hlt
    rw [cfAt_nm_in hj] at this
    omega
  · rw [cfAt_nm_in hj] at h0
    exact h0 hz
  · have h1 := List.pairwise_iff_getElem.1 hs i j (by omega) hj hgt
    rw [e] at h1
    have h2 := h.2.2 i (Nat.le_refl _)
    rw [cfAt_nm_in (by omega)] at h2
    have := cfn_neg.2 h1
    omega
theorem at_rm_yes {N : List Nm} {s : ByteArray} {i : Nat} (hs : NSrt N) (h0 : cfAt_nm (cfn s) N i = 0) : ∃ hi : i < N.length, N[i].nm = s ∧ rmName N s = N.take i ++ N.drop (i + 1) := by
  have hi : i < N.length := by
    rcases Nat.lt_or_ge i N.length with h | h
    · exact h
    · rw [cfAt_nm_out h] at h0; omega
  rw [cfAt_nm_in hi] at h0
  have he := cfn_zero.1 h0
  refine ⟨hi, he, ?_⟩
  have e : N = N.take i ++ N[i] :: N.drop (i + 1) := by rw [← List.drop_eq_getElem_cons hi, List.take_append_drop]
  have hne : ∀ j, (hj : j < N.length) → j ≠ i → N[j].nm ≠ s := fun j hj hji ej => by
    rcases Nat.lt_or_gt_of_ne hji with h1 | h1
    · have := List.pairwise_iff_getElem.1 hs j i hj hi h1
      rw [ej, he] at this
      exact List.lt_irrefl _ this
    · have := List.pairwise_iff_getElem.1 hs i j hi hj h1
      rw [ej, he] at this
      exact List.lt_irrefl _ this
  have f1 : (N.take i).filter (fun n => !decide (n.nm = s)) = N.take i := List.filter_eq_self.2 fun n hn => by
    obtain ⟨j, hj, rfl⟩ := List.getElem_of_mem hn
    rw [List.length_take] at hj
    rw [List.getElem_take, decide_eq_false (hne j (by omega) (by omega))]
    rfl
  have f2 : (N.drop (i + 1)).filter (fun n => !decide (n.nm = s)) = N.drop (i + 1) := List.filter_eq_self.2 fun n hn => by
    obtain ⟨j, hj, rfl⟩ := List.getElem_of_mem hn
    rw [List.length_drop] at hj
    rw [List.getElem_drop, decide_eq_false (hne (i + 1 + j) (by omega) (by omega))]
    rfl
  have f3 : rmName N s = (N.take i ++ N[i] :: N.drop (i + 1)).filter fun n => !decide (n.nm = s) := by rw [← e]; rfl
  rw [f3, List.filter_append, List.filter_cons, f1, f2, decide_eq_true he]
  rfl
theorem rm_none {N : List Nm} {s : ByteArray} (h : ∀ n ∈ N, n.nm ≠ s) : rmName N s = N := List.filter_eq_self.2 fun n hn => by rw [decide_eq_false (h n hn)]; rfl
set_option maxHeartbeats 4000000 in
set_option maxRecDepth 100000 in
theorem unlink_any (gd B : Nat) (fs : FS) (s : ByteArray) (w : World) (hB : B ≤ w.heap.size) (h : Dir w B gd fs) (hs : NSrt fs.N) (hm : Small fs) :
    Calls Tryd.prog 112 #[.pointer (some ⟨gd, 0, none⟩), .string s] w (DirRes B gd ⟨rmName fs.N s, fs.F, fs.O⟩ w) := by
  have hD0 := h
  obtain ⟨hBg, vN, vF, vO, hBk, hO⟩ := h
  obtain ⟨A1, c1, rfl, _⟩ := own_sl hO.n
  have hq := name_any gd s _ fs.N w ((hBk.cell 0).trans rfl) hO.r.n hs (by have := hm.n; omega)
  have HQ := keep hq
  have HBK := keep hBk
  have HO := keep hO
  have HD0 := keep hD0
  clear hq hBk hO hD0
  go_enter Tryd.func112, Tryd.ntmps112
  go_wp2_with fail
  refine HQ.out.mono ?_
  rintro e w1 ⟨i, hA, rfl, hb1⟩
  by_cases hc : cfAt_nm (cfn s) fs.N i = 0
  · rw [decide_eq_true hc]
    obtain ⟨hi, _, hrm⟩ := at_rm_yes hs hc
    have hz1 := hb1.size
    have hBW := HBK.out.below hb1 HBK.out.lt
    have hOW := HO.out.up hb1
    have k0 : w1.cell? ⟨gd, 0, none⟩ = some (.slice A1 fs.N.length c1) := (hBW.cell 0).trans rfl
    have hdel := delete_Nm _ fs.N.length i (nms fs.N) w1 B hOW.n hi (nms_one _) (by have := hm.n; omega)
    have HRM := keep hrm
    have HDEL := keep hdel
    have HBW := keep hBW
    have HOW := keep hOW
    have HB2 := keep hb1
    have HBG := keep hBg
    have i1 : (i : Int) < (fs.N.length : Int) := by omega
    have i2 : (fs.N.length : Int) ≤ 1000 := by have := hm.n; omega
    clear hA hc hrm hdel hBW hOW hb1 hm
    go_wp2_with fail
    refine HDEL.out.mono ?_
    rintro e w3 ⟨v3, rfl, ho3, hg3⟩
    obtain ⟨A5, c5, rfl, _⟩ := own_sl ho3
    have hrow : (nms fs.N).take (i * 2) ++ (nms fs.N).drop ((i + 1) * 2) = nms (rmName fs.N s) := by
      rw [HRM.out, show nms fs.N = fs.N.flatMap nmV from rfl, rows_take nmV_len _ _ (by omega), rows_drop nmV_len _ _ (by omega)]
      simp [nms]
    have hlen : (rmName fs.N s).length = fs.N.length - 1 := by rw [HRM.out, List.length_append, List.length_take, List.length_drop]; omega
    rw [hrow] at ho3
    have ho4 : w3.ownsRow B 69 2 (.slice A5 (fs.N.length - 1) c5) (rmName fs.N s).length (nms (rmName fs.N s)) := by rw [hlen]; exact ho3
    have hb3 := HBW.out.grown hg3 (fun e => own_off HOW.out.n HBW.out (by decide) e.symm)
    have hO3 : FsO w3 B (.slice A5 (fs.N.length - 1) c5) vF vO ⟨rmName fs.N s, fs.F, fs.O⟩ := HOW.out.putN hg3 ho4
    have hD : Dir (w3.setCell ⟨gd, 0, none⟩ (.slice A5 (fs.N.length - 1) c5)) B gd ⟨rmName fs.N s, fs.F, fs.O⟩ := ⟨HBG.out, _, _, _, hb3.set_ 0 _, hO3.set_ hb3 0 _⟩
    have hBe : Below B w (w3.setCell ⟨gd, 0, none⟩ (.slice A5 (fs.N.length - 1) c5)) := (((HB2.out.mono hB).grown hg3 (Nat.le_trans hB HB2.out.size) (own_ge HOW.out.n))).setCell (p := ⟨gd, 0, none⟩) HBG.out _
    have q1 : w3.cell? ⟨gd, 0, none⟩ = some (.slice A1 fs.N.length c1) := (hb3.cell 0).trans rfl
    have q2 : w3.frozen? ⟨gd, 0, none⟩ = false := hb3.frozen 0
    have HD := keep hD
    have HBE := keep (And.intro hBe ((TyKeep.of_below HB2.out |>.trans (TyKeep.grown hg3 HOW.out.n (.inr rfl))).trans (TyKeep.set_ hb3 0 (.slice A5 (fs.N.length - 1) c5))))
    clear hD hBe hb3 hO3 ho3 ho4 hg3 HDEL HOW HBW hrow hlen
    go_wp2_with fail
    go_end0
    exact ⟨rfl, HD.out, HBE.out⟩
  · rw [decide_eq_false hc]
    have HRM := keep (rm_none (at_rm_no hs hA hc))
    have HB2 := keep hb1
    clear hA hc hb1
    go_wp2_with fail
    go_end0
    refine ⟨rfl, ?_, HB2.out.mono hB, TyKeep.of_below HB2.out⟩
    rw [HRM.out]
    exact HD0.out.up HB2.out
end Go.Proofs.YtldopkdjoejhbaaDoor
