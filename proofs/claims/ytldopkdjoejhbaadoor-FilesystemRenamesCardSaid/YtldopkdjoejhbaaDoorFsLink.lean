/- The methods of a directory that is being changed: link, unlink. -/
import Derived.Test.YtldopkdjoejhbaaDoorFsValid
namespace Go.Proofs.YtldopkdjoejhbaaDoor
open Go.RowKit

theorem Dir.lt_ {w : World} {B gd : Nat} {fs : FS} (h : Dir w B gd fs) : gd < w.heap.size := by
  obtain ⟨_, _, _, _, hb, _⟩ := h
  exact hb.lt
theorem Dir.up {w w' : World} {B gd : Nat} {fs : FS} (h : Dir w B gd fs) (hb : Below w.heap.size w w') : Dir w' B gd fs := by
  obtain ⟨h1, vN, vF, vO, h2, h3⟩ := h
  exact ⟨h1, vN, vF, vO, h2.below hb h2.lt, h3.up hb⟩
/-- Where a name is put in. -/
def putName (N : List Nm) (t : Nm) : List Nm := N.takeWhile (fun n => decide (lb n.nm < lb t.nm)) ++ t :: N.dropWhile fun n => decide (lb n.nm < lb t.nm)
theorem at_split {N : List Nm} {s : ByteArray} {i : Nat} (h : At_nm (cfn s) N i) : N.takeWhile (fun n => decide (lb n.nm < lb s)) = N.take i ∧ N.dropWhile (fun n => decide (lb n.nm < lb s)) = N.drop i := by
  obtain ⟨hi, h1, h2⟩ := h
  have e : N = N.take i ++ N.drop i := (List.take_append_drop i N).symm
  have a1 : ∀ n ∈ N.take i, decide (lb n.nm < lb s) = true := fun n hn => by
    obtain ⟨j, hj, rfl⟩ := List.getElem_of_mem hn
    rw [List.length_take] at hj
    rw [List.getElem_take]
    have := h1 j (by omega)
    rw [cfAt_nm_in (by omega), cfn_neg] at this
    exact decide_eq_true this
  have a2 : ∀ n, (N.drop i).head? = some n → decide (lb n.nm < lb s) = false := fun n hn => by
    rw [List.head?_drop] at hn
    obtain ⟨hi2, rfl⟩ := List.getElem?_eq_some_iff.1 hn
    have := h2 i (Nat.le_refl _)
    rw [cfAt_nm_in hi2] at this
    exact decide_eq_false fun h => by have := cfn_neg.2 h; omega
  constructor
  · rw [e, List.takeWhile_append_of_pos a1]
    have : (N.drop i).takeWhile (fun n => decide (lb n.nm < lb s)) = [] := by
      cases hd : N.drop i with
      | nil => rfl
      | cons n r => rw [List.takeWhile_cons, if_neg]; rw [a2 n (by rw [hd]; rfl)]; simp
    rw [this, List.append_nil, ← e]
  · rw [e, List.dropWhile_append_of_pos a1, ← e]
    cases hd : N.drop i with
    | nil => rfl
    | cons n r => rw [List.dropWhile_cons, if_neg]; rw [a2 n (by rw [hd]; rfl)]; simp
set_option maxHeartbeats 4000000 in
set_option maxRecDepth 100000 in
theorem link_any (gd B : Nat) (fs : FS) (s : ByteArray) (ino : Int) (w : World) (hB : B ≤ w.heap.size) (h : Dir w B gd fs) (hs : NSrt fs.N) (hm : Small fs) :
    Calls Tryd.prog 108 #[.pointer (some ⟨gd, 0, none⟩), .string s, .int .i64 ino] w (DirRes B gd ⟨putName fs.N ⟨s, ino⟩, fs.F, fs.O⟩ w) := by
  obtain ⟨hBg, vN, vF, vO, hBk, hO⟩ := h
  obtain ⟨A1, c1, rfl, _⟩ := own_sl hO.n
  have hq := name_any gd s _ fs.N w ((hBk.cell 0).trans rfl) hO.r.n hs (by have := hm.n; omega)
  have HQ := keep hq
  have HBK := keep hBk
  have HO := keep hO
  clear hq hBk hO
  go_enter Tryd.func108, Tryd.ntmps108
  go_wp2_with fail
  refine HQ.out.mono ?_
  rintro e w1 ⟨i, hA, rfl, hb1⟩
  have hsp := at_split hA
  have hi := hA.1
  have hz1 := hb1.size
  have hB1 := HBK.out.below hb1 HBK.out.lt
  have hO1 := HO.out.up hb1
  have k0 : w1.cell? ⟨gd, 0, none⟩ = some (.slice A1 fs.N.length c1) := (hB1.cell 0).trans rfl
  have hgl1 := hB1.lt
  clear hA
  generalize decide (cfAt_nm (cfn s) fs.N i = 0) = q
  have HSP := keep hsp
  have HB1 := keep hB1
  have HO1 := keep hO1
  have HBB := keep hb1
  clear hsp hB1 hO1 hb1
  have hal : Below w1.heap.size w1 (w1.alloc (.cells #[.string s, .int .i64 ino] 69)) := (Below.refl _ w1).alloc (Nat.le_refl _) _
  obtain ⟨W, hW⟩ : ∃ W, W = w1.alloc (.cells #[.string s, .int .i64 ino] 69) := ⟨_, rfl⟩
  rw [← hW] at hal
  have hBn : Blk W w1.heap.size 69 #[.string s, .int .i64 ino] := hW ▸ Blk.new _ _ _
  have hOW := HO1.out.up hal
  have hBW := HB1.out.below hal hgl1
  have hins := insert_Nm _ fs.N.length i (nms fs.N) [.string s, .int .i64 ino] w1.heap.size W B hOW.n (by have := hal.size; omega) hi hBn rfl (fun e => by
    have := (HO1.out.n.lt w1.heap.size e).2
    omega) (nms_one _) (by intro u hu; simp at hu; rcases hu with rfl | rfl <;> rfl) (by have := hm.n; omega)
  have HINS := keep hins
  have HOW := keep hOW
  have HBW := keep hBW
  have hb2 := bchain HBB.out hal
  have HB2 := keep hb2
  have HBG := keep hBg
  clear hins hOW hBW hBn hal hb2 hm
  go_wp2_with fail
  rw [← hW]
  clear hW
  go_wp2_with fail
  refine HINS.out.mono ?_
  rintro e w3 ⟨v3, rfl, ho3, hg3⟩
  obtain ⟨A5, c5, rfl, _⟩ := own_sl ho3
  have hrow : (nms fs.N).take (i * 2) ++ [.string s, .int .i64 ino] ++ (nms fs.N).drop (i * 2) = nms (putName fs.N ⟨s, ino⟩) := by
    unfold putName
    have e1 : fs.N.takeWhile (fun n => decide (lb n.nm < lb s)) = fs.N.take i := HSP.out.1
    have e2 : fs.N.dropWhile (fun n => decide (lb n.nm < lb s)) = fs.N.drop i := HSP.out.2
    show _ = nms (fs.N.takeWhile (fun n => decide (lb n.nm < lb s)) ++ ⟨s, ino⟩ :: fs.N.dropWhile fun n => decide (lb n.nm < lb s))
    rw [e1, e2, show nms fs.N = fs.N.flatMap nmV from rfl, rows_take nmV_len _ _ hi, rows_drop nmV_len _ _ hi]
    simp [nms, nmV]
  have hlen : (putName fs.N ⟨s, ino⟩).length = fs.N.length + 1 := by
    have := congrArg List.length hrow
    rw [nms_len] at this
    have h2 := ho3.1
    rw [this] at h2
    omega
  rw [hrow] at ho3
  have ho4 : w3.ownsRow B 69 2 (.slice A5 (fs.N.length + 1) c5) (putName fs.N ⟨s, ino⟩).length (nms (putName fs.N ⟨s, ino⟩)) := by rw [hlen]; exact ho3
  have hb3 := HBW.out.grown hg3 (fun e => own_off HOW.out.n HBW.out (by decide) e.symm)
  have hO3 : FsO w3 B (.slice A5 (fs.N.length + 1) c5) vF vO ⟨putName fs.N ⟨s, ino⟩, fs.F, fs.O⟩ := HOW.out.putN hg3 ho4
  have hD : Dir (w3.setCell ⟨gd, 0, none⟩ (.slice A5 (fs.N.length + 1) c5)) B gd ⟨putName fs.N ⟨s, ino⟩, fs.F, fs.O⟩ := ⟨HBG.out, _, _, _, hb3.set_ 0 _, hO3.set_ hb3 0 _⟩
  have hBe : Below B w (w3.setCell ⟨gd, 0, none⟩ (.slice A5 (fs.N.length + 1) c5)) := (((HB2.out.mono hB).grown hg3 (Nat.le_trans hB HB2.out.size) (own_ge HOW.out.n))).setCell (p := ⟨gd, 0, none⟩) HBG.out _
  have q1 : w3.cell? ⟨gd, 0, none⟩ = some (.slice A1 fs.N.length c1) := (hb3.cell 0).trans rfl
  have q2 : w3.frozen? ⟨gd, 0, none⟩ = false := hb3.frozen 0
  have HD := keep hD
  have HBE := keep (And.intro hBe ((TyKeep.of_below HB2.out |>.trans (TyKeep.grown hg3 HOW.out.n (.inr rfl))).trans (TyKeep.set_ hb3 0 (.slice A5 (fs.N.length + 1) c5))))
  clear hD hBe hb3 hO3 ho3 ho4 hg3 HINS HOW HBW hrow
  go_wp2_with fail
  go_end0
  exact ⟨rfl, HD.out, HBE.out⟩
end Go.Proofs.YtldopkdjoejhbaaDoor
