/- template.mine: the walk. -/
import Derived.Test.YtigogjlbemkhdaaGreatTmMine1
import Derived.Laws.EntriesVeiled
namespace Go.Proofs.YtigogjlbemkhdaaGreat
open Go.RowKit
variable {oB : Nat}
/-- A row of templates of our own is a part of its block. -/
theorem mid_of_own {w : World} {B : Nat} {v : Value} {L : List Tm} (h : w.ownsRow B 32 2 v L.length (tms L)) (hn : L ≠ []) : ∃ g c Y, v = .slice (some ⟨g, 0, none⟩) L.length c ∧ B ≤ g ∧ L.length ≤ c ∧ Mid w g [] L Y := by
  rcases h.2 with ⟨_, h0⟩ | ⟨g, cap, cur, hv, hb, hg, hc, _, hcs, ht⟩
  · exact absurd (List.eq_nil_of_length_eq_zero h0) hn
  · refine ⟨g, cap, cur.toList.drop (L.length * 2), hv, hb, hc, ?_⟩
    unfold Mid Blk
    rw [List.nil_append, ← ht, List.take_append_drop]
    exact hg
theorem blk_at {w : World} {g e : Nat} {cs : Array Value} (h : g = w.heap.size) : Blk (w.alloc (.cells cs e)) g e cs := by
  subst h
  exact Blk.new w e cs
/-- What mine does: the templates in a row of our own; the group's block has changed. -/
def MinesOut (n : Nat) (L : List Tm) (g : Nat) (w : World) (x : Ending) (w' : World) : Prop :=
  ∃ v' R, x = .returned v' ∧ w'.ownsRow w.heap.size 32 2 v' R.length (tms R) ∧ (∀ t ∈ R, TkM w' w.heap.size t) ∧ (tpL R).Perm (tplF n FUEL (tpL L)) ∧ R.length ≤ L.length ∧ w.grownBy w' (some g)
set_option maxRecDepth 100000 in
theorem mine_any (n : Nat) (hn1 : 1 ≤ n) (hn6 : n ≤ 60) (L : List Tm) (g c : Nat) (Y : List Value) (w : World) (hne : L ≠ []) (hM : Mid w g [] L Y) (hc : L.length ≤ c) (hct : CtOk L) (hT : ∀ t ∈ L, TkR oB w t ∧ t.tk.length = n) (hm : L.length ≤ 100000) (ho : oB ≤ w.heap.size) (hog : oB ≤ g) :
    Calls Tryz.prog 56 #[.slice (some ⟨g, 0, none⟩) L.length c] w (MinesOut n L g w) := by
  obtain ⟨w3, hw3⟩ : ∃ w3, w3 = (w.alloc (.cells #[.slice none 0 0] 23)).alloc (.cells #[.func (.func 72) #[] #[.pointer (some ⟨w.heap.size + 1, 0, none⟩), .pointer (some ⟨w.heap.size, 0, none⟩)]] 81) := ⟨_, rfl⟩
  have hbm : Blk w3 (w.heap.size + 1) 81 #[.func (.func 72) #[] #[.pointer (some ⟨w.heap.size + 1, 0, none⟩), .pointer (some ⟨w.heap.size, 0, none⟩)]] := by
    rw [hw3]
    exact blk_at (by simp)
  have hbo : Blk w3 w.heap.size 23 #[.slice none 0 0] := by
    rw [hw3]
    exact (Blk.new w _ _).alloc _
  have hbw : Below w.heap.size w w3 := by
    rw [hw3]
    exact ((Below.refl _ w).alloc (Nat.le_refl _) _).alloc (by simp) _
  have hM3 : Mid w3 g [] L Y := hM.same (hbw.block _ hM.inHeap)
  have HPRE : Hid (MinePre oB g w.heap.size (w.heap.size + 1) w.heap.size n [] L Y (.slice none 0 0) [] w3) := keep ⟨hM3, hbo, hbm, World.ownsRow_nil _ _ _ _, (by intro t ht; cases ht), (fun t ht => ⟨(hT t ht).1.up hbw, (hT t ht).2⟩), by simp [Value.ownBlock], hbw.size⟩
  have HCALL := keep (mine1_any (oB := oB) n w.heap.size g w.heap.size (w.heap.size + 1) hn1 hn6 hog ho ho FUEL L [] Y (.slice none 0 0) [] c w3 HPRE.out hne (by unfold FUEL; omega) hct hc (by simpa using hm))
  have HBW := keep hbw
  have HW3 := keep hw3
  have hgs := hM.inHeap
  clear hM hct hT hM3 hbo hbm hbw hw3
  go_enter Tryz.func56, Tryz.ntmps56
  go_wp2_with fail
  rw [← HW3.out]
  refine HCALL.out.mono ?_
  rintro e w9 ⟨rfl, L', R, ov', hP, hMd, hBo, hOw, hTk, hPR, hlR, hFr, hOn⟩
  have hgrw : w.grownBy w9 (some g) := ⟨hFr.os.trans HBW.out.os, hFr.tape.trans HBW.out.tape, hFr.output.trans HBW.out.output, Nat.le_trans HBW.out.size hFr.size, fun k hk hne => (hFr.block k (Nat.lt_of_lt_of_le hk HBW.out.size) (fun e => hne (by rw [e])) (by omega) (by simp [Value.ownBlock])).trans (HBW.out.block k hk)⟩
  have e0 : w9.cell? ⟨w.heap.size, 0, none⟩ = some ov' := (hBo.cell 0).trans rfl
  have HOW := keep hOw
  have HTK := keep hTk
  have HPR := keep hPR
  have HLR := keep hlR
  have HGR := keep hgrw
  clear hP hMd hBo hOw hTk hPR hlR hFr hOn hgrw
  obtain ⟨A, C, rfl, _⟩ := own_sl HOW.out
  go_wp2_with fail
  go_ret
  exact ⟨_, R, rfl, HOW.out, HTK.out, HPR.out, HLR.out, HGR.out⟩
end Go.Proofs.YtigogjlbemkhdaaGreat
