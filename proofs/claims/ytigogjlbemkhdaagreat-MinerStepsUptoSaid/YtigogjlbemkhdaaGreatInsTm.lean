/- slices.Insert of one element, slices.Delete of one, slices.Clone at logtide/api.Template. -/
import Derived.Test.YtigogjlbemkhdaaGreatEdit
import Derived.Deep.RegionLaw
import Derived.Lib.Overlaps
import Derived.Lib.AppendZeros
namespace Go.Proofs.YtigogjlbemkhdaaGreat
open Go.RowKit
theorem elTm : Elem Tryz.prog 23 32 2 32 (.agg #[.slice none 0 0, .int .i64 0]) := ⟨Tryz.underlying23, by kernel_rfl, rfl, by decide⟩
theorem zcTm : ∀ u ∈ (.agg #[.slice none 0 0, .int .i64 0] : Value).cells.toList, u.oneCell' = true := by simp [Value.cells, Value.oneCell']
def TmRes (w : World) (B : Nat) (v : Value) (n : Nat) (xs : List Value) (x : Ending) (w' : World) : Prop := ∃ v', x = .returned v' ∧ w'.ownsRow B 32 2 v' n xs ∧ w.grownBy w' v.ownBlock
set_option maxHeartbeats 4000000 in
theorem insertEnd_Tm (v : Value) (n : Nat) (xs news : List Value) (g2 : Nat) (w : World) (B : Nat) (hown : w.ownsRow B 32 2 v n xs) (hB : B ≤ w.heap.size) (hb2 : Blk w g2 32 news.toArray) (hnl : news.length = 2)
    (h1n : ∀ u ∈ news, u.oneCell' = true) (hn : n ≤ 1048576) :
    Calls Tryz.prog 53 #[v, .int .i64 n, .slice (some ⟨g2, 0, none⟩) 1 1] w (TmRes w B v (n + 1) (xs ++ news)) := by
  have hsl : Sl w (fun b => b = g2) 2 (.slice (some ⟨g2, 0, none⟩) 1 1) 1 news := ⟨by omega, _, _, rfl, Nat.le_refl _, fun _ => ⟨g2, 0, rfl, rfl, fun j u hu => by rw [Nat.zero_add, hb2.cell, List.getElem?_toArray]; exact hu⟩⟩
  have hown0 := hown
  have hc : ∃ A c, v = .slice A n c ∧ n ≤ c ∧ (A = none → n = 0) := by
    rcases hown.2 with ⟨rfl, rfl⟩ | ⟨g, cap, cur, rfl, _, _, hnc, _⟩
    · exact ⟨_, _, rfl, Nat.le_refl _, fun _ => rfl⟩
    · exact ⟨_, _, rfl, hnc, fun h => by cases h⟩
  obtain ⟨A, c, rfl, hnc, hA⟩ := hc
  have hn' : (n : Int) ≤ 1048576 := by omega
  have HO := keep hown0
  have HSL := keep hsl
  have H1 := keep h1n
  have HA := keep hA
  clear hown hown0 hb2 hsl h1n hnl hA
  by_cases hcn : c = n
  · subst hcn
    cases A with
    | none =>
      obtain rfl : c = 0 := HA.out rfl
      go_enter Tryz.func53, Tryz.ntmps53
      go_wp2_with (refine wpList_appendS elTm rfl _ _ rfl B _ 0 xs rfl HO.out _ _ 1 news rfl HSL.out H1.out (by unfold maxLen; omega) (by omega) hB ?_; intro v' w' hown' hb' hg')
      go_ret
      exact ⟨_, rfl, hown', hg'⟩
    | some A =>
      go_enter Tryz.func53, Tryz.ntmps53
      go_wp2_with (refine wpList_appendS elTm rfl _ _ rfl B _ c xs rfl HO.out _ _ 1 news rfl HSL.out H1.out (by unfold maxLen; omega) (by omega) hB ?_; intro v' w' hown' hb' hg')
      go_ret
      exact ⟨_, rfl, hown', hg'⟩
  · cases A with
    | none =>
      have h0 : n = 0 := HA.out rfl
      subst h0
      have h1 : ¬ (c - 0 = 0) := by omega
      go_enter Tryz.func53, Tryz.ntmps53
      go_wp2_with (refine wpList_appendS elTm rfl _ _ rfl B _ 0 xs rfl HO.out _ _ 1 news rfl HSL.out H1.out (by unfold maxLen; omega) (by omega) hB ?_; intro v' w' hown' hb' hg')
      go_ret
      exact ⟨_, rfl, hown', hg'⟩
    | some A =>
      have h1 : ¬ (c - n = 0) := by omega
      go_enter Tryz.func53, Tryz.ntmps53
      go_wp2_with (refine wpList_appendS elTm rfl _ _ rfl B _ n xs rfl HO.out _ _ 1 news rfl HSL.out H1.out (by unfold maxLen; omega) (by omega) hB ?_; intro v' w' hown' hb' hg')
      go_ret
      exact ⟨_, rfl, hown', hg'⟩
theorem ov_Tm (w : World) (g g2 : Nat) (cur : Array Value) (news : List Value) (off lb cb : Nat) (hg : w.heap[g]? = some (.cells cur 32 (0, 0))) (hb2 : Blk w g2 32 news.toArray) (hne : g2 ≠ g) (hc : cur.size ≠ 0) :
    (callFunc 70 #[.slice (some ⟨g2, 0, none⟩) 1 1, .slice (some ⟨g, off, none⟩) lb cb]).run Tryz.prog w = .ok (.value (.bool false)) w := by
  obtain ⟨i, hi, hz0, hz1, hz2⟩ := info_parts elTm.hi
  have hsa : w.shape? g2 = some (32, news.toArray.size) := by unfold World.shape?; rw [show w.heap[g2]? = _ from hb2]
  have hsb : w.shape? g = some (32, cur.size) := by unfold World.shape?; rw [hg]
  rw [run_callFunc_extern Tryz.func70 (by kernel_rfl) (by kernel_rfl) (by kernel_rfl) (e := Extern.SlicesOverlaps.overlaps #[23, 23] #[4]) (by kernel_rfl),
    Lib.run_overlaps_apart w 23 4 32 Tryz.underlying23 2 (fun w => by simp [sizeOf, typeInfo, hi, hz1]) ⟨g2, 0, none⟩ ⟨g, off, none⟩ 1 1 lb cb hne _ _ _ _ hsa hsb hc (hb2.frozen 0) (hb2.frozen _)]
  rfl
set_option maxHeartbeats 4000000 in
set_option maxRecDepth 100000 in
theorem insertIn_Tm (g cap n i : Nat) (xs news : List Value) (g2 : Nat) (w : World) (B : Nat) (hown : w.ownsRow B 32 2 (.slice (some ⟨g, 0, none⟩) n cap) n xs) (hi : i < n) (hroom : n + 1 ≤ cap) (hb2 : Blk w g2 32 news.toArray) (hne : g2 ≠ g) (hnl : news.length = 2)
    (h1 : ∀ u ∈ xs, u.oneCell' = true) (h1n : ∀ u ∈ news, u.oneCell' = true) (hn : n ≤ 1048576) :
    Calls Tryz.prog 53 #[.slice (some ⟨g, 0, none⟩) n cap, .int .i64 i, .slice (some ⟨g2, 0, none⟩) 1 1] w (TmRes w B (.slice (some ⟨g, 0, none⟩) n cap) (n + 1) (xs.take (i * 2) ++ news ++ xs.drop (i * 2))) := by
  obtain ⟨junk, hjl, hlong⟩ := own_longer (m := 1) hown hroom
  obtain ⟨cap', cur, he, hb1, hcur, hnc, hcm, hcs, hxs⟩ := own_at hown rfl
  injection he with _ _ he
  subst he
  have hov := fun off lb cb => ov_Tm w g g2 cur news off lb cb hcur hb2 hne (by rw [hcs]; omega)
  have hxl := hown.1
  have hn' : (n : Int) ≤ 1048576 := by omega
  have hi' : (i : Int) < (n : Int) := by omega
  have hz2 : ¬ ((i : Int) = (n : Int)) := by omega
  have hb2' : ¬ (cap = i + 1) := by omega
  have hb4 : ¬ (cap = i) := by omega
  have hc1 : (n : Int) + 1 ≤ (cap : Int) := by omega
  have hc2 : (cap : Int) ≤ 9223372036854775807 := by unfold maxLen at hcm; omega
  have hc3 : ¬ ((cap : Int) < (n : Int) + 1) := by omega
  have ht1 : ((n : Int) + 1).toNat = n + 1 := by omega
  have ht2 : ((i : Int) + 1).toNat = i + 1 := by omega
  have HL := keep hlong
  have H1 := keep h1
  have H1n := keep h1n
  have HXL := keep hxl
  have HJL := keep hjl
  have HNL := keep hnl
  have HB2 := keep hb2
  clear hlong h1 h1n hxl hjl hnl hb2 hcs hxs hcur hown hcm hb1
  go_enter Tryz.func53, Tryz.ntmps53
  go_wp2_with (simp only [hov])
  have hw1 : IntKind.i64.wrap ((i : Int) + 1) = (i : Int) + 1 := IntWalk.i64_in _ (by omega)
  have hb5 : (i : Int) + 1 ≤ (n : Int) + 1 := by omega
  have hb6 : (0 : Int) ≤ (i : Int) + 1 := by omega
  have hb7 : (i : Int) ≤ (n : Int) + 1 := by omega
  have hdl : (xs.drop (i * 2)).length = (n - i) * 2 := by rw [List.length_drop, HXL.out, Nat.sub_mul]
  have HDL := keep hdl
  clear hdl hov
  have hn1 : (xs.drop (i * 2)).length = Nat.min (n + 1 - i) (n + 1 - (i + 1)) * 2 := by
    rw [HDL.out]; congr 1; simp only [Nat.min_def]; split <;> omega
  have hs1 : ∀ j u, (xs.drop (i * 2))[j]? = some u → w.drew.cell? ((⟨g, i * 2, none⟩ : Addr).add j) = some u := by
    intro j u hu
    have h2 := HXL.out
    have hj : j < (xs.drop (i * 2)).length := (List.getElem?_eq_some_iff.1 hu).1
    rw [List.length_drop] at hj
    rw [Addr.add_lit]
    have h3 := own_cell HL.out rfl (i * 2 + j) (by rw [Nat.add_mul]; omega)
    rw [List.getElem?_append_left (by omega)] at h3
    rw [List.getElem?_drop] at hu
    exact h3.trans hu
  have hi1 : (i + 1) * 2 + (xs.drop (i * 2)).length ≤ (n + 1) * 2 := by
    rw [HDL.out, ← Nat.add_mul]; exact Nat.mul_le_mul_right _ (by omega)
  have ho1 : ∀ u ∈ xs.drop (i * 2), u.oneCell' = true := fun u hu => H1.out u (List.mem_of_mem_drop hu)
  have HN1 := keep hn1
  have HS1 := keep hs1
  have HI1 := keep hi1
  have HO1 := keep ho1
  clear hn1 hs1 hi1 ho1
  go_region_law (refine step_copyOwn elTm _ rfl _ _ rfl (show w.drew.ownsRow _ _ _ _ _ _ from HL.out) rfl ((i + 1) * 2) (n + 1 - (i + 1)) (cap - (i + 1)) (by simp [Act.eval, Act.put]) ⟨g, i * 2, none⟩ (n + 1 - i) (cap - i) (by simp [Act.eval, Act.put]) (xs.drop (i * 2)) HN1.out HS1.out HI1.out HO1.out ?_; intro w1 hown1 hgr1)
  have hgr1' : w.drew.grownBy w1 (some g) := hgr1
  have hb2x := Blk.grown (show Blk w.drew g2 32 news.toArray from HB2.out) hgr1' (by intro e; injection e with e; exact hne e)
  have hn2 : news.length = Nat.min 1 (n + 1 - i) * 2 := by
    rw [HNL.out, show Nat.min 1 (n + 1 - i) = 1 by simp only [Nat.min_def]; split <;> omega]
  have hs2 : ∀ j u, news[j]? = some u → w1.cell? ((⟨g2, 0, none⟩ : Addr).add j) = some u := fun j u hu => by
    rw [Addr.add_lit, Nat.zero_add, hb2x.cell, List.getElem?_toArray]; exact hu
  have hi2 : i * 2 + news.length ≤ (n + 1) * 2 := by rw [HNL.out]; omega
  have HN2 := keep hn2
  have HS2 := keep hs2
  have HI2 := keep hi2
  have HOW := keep hown1
  have HGR := keep hgr1'
  clear hn2 hs2 hi2 hb2x hown1 hgr1 hgr1'
  go_wp2_with (refine wpList_copyOwn elTm _ rfl _ _ rfl HOW.out rfl (i * 2) (n + 1 - i) (cap - i) rfl ⟨g2, 0, none⟩ 1 1 rfl news HN2.out HS2.out HI2.out H1n.out ?_; intro w2 hown2 hgr2)
  go_ret
  rw [ins_list xs junk news n i 2 HXL.out HJL.out HNL.out hi] at hown2
  exact ⟨_, rfl, by simpa [List.append_assoc] using hown2, grownBy_trans (grownBy_trans (grownBy_drew (World.grownBy.refl w (some g))) HGR.out) hgr2⟩
set_option maxHeartbeats 4000000 in
set_option maxRecDepth 100000 in
theorem insertGrow_Tm (g n i : Nat) (xs news : List Value) (g2 : Nat) (w : World) (B : Nat) (hown : w.ownsRow B 32 2 (.slice (some ⟨g, 0, none⟩) n n) n xs) (hB : B ≤ w.heap.size) (hi : i < n) (hb2 : Blk w g2 32 news.toArray) (hnl : news.length = 2)
    (h1 : ∀ u ∈ xs, u.oneCell' = true) (h1n : ∀ u ∈ news, u.oneCell' = true) (hn : n ≤ 1048576) :
    Calls Tryz.prog 53 #[.slice (some ⟨g, 0, none⟩) n n, .int .i64 i, .slice (some ⟨g2, 0, none⟩) 1 1] w (TmRes w B (.slice (some ⟨g, 0, none⟩) n n) (n + 1) (xs.take (i * 2) ++ news ++ xs.drop (i * 2))) := by
  obtain ⟨m, hm⟩ : ∃ m, m = n + 1 - i := ⟨_, rfl⟩
  have him : i + m = n + 1 := by omega
  have hgl : g < w.heap.size := (hown.lt g rfl).2
  have hg2l := hb2.lt
  have hsh := own_shorter (k := i) hown (by omega)
  obtain ⟨g3, c3, zs, w1, hrun, hzl, hown1, hb1⟩ := run_append_zeros elTm w 3 23 .i64 Tryz.underlying3 ⟨g, 0, none⟩ i n (xs.take (i * 2)) hsh.1
    (fun j u hu => by have := hsh.cells (g := g) rfl j u hu; exact this) m (by omega) (by omega) (by unfold maxLen; omega) (by omega)
  rw [him] at hrun hown1
  obtain ⟨_, _, he3, hg3, _, hc3, _⟩ := own_at hown1 rfl
  injection he3 with _ _ he3
  subst he3
  have hxl := hown.1
  have hn' : (n : Int) ≤ 1048576 := by omega
  have hi' : (i : Int) < (n : Int) := by omega
  have hi'' : (i : Int) ≤ (n : Int) := by omega
  have hq : (n : Int) + 1 - (i : Int) = (m : Int) := by omega
  have hz2 : ¬ ((i : Int) = (n : Int)) := by omega
  have hb4 : ¬ (n = i) := by omega
  have hb5 : ¬ (c3 = i) := by omega
  have hb6 : ¬ (c3 = i + 1) := by omega
  have hc1 : (n : Int) < (n : Int) + 1 := by omega
  have ht2 : ((i : Int) + 1).toNat = i + 1 := by omega
  have hb7 : (i : Int) ≤ (n : Int) + 1 := by omega
  have hdl : (xs.drop (i * 2)).length = (n - i) * 2 := by rw [List.length_drop, hxl, Nat.sub_mul]
  have hb2x : Blk w1 g2 32 news.toArray := hb2.below hb1 hg2l
  have hn2 : news.length = Nat.min 1 (n + 1 - i) * 2 := by
    rw [hnl, show Nat.min 1 (n + 1 - i) = 1 by simp only [Nat.min_def]; split <;> omega]
  have hs2 : ∀ j u, news[j]? = some u → w1.cell? ((⟨g2, 0, none⟩ : Addr).add j) = some u := fun j u hu => by
    rw [Addr.add_lit, Nat.zero_add, hb2x.cell, List.getElem?_toArray]; exact hu
  have hi2 : i * 2 + news.length ≤ (n + 1) * 2 := by rw [hnl]; omega
  have hn1 : (xs.drop (i * 2)).length = Nat.min (n - i) (n + 1 - (i + 1)) * 2 := by
    rw [hdl]; congr 1; simp only [Nat.min_def]; split <;> omega
  have hi1 : (i + 1) * 2 + (xs.drop (i * 2)).length ≤ (n + 1) * 2 := by
    rw [hdl, ← Nat.add_mul]; exact Nat.mul_le_mul_right _ (by omega)
  have ho1 : ∀ u ∈ xs.drop (i * 2), u.oneCell' = true := fun u hu => h1 u (List.mem_of_mem_drop hu)
  have hzl' : zs.length = (n + 1 - i) * 2 := by rw [hzl, hm]
  have hsrc : ∀ j u, (xs.drop (i * 2))[j]? = some u → w.cell? ⟨g, i * 2 + j, none⟩ = some u := by
    intro j u hu
    have hj : j < (xs.drop (i * 2)).length := (List.getElem?_eq_some_iff.1 hu).1
    rw [List.length_drop] at hj
    have h3 := own_cell hown rfl (i * 2 + j) (by omega)
    rw [List.getElem?_drop] at hu
    exact h3.trans hu
  have HXL := keep hxl
  have HZL := keep hzl'
  have HNL := keep hnl
  have HRUN := keep hrun
  have HOW1 := keep hown1
  have HB1 := keep hb1
  have HN1 := keep hn1
  have HN2 := keep hn2
  have HS2 := keep hs2
  have HI1 := keep hi1
  have HI2 := keep hi2
  have HO1 := keep ho1
  have HSR := keep hsrc
  have H1n := keep h1n
  clear h1 h1n hm him hsh hrun hzl hown1 hb1 hxl hdl hb2x hn2 hs2 hi2 hn1 hi1 ho1 hzl' hsrc hown hb2 hnl hi
  go_enter Tryz.func53, Tryz.ntmps53
  go_wp2_with (first
    | (refine wpList_copyOwn elTm _ rfl _ _ rfl HOW1.out rfl (i * 2) (n + 1 - i) (c3 - i) rfl ⟨g2, 0, none⟩ 1 1 rfl news HN2.out HS2.out HI2.out H1n.out ?_; intro w2 hown2 hgr2)
    | (refine Lib.wpList_append_run _ rfl _ _ _ _ rfl _ _ rfl rfl _ _ HRUN.out ?_))
  have hs3 : ∀ j u, (xs.drop (i * 2))[j]? = some u → w2.drew.cell? ((⟨g, i * 2, none⟩ : Addr).add j) = some u := by
    intro j u hu
    rw [Addr.add_lit]
    exact (World.cell?_of_block (hgr2.block g (Nat.lt_of_lt_of_le hgl HB1.out.size) (by intro e; injection e with e; exact absurd e (by omega)))).trans ((HB1.out.cell (p := ⟨g, i * 2 + j, none⟩) hgl).trans (HSR.out j u hu))
  have HS3 := keep hs3
  have HOW2 := keep hown2
  have HGR2 := keep hgr2
  clear hs3 hown2 hgr2 HRUN
  have hw1 : IntKind.i64.wrap ((i : Int) + 1) = (i : Int) + 1 := IntWalk.i64_in _ (by omega)
  have hb8 : (i : Int) + 1 ≤ (n : Int) + 1 := by omega
  have hb9 : (0 : Int) ≤ (i : Int) + 1 := by omega
  go_region_law (refine step_copyOwn elTm _ rfl _ _ rfl (show w2.drew.ownsRow _ _ _ _ _ _ from HOW2.out) rfl ((i + 1) * 2) (n + 1 - (i + 1)) (c3 - (i + 1)) (by simp [Act.eval, Act.put]) ⟨g, i * 2, none⟩ (n - i) (n - i) (by simp [Act.eval, Act.put]) (xs.drop (i * 2)) HN1.out HS3.out HI1.out HO1.out ?_; intro w3 hown3 hgr3)
  go_wp2_with fail
  go_ret
  rw [ins_list2 xs zs news n i 2 HXL.out HZL.out HNL.out (by omega)] at hown3
  have hgr3' : w2.drew.grownBy w3 (some g3) := hgr3
  have hown4 := own_base hown3 hB
  have hgr2' : w1.grownBy w2.drew (some g3) := grownBy_drew HGR2.out
  exact ⟨_, rfl, by simpa [List.append_assoc] using hown4, grownBy_fresh (grownBy_fresh (grownBy_of_below HB1.out _) hgr2' hg3) hgr3' hg3⟩
/-- slices.Insert of one element. -/
theorem insert_Tm (v : Value) (n i : Nat) (xs news : List Value) (g2 : Nat) (w : World) (B : Nat) (hown : w.ownsRow B 32 2 v n xs) (hB : B ≤ w.heap.size) (hi : i ≤ n) (hb2 : Blk w g2 32 news.toArray) (hnl : news.length = 2) (hne : v.ownBlock ≠ some g2)
    (h1 : ∀ u ∈ xs, u.oneCell' = true) (h1n : ∀ u ∈ news, u.oneCell' = true) (hn : n ≤ 1048576) :
    Calls Tryz.prog 53 #[v, .int .i64 i, .slice (some ⟨g2, 0, none⟩) 1 1] w (TmRes w B v (n + 1) (xs.take (i * 2) ++ news ++ xs.drop (i * 2))) := by
  by_cases hin : i = n
  · subst hin
    rw [← hown.1, List.take_length, List.drop_length, List.append_nil]
    exact insertEnd_Tm v i xs news g2 w B hown hB hb2 hnl h1n hn
  · rcases hown.2 with ⟨_, h0⟩ | ⟨g, cap, cur, rfl, _, _, hnc, _⟩
    · omega
    · have hne' : g2 ≠ g := fun e => hne (by rw [e]; rfl)
      by_cases hr : n + 1 ≤ cap
      · exact insertIn_Tm g cap n i xs news g2 w B hown (by omega) hr hb2 hne' hnl h1 h1n hn
      · obtain rfl : cap = n := by omega
        exact insertGrow_Tm g cap i xs news g2 w B hown hB (by omega) hb2 hnl h1 h1n hn
set_option maxHeartbeats 4000000 in
set_option maxRecDepth 100000 in
/-- slices.Clone. -/
theorem clone_Tm (v : Value) (n : Nat) (xs : List Value) (w : World) (S : Nat → Prop) (h : Sl w S 2 v n xs) (h1 : ∀ u ∈ xs, u.oneCell' = true) (hS : ∀ b, S b → b < w.heap.size) (hn : n ≤ 1048576) :
    Calls Tryz.prog 25 #[v] w fun x w' => ∃ v', x = .returned v' ∧ w'.ownsRow w.heap.size 32 2 v' n xs ∧ Below w.heap.size w w' := by
  obtain ⟨A, c, rfl, hc, hs⟩ := h.form
  have H1 := keep h1
  have HS := keep hs
  clear h1 h hs
  cases A with
  | none =>
    obtain rfl : n = 0 := by
      rcases Nat.eq_zero_or_pos n with h0 | h0
      · exact h0
      · obtain ⟨_, _, h, _⟩ := HS.out.row h0; cases h
    obtain rfl : xs = [] := List.eq_nil_of_length_eq_zero (by simpa using HS.out.1)
    have hnil := fun (w : World) => Lib.run_eql_slice_nil (P := Tryz.prog) w 23 32 none 0 c 0 0 Tryz.underlying23
    go_enter Tryz.func25, Tryz.ntmps25
    go_wp2_with fail
    go_ret
    exact ⟨_, rfl, World.ownsRow_nil _ _ _ _, Below.refl _ _⟩
  | some ad =>
    have hb : Below w.heap.size w (w.alloc (.cells #[] 32)) := (Below.refl _ w).alloc (Nat.le_refl _) _
    have ho := own_empty2 w 32 2
    have hz : w.heap.size ≤ (w.alloc (.cells #[] 32)).heap.size := by simp
    have hs2 := HS.out.keep (w' := w.alloc (.cells #[] 32)) fun p hp => hb.cell (hS _ hp)
    have HS2 := keep hs2
    clear hs2
    have hnil := fun (w : World) => Lib.run_eql_slice_nil (P := Tryz.prog) w 23 32 (some ad) n c 0 0 Tryz.underlying23
    go_enter Tryz.func25, Tryz.ntmps25
    go_wp2_with (refine wpList_appendS elTm rfl _ _ rfl w.heap.size _ 0 [] rfl ho _ _ n xs rfl HS2.out H1.out (by unfold maxLen; omega) (by omega) hz ?_; intro v' w' hown' hb' hg')
    go_ret
    rw [Nat.zero_add, List.nil_append] at hown'
    exact ⟨_, rfl, hown', hb.trans hb'⟩
set_option maxHeartbeats 4000000 in
set_option maxRecDepth 100000 in
theorem deleteLast_Tm (g n i : Nat) (xs : List Value) (w : World) (B : Nat) (hown : w.ownsRow B 32 2 (.slice (some ⟨g, 0, none⟩) n n) n xs) (hi : i < n) (hn : n ≤ 1048576) :
    Calls Tryz.prog 28 #[.slice (some ⟨g, 0, none⟩) n n, .int .i64 i, .int .i64 n] w (TmRes w B (.slice (some ⟨g, 0, none⟩) n n) i (xs.take (i * 2))) := by
  have hxl := hown.1
  have hle : i * 2 ≤ n * 2 := Nat.mul_le_mul_right _ (by omega)
  have hfit : i * 2 + (n - i) * 2 ≤ n * 2 := by rw [← Nat.add_mul]; exact Nat.mul_le_mul_right _ (by omega)
  have hn2 : (n : Int) ≤ 1048576 := by omega
  have hi' : (i : Int) < (n : Int) := by omega
  have hi3 : (i : Int) ≤ (n : Int) := by omega
  have hi5 : ¬ ((i : Int) = (n : Int)) := by omega
  have hcap : ¬ (n = i) := by omega
  have HOWN := keep hown
  have HX := keep hxl
  have HLE := keep hle
  have HFIT := keep hfit
  clear hown hxl hle hfit
  go_enter Tryz.func28, Tryz.ntmps28
  go_wp2_with fail
  go_region_law (refine step_appendIn elTm _ rfl _ _ rfl (show w.drew.ownsRow _ _ _ _ _ _ from HOWN.out) i (by simp [Act.eval, Act.put]) ⟨g, 0, none⟩ 0 0 (by simp [Act.eval, Act.put]) [] (by simp) (by simp) (by omega) (Nat.le_refl _) (by simp) ?_; intro w1 hown1 hgr1)
  have HOW1 := keep hown1
  have hgr1' : w.drew.grownBy w1 (some g) := hgr1
  have HGR1 := keep hgr1'
  clear hown1 hgr1 hgr1'
  go_wp2_with (refine wpList_clearOwn elTm zcTm _ rfl _ rfl HOW1.out rfl (i * 2) (n - i) (n - i) rfl (by omega) HFIT.out ?_; intro w2 zs hzl hown2 hgr2)
  go_ret
  have h3 := own_shorter (k := i) hown2 (by omega)
  have hxl := HX.out
  have hle := HLE.out
  have h4 : ((xs.take (i * 2) ++ [] ++ xs.drop (i * 2 + ([] : List Value).length)).take (i * 2) ++ zs ++ (xs.take (i * 2) ++ [] ++ xs.drop (i * 2 + ([] : List Value).length)).drop (i * 2 + zs.length)).take (i * 2) = xs.take (i * 2) := by
    rw [List.append_assoc, List.take_append_of_le_length (by simp only [List.length_take, List.length_append, List.length_drop, List.append_nil, List.length_nil]; omega), List.take_take, Nat.min_self, List.append_nil, List.take_append_of_le_length (by rw [List.length_take]; omega), List.take_take, Nat.min_self]
  rw [h4] at h3
  exact ⟨_, rfl, h3, grownBy_trans (grownBy_trans (grownBy_drew (World.grownBy.refl w (some g))) HGR1.out) hgr2⟩
set_option maxHeartbeats 4000000 in
set_option maxRecDepth 100000 in
theorem deleteIn_Tm (g p cap i : Nat) (xs : List Value) (w : World) (B : Nat) (hown : w.ownsRow B 32 2 (.slice (some ⟨g, 0, none⟩) (p + 1) cap) (p + 1) xs) (hip : i ≤ p) (hcap2 : ¬ (cap = i + 1)) (h1 : ∀ u ∈ xs, u.oneCell' = true) (hn : p ≤ 1048576) :
    Calls Tryz.prog 28 #[.slice (some ⟨g, 0, none⟩) (p + 1) cap, .int .i64 i, .int .i64 ((i : Int) + 1)] w (TmRes w B (.slice (some ⟨g, 0, none⟩) (p + 1) cap) p (xs.take (i * 2) ++ xs.drop ((i + 1) * 2))) := by
  obtain ⟨_, _, he, _, _, hnc, hcm, _⟩ := own_at hown rfl
  injection he with _ _ he
  subst he
  have hxl := hown.1
  have hj : (p - i) * 2 = (p + 1) * 2 - (i + 1) * 2 := by rw [← Nat.sub_mul]; congr 1; omega
  have hle : (i + 1) * 2 ≤ (p + 1) * 2 := Nat.mul_le_mul_right _ (by omega)
  have hdl : (xs.drop ((i + 1) * 2)).length = (p - i) * 2 := by rw [List.length_drop, hxl, hj]
  have hsrc : ∀ j u, (xs.drop ((i + 1) * 2))[j]? = some u → w.drew.cell? ((⟨g, (i + 1) * 2, none⟩ : Addr).add j) = some u := by
    intro j u hu
    have hjl : j < (xs.drop ((i + 1) * 2)).length := (List.getElem?_eq_some_iff.1 hu).1
    rw [List.length_drop] at hjl
    rw [Addr.add_lit]
    have h3 := own_cell hown rfl ((i + 1) * 2 + j) (by omega)
    rw [List.getElem?_drop] at hu
    exact h3.trans hu
  have ho1 : ∀ u ∈ xs.drop ((i + 1) * 2), u.oneCell' = true := fun u hu => h1 u (List.mem_of_mem_drop hu)
  have hfit : p * 2 + 1 * 2 ≤ (p + 1) * 2 := by rw [Nat.add_mul]; exact Nat.le_refl _
  have hn2 : (p : Int) ≤ 1048576 := by omega
  have hi' : (i : Int) ≤ (p : Int) := by omega
  have hi6 : (i : Int) ≤ (p : Int) + 1 := by omega
  have hi2 : (i : Int) + 1 ≤ (p : Int) + 1 := by omega
  have hi3 : (i : Int) ≤ (i : Int) + 1 := by omega
  have hi4 : (0 : Int) ≤ (i : Int) + 1 := by omega
  have hi5 : ¬ ((i : Int) = (i : Int) + 1) := by omega
  have hc1 : (p : Int) + 1 ≤ (cap : Int) := by omega
  have hc5 : (p : Int) ≤ (cap : Int) := by omega
  have hc4 : (i : Int) ≤ (cap : Int) := by omega
  have hc3 : (i : Int) + 1 ≤ (cap : Int) := by omega
  have hc2 : (cap : Int) ≤ 9223372036854775807 := by unfold maxLen at hcm; omega
  have ht : ((i : Int) + 1).toNat = i + 1 := by omega
  have ht2 : ((p : Int) + 1).toNat = p + 1 := by omega
  have hcap : ¬ (cap = i) := by omega
  have hcap3 : ¬ (cap = p) := by omega
  have HOWN := keep hown
  have HX := keep hxl
  have HDL := keep hdl
  have HS := keep hsrc
  have HO1 := keep ho1
  have HFIT := keep hfit
  clear hown hxl hj hdl hsrc ho1 h1 hcm hle hfit
  go_enter Tryz.func28, Tryz.ntmps28
  go_wp2_with fail
  go_region_law (refine step_appendIn elTm _ rfl _ _ rfl (show w.drew.ownsRow _ _ _ _ _ _ from HOWN.out) i (by simp [Act.eval, Act.put]) ⟨g, (i + 1) * 2, none⟩ (p - i) (cap - (i + 1)) (by simp [Act.eval, Act.put]) (xs.drop ((i + 1) * 2)) HDL.out HS.out (by omega) hnc HO1.out ?_; intro w1 hown1 hgr1)
  have HOW1 := keep hown1
  have hgr1' : w.drew.grownBy w1 (some g) := hgr1
  have HGR1 := keep hgr1'
  clear hown1 hgr1 hgr1'
  have hpp : (p : Int) ≤ (p : Int) + 1 := by omega
  go_wp2_with (refine wpList_clearOwn elTm zcTm _ rfl _ rfl HOW1.out rfl (p * 2) 1 (cap - p) rfl (by omega) HFIT.out ?_; intro w2 zs hzl hown2 hgr2)
  go_ret
  have h3 := own_shorter (k := p) hown2 (by omega)
  have hd := del_list xs zs (p + 1) i 2 (p * 2 + zs.length) HX.out (by omega)
  rw [Nat.add_sub_cancel] at hd
  rw [hd] at h3
  exact ⟨_, rfl, h3, grownBy_trans (grownBy_trans (grownBy_drew (World.grownBy.refl w (some g))) HGR1.out) hgr2⟩
/-- slices.Delete of one element. -/
theorem delete_Tm (v : Value) (n i : Nat) (xs : List Value) (w : World) (B : Nat) (hown : w.ownsRow B 32 2 v n xs) (hi : i < n) (h1 : ∀ u ∈ xs, u.oneCell' = true) (hn : n ≤ 1048576) :
    Calls Tryz.prog 28 #[v, .int .i64 i, .int .i64 ((i : Int) + 1)] w (TmRes w B v (n - 1) (xs.take (i * 2) ++ xs.drop ((i + 1) * 2))) := by
  have hxl := hown.1
  rcases hown.2 with ⟨_, h0⟩ | ⟨g, cap, cur, rfl, hBg, _, hnc, hcm, _⟩
  · omega
  by_cases hc : cap = i + 1
  · obtain rfl : n = i + 1 := by omega
    obtain rfl : cap = i + 1 := hc
    obtain ⟨n, hn1⟩ : ∃ n, n = i + 1 := ⟨_, rfl⟩
    rw [List.drop_eq_nil_of_le (by rw [hxl]; exact Nat.le_refl _), List.append_nil, Nat.add_sub_cancel, show ((i : Int) + 1) = (n : Int) by omega]
    rw [← hn1] at hown hn ⊢
    exact deleteLast_Tm g n i xs w B hown (by omega) hn
  · obtain ⟨p, rfl⟩ : ∃ p, n = p + 1 := ⟨n - 1, by omega⟩
    rw [Nat.add_sub_cancel]
    exact deleteIn_Tm g p cap i xs w B hown (by omega) hc h1 (by omega)
end Go.Proofs.YtigogjlbemkhdaaGreat
