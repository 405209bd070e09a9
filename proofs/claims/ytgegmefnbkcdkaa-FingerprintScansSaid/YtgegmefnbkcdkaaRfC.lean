/- The reference's directory: unlink, sweep: new rows (sweep printed by gen/rfsweep.py). -/
import Derived.Test.YtgegmefnbkcdkaaRfB
import Derived.Test.YtgegmefnbkcdkaaRegs
namespace Go.Proofs.Ytgegmefnbkcdkaa
open Go.RowKit
theorem own_mono {w : World} {B B' e size n : Nat} {v : Value} {xs : List Value} (h : w.ownsRow B' e size v n xs) (hB : B ≤ B') : w.ownsRow B e size v n xs := by
  refine ⟨h.1, ?_⟩
  rcases h.2 with h | ⟨g, cap, cur, h1, h2, h3⟩
  · exact .inl h
  · exact .inr ⟨g, cap, cur, h1, Nat.le_trans hB h2, h3⟩
theorem rmName_snoc (N : List Nm) (s : ByteArray) (k : Nat) (hk : k < N.length) : rmName (N.take (k + 1)) s = rmName (N.take k) s ++ (if N[k].nm = s then [] else [N[k]]) := by
  unfold rmName
  rw [List.take_succ_eq_append_getElem hk, List.filter_append]
  congr 1
  by_cases h : N[k].nm = s <;> simp [h]
def RefUnl (fs : FS) (s : ByteArray) (vF vO : Value) (w : World) (x : Ending) (w' : World) : Prop :=
  ∃ vN', x = .returned (.agg #[vN', vF, vO]) ∧ w'.ownsRow w.heap.size 77 2 vN' (rmName fs.N s).length (nms (rmName fs.N s)) ∧ Below w.heap.size w w'
set_option maxHeartbeats 8000000 in
set_option maxRecDepth 100000 in
theorem refUnlink_any (vN vF vO : Value) (fs : FS) (s : ByteArray) (w : World) (h : FsT w vN vF vO fs) (hm : fs.N.length ≤ 1000000) :
    Calls Try.prog 37 #[.agg #[vN, vF, vO], .string s] w (RefUnl fs s vF vO w) := by
  obtain ⟨A1, c1, rfl, _, _⟩ := h.n.form
  obtain ⟨A2, c2, rfl, _, _⟩ := h.f.form
  obtain ⟨A3, c3, rfl, _, _⟩ := h.o.form
  obtain ⟨W, hW⟩ : ∃ W, W = ((w.alloc (.cells #[.slice A1 fs.N.length c1, .slice A2 fs.F.length c2, .slice A3 fs.O.length c3] 40)).alloc (.cells #[.slice none 0 0, .slice none 0 0, .slice none 0 0] 40)) := ⟨_, rfl⟩
  have hb : Below w.heap.size w W := hW ▸ ((Below.refl _ w).alloc (Nat.le_refl _) _).alloc (by simp) _
  have hF : Blk W w.heap.size 40 #[.slice A1 fs.N.length c1, .slice A2 fs.F.length c2, .slice A3 fs.O.length c3] := hW ▸ ((Blk.new w _ _).alloc _)
  have hZ : Blk W (w.heap.size + 1) 40 #[.slice none 0 0, .slice none 0 0, .slice none 0 0] := hW ▸ Blk.new_at (by simp)
  have HH := keep (h.up hb)
  have HB := keep hb
  have HF := keep hF
  have HZ := keep hZ
  have hWS : W.heap.size = w.heap.size + 1 + 1 := by rw [hW]; simp
  have HWS := keep hWS
  clear h hb hF hZ hWS
  go_enter Try.func37, Try.ntmps37
  go_wp2_with fail
  rw [← hW]
  clear hW
  go_loopw [5, 6] (fun v i wr => ∃ k : Nat, i = .int .i64 k ∧ k ≤ fs.N.length ∧ Hid (wr.ownsRow W.heap.size 77 2 v (rmName (fs.N.take k) s).length (nms (rmName (fs.N.take k) s))) ∧ Hid (Below W.heap.size W wr)) (fun _ i _ => fs.N.length - (intOf i).toNat)
  case atStart => exact ⟨0, rfl, Nat.zero_le _, keep (World.ownsRow_nil _ _ _ _), keep (Below.refl _ _)⟩
  case round =>
    obtain ⟨k, rfl, hk, hO, hb⟩ := hrel
    obtain ⟨wo, rfl⟩ : ∃ wo : World, wo = wr := ⟨_, rfl⟩
    have hFo := HF.out.below hb.out HF.out.lt
    obtain ⟨f0, f1, f2⟩ := hFo.cell3
    by_cases hlt : k < fs.N.length
    · obtain ⟨b, o, rfl, _, n0, n1⟩ := nm_cells (HH.out.up hb.out).n hlt
      have i0 : (0 : Int) ≤ (k : Int) := by omega
      have i1 : (k : Int) < (fs.N.length : Int) := by omega
      have hsn := rmName_snoc fs.N s k hlt
      obtain ⟨y, hy⟩ : ∃ y, fs.N[k].nm = y := ⟨_, rfl⟩
      obtain ⟨z, hz⟩ : ∃ z, fs.N[k].ino = z := ⟨_, rfl⟩
      have hnm : nmV fs.N[k] = [.string y, .int .i64 z] := by unfold nmV; rw [hy, hz]
      rw [hy] at n0 hsn
      rw [hz] at n1
      obtain ⟨L, hL⟩ : ∃ L, rmName (fs.N.take k) s = L := ⟨_, rfl⟩
      have hLl : L.length ≤ 1000000 := by rw [← hL]; exact Nat.le_trans (List.length_filter_le ..) (by rw [List.length_take]; omega)
      rw [hL] at hO hsn
      by_cases he : y = s
      · have e1 : (y.toList == s.toList) = true := by rw [he]; simp
        rw [if_pos he, List.append_nil] at hsn
        have HSN := keep hsn
        clear hsn hy hz hnm hL he hFo
        go_wp2_with fail
        go_roundw
        case rel => exact ⟨k + 1, by go_num, by omega, keep (by rw [HSN.out]; exact hO.out), hb⟩
        case measure => simp [intOf]; omega
      · have e1 : (y.toList == s.toList) = false := beq_eq_false_iff_ne.2 (fun e => he (toList_inj e))
        rw [if_neg he] at hsn
        have HSN := keep hsn
        have HNM := keep hnm
        have hzz := hb.out.size
        have hown := hO.out
        clear hsn hy hz hnm hL he hFo
        go_wp2_with (refine wpList_push elNm rfl rfl _ _ 28 rfl rfl rfl W.heap.size _ (.agg #[.string y, .int .i64 z]) L.length _ rfl (fun _ => rfl) (fun _ => rfl) hown rfl (by intro c hc; simp [Value.cells] at hc; rcases hc with rfl | rfl <;> rfl) (by decide) (by unfold maxLen; omega) (by omega) hzz ?_; intro g cap w9 hown9 hb9 hg9 _ _)
        have hown' : w9.ownsRow W.heap.size 77 2 (.slice (some ⟨g, 0, none⟩) (L.length + 1) cap) (rmName (fs.N.take (k + 1)) s).length (nms (rmName (fs.N.take (k + 1)) s)) := by
          rw [HSN.out, List.length_append, nms, List.flatMap_append]
          simp only [List.flatMap_cons, List.flatMap_nil, List.append_nil, HNM.out]
          exact hown9
        go_roundw
        case rel => exact ⟨k + 1, by go_num, by omega, keep hown', keep (hb.out.trans hb9)⟩
        case measure => simp [intOf]; omega
    · obtain rfl : k = fs.N.length := by omega
      rw [List.take_length] at hO
      obtain ⟨A5, c5, rfl, _⟩ := own_sl hO.out
      have hZo := HZ.out.below hb.out HZ.out.lt
      obtain ⟨z0, z1, z2⟩ := hZo.cell3
      obtain ⟨p0, p1, p2⟩ := hZo.froz3
      obtain ⟨q0, q1, q2⟩ := hFo.froz3
      have hne : w.heap.size ≠ w.heap.size + 1 := by omega
      have hl0 := hFo.lt
      have hl1 := hZo.lt
      obtain ⟨W1, hW1⟩ : ∃ W1, W1 = wo.setCell ⟨w.heap.size, 0, none⟩ (.slice A5 (rmName fs.N s).length c5) := ⟨_, rfl⟩
      have hF1 : Blk W1 w.heap.size 40 #[.slice A5 (rmName fs.N s).length c5, .slice A2 fs.F.length c2, .slice A3 fs.O.length c3] := hW1 ▸ hFo.set_ 0 _
      have hZ1 : Blk W1 (w.heap.size + 1) 40 #[.slice none 0 0, .slice none 0 0, .slice none 0 0] := hW1 ▸ hZo.far (p := ⟨w.heap.size, 0, none⟩) (by show w.heap.size + 1 ≠ w.heap.size; omega) _
      have hb1 : Below w.heap.size w W1 := hW1 ▸ (bchain HB.out hb.out).setCell (p := ⟨w.heap.size, 0, none⟩) (Nat.le_refl _) _
      have hg1 : wo.grownBy W1 (some w.heap.size) := hW1 ▸ grownBy_set (World.grownBy.refl wo (some w.heap.size)) 0 _
      have hO1 : W1.ownsRow w.heap.size 77 2 (.slice A5 (rmName fs.N s).length c5) (rmName fs.N s).length (nms (rmName fs.N s)) := own_mono (hO.out.kept hg1 (.inr (own_off hO.out hFo (by decide)))) (by have := HWS.out; omega)
      obtain ⟨s0, s1, s2⟩ := hF1.cell3
      obtain ⟨t0, t1, t2⟩ := hZ1.cell3
      obtain ⟨p0, p1, p2⟩ := hZ1.froz3
      obtain ⟨q0, q1, q2⟩ := hFo.froz3
      have HX := keep (hZ1.three (.slice A5 (rmName fs.N s).length c5) (.slice A2 fs.F.length c2) (.slice A3 fs.O.length c3))
      have hgr := grown_three W1 (w.heap.size + 1) (.slice A5 (rmName fs.N s).length c5) (.slice A2 fs.F.length c2) (.slice A3 fs.O.length c3)
      have HO2 := keep (hO1.kept hgr (.inr (own_off hO1 hZ1 (by decide))))
      have HB2 := keep (below_three hb1 (Nat.le_succ _) (.slice A5 (rmName fs.N s).length c5) (.slice A2 fs.F.length c2) (.slice A3 fs.O.length c3))
      clear hO hb hZo hF1 hZ1 hb1 hg1 hO1 hgr
      go_wp2_with fail
      rw [← hW1]
      refine bodyPost_ret (results_cell_row rfl _ _ (w.heap.size + 1) _ _ _ _ rfl HX.out Try.underlying40 rfl (by kernel_rfl)) rfl ?_
      exact ⟨_, rfl, HO2.out, HB2.out⟩
end Go.Proofs.Ytgegmefnbkcdkaa
namespace Go.Proofs.Ytgegmefnbkcdkaa
open Go.RowKit
def fr41 (x : Nat → Value) : Array Value := #[x 0, x 1, x 2, x 3, x 4, x 5, x 6, x 7, x 8, x 9, x 10, x 11, x 12, x 13, x 14, x 15, x 16, x 17, x 18, x 19, x 20, x 21, x 22, x 23, x 24, x 25, x 26, x 27, x 28, x 29, x 30, x 31, x 32, x 33, x 34, x 35, x 36, x 37, x 38, x 39, x 40]
/-- The file stays. -/
def stays (fs : FS) (t : Fi) : Bool := (fs.N.any fun n => n.ino == t.ino) || decide (t.ino ∈ fs.O)
theorem stays_goes (fs : FS) : (fs.F.filter fun t => !goes fs.N fs.O t) = fs.F.filter (stays fs) := by
  apply List.filter_congr
  intro t _
  unfold stays goes
  cases fs.N.any fun n => n.ino == t.ino <;> simp
theorem flt_snoc {α : Type} (L : List α) (p : α → Bool) (k : Nat) (hk : k < L.length) : (L.take (k + 1)).filter p = (L.take k).filter p ++ (if p L[k] = true then [L[k]] else []) := by
  rw [List.take_succ_eq_append_getElem hk, List.filter_append]
  congr 1
  by_cases h : p L[k] = true <;> simp [h]
def RefSwp (fs : FS) (vN vO : Value) (w : World) (x : Ending) (w' : World) : Prop :=
  ∃ vF', x = .returned (.agg #[vN, vF', vO]) ∧ w'.ownsRow w.heap.size 72 5 vF' (fs.F.filter (stays fs)).length (fis (fs.F.filter (stays fs))) ∧ Below w.heap.size w w'
set_option maxHeartbeats 8000000 in
set_option maxRecDepth 100000 in
theorem refSweep_any (vN vF vO : Value) (fs : FS) (w : World) (h : FsT w vN vF vO fs) (hm : fs.F.length ≤ 1000000) (hmN : fs.N.length ≤ 1000000) (hmO : fs.O.length ≤ 1000000) :
    Calls Try.prog 38 #[.agg #[vN, vF, vO]] w (RefSwp fs vN vO w) := by
  obtain ⟨A1, c1, rfl, _, _⟩ := h.n.form
  obtain ⟨A2, c2, rfl, _, _⟩ := h.f.form
  obtain ⟨A3, c3, rfl, _, _⟩ := h.o.form
  obtain ⟨W, hW⟩ : ∃ W, W = ((w.alloc (.cells #[.slice A1 fs.N.length c1, .slice A2 fs.F.length c2, .slice A3 fs.O.length c3] 40)).alloc (.cells #[.slice none 0 0, .slice none 0 0, .slice none 0 0] 40)) := ⟨_, rfl⟩
  have hb : Below w.heap.size w W := hW ▸ ((Below.refl _ w).alloc (Nat.le_refl _) _).alloc (by simp) _
  have hF : Blk W w.heap.size 40 #[.slice A1 fs.N.length c1, .slice A2 fs.F.length c2, .slice A3 fs.O.length c3] := hW ▸ ((Blk.new w _ _).alloc _)
  have hZ : Blk W (w.heap.size + 1) 40 #[.slice none 0 0, .slice none 0 0, .slice none 0 0] := hW ▸ Blk.new_at (by simp)
  have HH := keep (h.up hb)
  have HB := keep hb
  have HF := keep hF
  have HZ := keep hZ
  have hWS : W.heap.size = w.heap.size + 1 + 1 := by rw [hW]; simp
  have HWS := keep hWS
  clear h hb hF hZ hWS
  go_enter Try.func38, Try.ntmps38
  go_wp2_with fail
  rw [← hW]
  clear hW
  go_loopw [3, 4] (fun v i wr => ∃ k : Nat, i = .int .i64 k ∧ k ≤ fs.F.length ∧ Hid (wr.ownsRow W.heap.size 72 5 v ((fs.F.take k).filter (stays fs)).length (fis ((fs.F.take k).filter (stays fs)))) ∧ Hid (Below W.heap.size W wr)) (fun _ i _ => fs.F.length - (intOf i).toNat)
  case atStart => exact ⟨0, rfl, Nat.zero_le _, keep (World.ownsRow_nil _ _ _ _), keep (Below.refl _ _)⟩
  case round =>
    obtain ⟨k, rfl, hk, hO, hb⟩ := hrel
    obtain ⟨wo, rfl⟩ : ∃ wo : World, wo = wr := ⟨_, rfl⟩
    have hFo := HF.out.below hb.out HF.out.lt
    obtain ⟨f0, f1, f2⟩ := hFo.cell3
    by_cases hlt : k < fs.F.length
    · have HHo := keep (HH.out.up hb.out)
      obtain ⟨b, o, rfl, _, n0, _⟩ := fi_cells HHo.out.f hlt
      have i0 : (0 : Int) ≤ (k : Int) := by omega
      have i1 : (k : Int) < (fs.F.length : Int) := by omega
      have hsn := flt_snoc fs.F (stays fs) k hlt
      obtain ⟨L, hL⟩ : ∃ L, (fs.F.take k).filter (stays fs) = L := ⟨_, rfl⟩
      have hLl : L.length ≤ 1000000 := by rw [← hL]; exact Nat.le_trans (List.length_filter_le ..) (by rw [List.length_take]; omega)
      rw [hL] at hO hsn
      obtain ⟨y, hy⟩ : ∃ y, fs.F[k].ino = y := ⟨_, rfl⟩
      rw [hy] at n0
      obtain ⟨q1, hq1⟩ : ∃ q, (fs.N.any fun n => n.ino == y) = q := ⟨_, rfl⟩
      obtain ⟨q2, hq2⟩ : ∃ q, decide (y ∈ fs.O) = q := ⟨_, rfl⟩
      have hst : stays fs fs.F[k] = (q1 || q2) := by unfold stays; rw [hy, hq1, hq2]
      have HST := keep hst
      have HSN := keep hsn
      have HQ1 := keep hq1
      have HQ2 := keep hq2
      have hWF := hFo.lt
      have HFo := keep hFo
      have HN0 := keep n0
      have HBL : Hid (b < wo.heap.size) := keep (World.block_lt_of_cell? wo _ n0)
      clear hsn hy hq1 hq2 hst hL hFo
      go_upto_region 5 with fail
      go_cut [29] (fun q wd => q = .bool (q1 || q2) ∧ Below wo.heap.size wo wd)
      case first =>
        clear n0 f0 f1 f2 i0 i1
        refine reg_start 41 fr41 (fun _ => rfl) _ rfl fun x0 hx0 => ?_
        have y1 : x0 1 = .pointer (some ⟨w.heap.size, 0, none⟩) := hx0 1
        have y4 : x0 4 = .int .i64 (k : Int) := hx0 4
        refine wp_regT (by kernel_rfl) 41 (by kernel_rfl) fr41 (fun _ => rfl) x0 (Below wo.heap.size wo) (fun _ _ _ => True) (fun i v wa => match i with
            | 0 => v = .agg #[.slice A1 fs.N.length c1, .slice (some ⟨b, o, none⟩) fs.F.length c2, .slice A3 fs.O.length c3]
            | 1 => v = .pointer (some ⟨w.heap.size, 1, none⟩)
            | 2 => v = .slice (some ⟨b, o, none⟩) fs.F.length c2
            | 3 => v = .int .i64 (k : Int)
            | 4 => v = .pointer (some ⟨b, o + k * 5, none⟩)
            | 5 => v = .pointer (some ⟨b, o + k * 5, none⟩)
            | 6 => v = .int .i64 y
            | 7 => v = .bool q1
            | 8 => v = .bool q1
            | 9 => q1 = false → v = .agg #[.slice A1 fs.N.length c1, .slice (some ⟨b, o, none⟩) fs.F.length c2, .slice A3 fs.O.length c3]
            | 10 => q1 = false → v = .pointer (some ⟨w.heap.size, 1, none⟩)
            | 11 => q1 = false → v = .slice (some ⟨b, o, none⟩) fs.F.length c2
            | 12 => q1 = false → v = .int .i64 (k : Int)
            | 13 => q1 = false → v = .pointer (some ⟨b, o + k * 5, none⟩)
            | 14 => q1 = false → v = .pointer (some ⟨b, o + k * 5, none⟩)
            | 15 => q1 = false → v = .int .i64 y
            | 16 => q1 = false → v = .bool q2
            | 17 => v = .bool (q1 || q2)
            | _ => True) (fun _ _ _ _ _ _ _ h => h) (below_drewN (Below.refl _ _) 1) ?step ?skip ?done
        case step =>
          intro i o ho x wa K hW hout hdep hgd hK
          have E1 : Hid (x 1 = .pointer (some ⟨w.heap.size, 0, none⟩)) := keep ((hout 1 (by decide)).trans y1)
          have E4 : Hid (x 4 = .int .i64 (k : Int)) := keep ((hout 4 (by decide)).trans y4)
          have i0 : (0 : Int) ≤ (k : Int) := by omega
          have i1 : (k : Int) < (fs.F.length : Int) := by omega
          clear hout hx0 y1 y4
          have hi : i < 18 := (Array.getElem?_eq_some_iff.1 ho).1
          have hcase : i = 0 ∨ i = 1 ∨ i = 2 ∨ i = 3 ∨ i = 4 ∨ i = 5 ∨ i = 6 ∨ i = 7 ∨ i = 8 ∨ i = 9 ∨ i = 10 ∨ i = 11 ∨ i = 12 ∨ i = 13 ∨ i = 14 ∨ i = 15 ∨ i = 16 ∨ i = 17 := by omega
          clear hi
          rcases hcase with rfl | rfl | rfl | rfl | rfl | rfl | rfl | rfl | rfl | rfl | rfl | rfl | rfl | rfl | rfl | rfl | rfl | rfl
          · -- operation 0
            simp only [List.getElem?_toArray, List.getElem?_cons_zero, Option.some.injEq] at ho
            subst ho
            clear hdep hgd
            obtain ⟨f0, f1, f2⟩ := (HFo.out.below hW HFo.out.lt).cell3
            unfold fr41
            rw [E1.out]
            go_simp
            have hk : K { tmps := #[x 0, x 1, x 2, x 3, x 4, x 5, x 6, x 7, x 8, x 9, x 10, x 11, .agg #[.slice A1 fs.N.length c1, .slice (some ⟨b, o, none⟩) fs.F.length c2, .slice A3 fs.O.length c3], x 13, x 14, x 15, x 16, x 17, x 18, x 19, x 20, x 21, x 22, x 23, x 24, x 25, x 26, x 27, x 28, x 29, x 30, x 31, x 32, x 33, x 34, x 35, x 36, x 37, x 38, x 39, x 40], defers := [] } wa := hK _ _ hW trivial rfl
            rw [E1.out] at hk
            exact hk
          · -- operation 1
            simp only [List.getElem?_toArray, List.getElem?_cons_succ, List.getElem?_cons_zero, Option.some.injEq] at ho
            subst ho
            clear hdep hgd
            unfold fr41
            rw [E1.out]
            go_simp
            have hk : K { tmps := #[x 0, x 1, x 2, x 3, x 4, x 5, x 6, x 7, x 8, x 9, x 10, x 11, x 12, .pointer (some ⟨w.heap.size, 1, none⟩), x 14, x 15, x 16, x 17, x 18, x 19, x 20, x 21, x 22, x 23, x 24, x 25, x 26, x 27, x 28, x 29, x 30, x 31, x 32, x 33, x 34, x 35, x 36, x 37, x 38, x 39, x 40], defers := [] } wa := hK _ _ hW trivial rfl
            rw [E1.out] at hk
            exact hk
          · -- operation 2
            simp only [List.getElem?_toArray, List.getElem?_cons_succ, List.getElem?_cons_zero, Option.some.injEq] at ho
            subst ho
            have p1 : (x 13) = .pointer (some ⟨w.heap.size, 1, none⟩) := hdep 1 (List.mem_of_elem_eq_true (by kernel_rfl))
            clear hdep hgd
            obtain ⟨f0, f1, f2⟩ := (HFo.out.below hW HFo.out.lt).cell3
            unfold fr41
            rw [p1]
            go_simp
            have hk : K { tmps := #[x 0, x 1, x 2, x 3, x 4, x 5, x 6, x 7, x 8, x 9, x 10, x 11, x 12, x 13, .slice (some ⟨b, o, none⟩) fs.F.length c2, x 15, x 16, x 17, x 18, x 19, x 20, x 21, x 22, x 23, x 24, x 25, x 26, x 27, x 28, x 29, x 30, x 31, x 32, x 33, x 34, x 35, x 36, x 37, x 38, x 39, x 40], defers := [] } wa := hK _ _ hW trivial rfl
            rw [p1] at hk
            exact hk
          · -- operation 3
            simp only [List.getElem?_toArray, List.getElem?_cons_succ, List.getElem?_cons_zero, Option.some.injEq] at ho
            subst ho
            clear hdep hgd
            unfold fr41
            rw [E4.out]
            go_simp
            have hk : K { tmps := #[x 0, x 1, x 2, x 3, x 4, x 5, x 6, x 7, x 8, x 9, x 10, x 11, x 12, x 13, x 14, .int .i64 (k : Int), x 16, x 17, x 18, x 19, x 20, x 21, x 22, x 23, x 24, x 25, x 26, x 27, x 28, x 29, x 30, x 31, x 32, x 33, x 34, x 35, x 36, x 37, x 38, x 39, x 40], defers := [] } wa := hK _ _ hW trivial rfl
            rw [E4.out] at hk
            exact hk
          · -- operation 4
            simp only [List.getElem?_toArray, List.getElem?_cons_succ, List.getElem?_cons_zero, Option.some.injEq] at ho
            subst ho
            have p2 : (x 14) = .slice (some ⟨b, o, none⟩) fs.F.length c2 := hdep 2 (List.mem_of_elem_eq_true (by kernel_rfl))
            have p3 : (x 15) = .int .i64 (k : Int) := hdep 3 (List.mem_of_elem_eq_true (by kernel_rfl))
            clear hdep hgd
            unfold fr41
            rw [p2, p3]
            go_simp
            have hk : K { tmps := #[x 0, x 1, x 2, x 3, x 4, x 5, x 6, x 7, x 8, x 9, x 10, x 11, x 12, x 13, x 14, x 15, .pointer (some ⟨b, o + k * 5, none⟩), x 17, x 18, x 19, x 20, x 21, x 22, x 23, x 24, x 25, x 26, x 27, x 28, x 29, x 30, x 31, x 32, x 33, x 34, x 35, x 36, x 37, x 38, x 39, x 40], defers := [] } wa := hK _ _ hW trivial rfl
            rw [p2, p3] at hk
            exact hk
          · -- operation 5
            simp only [List.getElem?_toArray, List.getElem?_cons_succ, List.getElem?_cons_zero, Option.some.injEq] at ho
            subst ho
            have p4 : (x 16) = .pointer (some ⟨b, o + k * 5, none⟩) := hdep 4 (List.mem_of_elem_eq_true (by kernel_rfl))
            clear hdep hgd
            unfold fr41
            rw [p4]
            go_simp
            have hk : K { tmps := #[x 0, x 1, x 2, x 3, x 4, x 5, x 6, x 7, x 8, x 9, x 10, x 11, x 12, x 13, x 14, x 15, x 16, .pointer (some ⟨b, o + k * 5, none⟩), x 18, x 19, x 20, x 21, x 22, x 23, x 24, x 25, x 26, x 27, x 28, x 29, x 30, x 31, x 32, x 33, x 34, x 35, x 36, x 37, x 38, x 39, x 40], defers := [] } wa := hK _ _ hW trivial rfl
            rw [p4] at hk
            exact hk
          · -- operation 6
            simp only [List.getElem?_toArray, List.getElem?_cons_succ, List.getElem?_cons_zero, Option.some.injEq] at ho
            subst ho
            have p5 : (x 17) = .pointer (some ⟨b, o + k * 5, none⟩) := hdep 5 (List.mem_of_elem_eq_true (by kernel_rfl))
            clear hdep hgd
            have n0 := (hW.cell (p := ⟨b, o + k * 5, none⟩) HBL.out).trans HN0.out
            unfold fr41
            rw [p5]
            go_simp
            have hk : K { tmps := #[x 0, x 1, x 2, x 3, x 4, x 5, x 6, x 7, x 8, x 9, x 10, x 11, x 12, x 13, x 14, x 15, x 16, x 17, .int .i64 y, x 19, x 20, x 21, x 22, x 23, x 24, x 25, x 26, x 27, x 28, x 29, x 30, x 31, x 32, x 33, x 34, x 35, x 36, x 37, x 38, x 39, x 40], defers := [] } wa := hK _ _ hW trivial rfl
            rw [p5] at hk
            exact hk
          · -- operation 7
            simp only [List.getElem?_toArray, List.getElem?_cons_succ, List.getElem?_cons_zero, Option.some.injEq] at ho
            subst ho
            have p0 : (x 12) = .agg #[.slice A1 fs.N.length c1, .slice (some ⟨b, o, none⟩) fs.F.length c2, .slice A3 fs.O.length c3] := hdep 0 (List.mem_of_elem_eq_true (by kernel_rfl))
            have p6 : (x 18) = .int .i64 y := hdep 6 (List.mem_of_elem_eq_true (by kernel_rfl))
            clear hdep hgd
            unfold fr41
            rw [p0, p6]
            go_simp
            refine ((refNamed_any _ _ _ fs y _ (HHo.out.up hW) hmN)).mono ?_
            rintro e w5 ⟨rfl, hb5⟩
            rw [HQ1.out]
            have hk : K { tmps := #[x 0, x 1, x 2, x 3, x 4, x 5, x 6, x 7, x 8, x 9, x 10, x 11, x 12, x 13, x 14, x 15, x 16, x 17, x 18, .bool q1, x 20, x 21, x 22, x 23, x 24, x 25, x 26, x 27, x 28, x 29, x 30, x 31, x 32, x 33, x 34, x 35, x 36, x 37, x 38, x 39, x 40], defers := [] } w5 := hK _ _ (bchain hW hb5) trivial rfl
            rw [p0, p6] at hk
            exact hk
          · -- operation 8
            simp only [List.getElem?_toArray, List.getElem?_cons_succ, List.getElem?_cons_zero, Option.some.injEq] at ho
            subst ho
            have p7 : (x 19) = .bool q1 := hdep 7 (List.mem_of_elem_eq_true (by kernel_rfl))
            clear hdep hgd
            unfold fr41
            rw [p7]
            go_simp
            have hk : K { tmps := #[x 0, x 1, x 2, x 3, x 4, x 5, x 6, x 7, x 8, x 9, x 10, x 11, x 12, x 13, x 14, x 15, x 16, x 17, x 18, x 19, .bool q1, x 21, x 22, x 23, x 24, x 25, x 26, x 27, x 28, x 29, x 30, x 31, x 32, x 33, x 34, x 35, x 36, x 37, x 38, x 39, x 40], defers := [] } wa := hK _ _ hW trivial rfl
            rw [p7] at hk
            exact hk
          · -- operation 9
            simp only [List.getElem?_toArray, List.getElem?_cons_succ, List.getElem?_cons_zero, Option.some.injEq] at ho
            subst ho
            have hg : x 20 = .bool false := hgd 8 false rfl
            have p8 : (x 20) = .bool q1 := hdep 8 (List.mem_of_elem_eq_true (by kernel_rfl))
            clear hdep hgd
            rw [p8] at hg
            injection hg with hq
            clear p8
            obtain ⟨f0, f1, f2⟩ := (HFo.out.below hW HFo.out.lt).cell3
            unfold fr41
            rw [E1.out]
            go_simp
            have hk : K { tmps := #[x 0, x 1, x 2, x 3, x 4, x 5, x 6, x 7, x 8, x 9, x 10, x 11, x 12, x 13, x 14, x 15, x 16, x 17, x 18, x 19, x 20, .agg #[.slice A1 fs.N.length c1, .slice (some ⟨b, o, none⟩) fs.F.length c2, .slice A3 fs.O.length c3], x 22, x 23, x 24, x 25, x 26, x 27, x 28, x 29, x 30, x 31, x 32, x 33, x 34, x 35, x 36, x 37, x 38, x 39, x 40], defers := [] } wa := hK _ _ hW trivial (fun _ => rfl)
            rw [E1.out] at hk
            exact hk
          · -- operation 10
            simp only [List.getElem?_toArray, List.getElem?_cons_succ, List.getElem?_cons_zero, Option.some.injEq] at ho
            subst ho
            have hg : x 20 = .bool false := hgd 8 false rfl
            have p8 : (x 20) = .bool q1 := hdep 8 (List.mem_of_elem_eq_true (by kernel_rfl))
            clear hdep hgd
            rw [p8] at hg
            injection hg with hq
            clear p8
            unfold fr41
            rw [E1.out]
            go_simp
            have hk : K { tmps := #[x 0, x 1, x 2, x 3, x 4, x 5, x 6, x 7, x 8, x 9, x 10, x 11, x 12, x 13, x 14, x 15, x 16, x 17, x 18, x 19, x 20, x 21, .pointer (some ⟨w.heap.size, 1, none⟩), x 23, x 24, x 25, x 26, x 27, x 28, x 29, x 30, x 31, x 32, x 33, x 34, x 35, x 36, x 37, x 38, x 39, x 40], defers := [] } wa := hK _ _ hW trivial (fun _ => rfl)
            rw [E1.out] at hk
            exact hk
          · -- operation 11
            simp only [List.getElem?_toArray, List.getElem?_cons_succ, List.getElem?_cons_zero, Option.some.injEq] at ho
            subst ho
            have hg : x 20 = .bool false := hgd 8 false rfl
            have p8 : (x 20) = .bool q1 := hdep 8 (List.mem_of_elem_eq_true (by kernel_rfl))
            have p10 : q1 = false → (x 22) = .pointer (some ⟨w.heap.size, 1, none⟩) := hdep 10 (List.mem_of_elem_eq_true (by kernel_rfl))
            clear hdep hgd
            rw [p8] at hg
            injection hg with hq
            replace p10 := p10 hq
            clear p8
            obtain ⟨f0, f1, f2⟩ := (HFo.out.below hW HFo.out.lt).cell3
            unfold fr41
            rw [p10]
            go_simp
            have hk : K { tmps := #[x 0, x 1, x 2, x 3, x 4, x 5, x 6, x 7, x 8, x 9, x 10, x 11, x 12, x 13, x 14, x 15, x 16, x 17, x 18, x 19, x 20, x 21, x 22, .slice (some ⟨b, o, none⟩) fs.F.length c2, x 24, x 25, x 26, x 27, x 28, x 29, x 30, x 31, x 32, x 33, x 34, x 35, x 36, x 37, x 38, x 39, x 40], defers := [] } wa := hK _ _ hW trivial (fun _ => rfl)
            rw [p10] at hk
            exact hk
          · -- operation 12
            simp only [List.getElem?_toArray, List.getElem?_cons_succ, List.getElem?_cons_zero, Option.some.injEq] at ho
            subst ho
            have hg : x 20 = .bool false := hgd 8 false rfl
            have p8 : (x 20) = .bool q1 := hdep 8 (List.mem_of_elem_eq_true (by kernel_rfl))
            clear hdep hgd
            rw [p8] at hg
            injection hg with hq
            clear p8
            unfold fr41
            rw [E4.out]
            go_simp
            have hk : K { tmps := #[x 0, x 1, x 2, x 3, x 4, x 5, x 6, x 7, x 8, x 9, x 10, x 11, x 12, x 13, x 14, x 15, x 16, x 17, x 18, x 19, x 20, x 21, x 22, x 23, .int .i64 (k : Int), x 25, x 26, x 27, x 28, x 29, x 30, x 31, x 32, x 33, x 34, x 35, x 36, x 37, x 38, x 39, x 40], defers := [] } wa := hK _ _ hW trivial (fun _ => rfl)
            rw [E4.out] at hk
            exact hk
          · -- operation 13
            simp only [List.getElem?_toArray, List.getElem?_cons_succ, List.getElem?_cons_zero, Option.some.injEq] at ho
            subst ho
            have hg : x 20 = .bool false := hgd 8 false rfl
            have p8 : (x 20) = .bool q1 := hdep 8 (List.mem_of_elem_eq_true (by kernel_rfl))
            have p11 : q1 = false → (x 23) = .slice (some ⟨b, o, none⟩) fs.F.length c2 := hdep 11 (List.mem_of_elem_eq_true (by kernel_rfl))
            have p12 : q1 = false → (x 24) = .int .i64 (k : Int) := hdep 12 (List.mem_of_elem_eq_true (by kernel_rfl))
            clear hdep hgd
            rw [p8] at hg
            injection hg with hq
            replace p11 := p11 hq
            replace p12 := p12 hq
            clear p8
            unfold fr41
            rw [p11, p12]
            go_simp
            have hk : K { tmps := #[x 0, x 1, x 2, x 3, x 4, x 5, x 6, x 7, x 8, x 9, x 10, x 11, x 12, x 13, x 14, x 15, x 16, x 17, x 18, x 19, x 20, x 21, x 22, x 23, x 24, .pointer (some ⟨b, o + k * 5, none⟩), x 26, x 27, x 28, x 29, x 30, x 31, x 32, x 33, x 34, x 35, x 36, x 37, x 38, x 39, x 40], defers := [] } wa := hK _ _ hW trivial (fun _ => rfl)
            rw [p11, p12] at hk
            exact hk
          · -- operation 14
            simp only [List.getElem?_toArray, List.getElem?_cons_succ, List.getElem?_cons_zero, Option.some.injEq] at ho
            subst ho
            have hg : x 20 = .bool false := hgd 8 false rfl
            have p8 : (x 20) = .bool q1 := hdep 8 (List.mem_of_elem_eq_true (by kernel_rfl))
            have p13 : q1 = false → (x 25) = .pointer (some ⟨b, o + k * 5, none⟩) := hdep 13 (List.mem_of_elem_eq_true (by kernel_rfl))
            clear hdep hgd
            rw [p8] at hg
            injection hg with hq
            replace p13 := p13 hq
            clear p8
            unfold fr41
            rw [p13]
            go_simp
            have hk : K { tmps := #[x 0, x 1, x 2, x 3, x 4, x 5, x 6, x 7, x 8, x 9, x 10, x 11, x 12, x 13, x 14, x 15, x 16, x 17, x 18, x 19, x 20, x 21, x 22, x 23, x 24, x 25, .pointer (some ⟨b, o + k * 5, none⟩), x 27, x 28, x 29, x 30, x 31, x 32, x 33, x 34, x 35, x 36, x 37, x 38, x 39, x 40], defers := [] } wa := hK _ _ hW trivial (fun _ => rfl)
            rw [p13] at hk
            exact hk
          · -- operation 15
            simp only [List.getElem?_toArray, List.getElem?_cons_succ, List.getElem?_cons_zero, Option.some.injEq] at ho
            subst ho
            have hg : x 20 = .bool false := hgd 8 false rfl
            have p8 : (x 20) = .bool q1 := hdep 8 (List.mem_of_elem_eq_true (by kernel_rfl))
            have p14 : q1 = false → (x 26) = .pointer (some ⟨b, o + k * 5, none⟩) := hdep 14 (List.mem_of_elem_eq_true (by kernel_rfl))
            clear hdep hgd
            rw [p8] at hg
            injection hg with hq
            replace p14 := p14 hq
            clear p8
            have n0 := (hW.cell (p := ⟨b, o + k * 5, none⟩) HBL.out).trans HN0.out
            unfold fr41
            rw [p14]
            go_simp
            have hk : K { tmps := #[x 0, x 1, x 2, x 3, x 4, x 5, x 6, x 7, x 8, x 9, x 10, x 11, x 12, x 13, x 14, x 15, x 16, x 17, x 18, x 19, x 20, x 21, x 22, x 23, x 24, x 25, x 26, .int .i64 y, x 28, x 29, x 30, x 31, x 32, x 33, x 34, x 35, x 36, x 37, x 38, x 39, x 40], defers := [] } wa := hK _ _ hW trivial (fun _ => rfl)
            rw [p14] at hk
            exact hk
          · -- operation 16
            simp only [List.getElem?_toArray, List.getElem?_cons_succ, List.getElem?_cons_zero, Option.some.injEq] at ho
            subst ho
            have hg : x 20 = .bool false := hgd 8 false rfl
            have p8 : (x 20) = .bool q1 := hdep 8 (List.mem_of_elem_eq_true (by kernel_rfl))
            have p9 : q1 = false → (x 21) = .agg #[.slice A1 fs.N.length c1, .slice (some ⟨b, o, none⟩) fs.F.length c2, .slice A3 fs.O.length c3] := hdep 9 (List.mem_of_elem_eq_true (by kernel_rfl))
            have p15 : q1 = false → (x 27) = .int .i64 y := hdep 15 (List.mem_of_elem_eq_true (by kernel_rfl))
            clear hdep hgd
            rw [p8] at hg
            injection hg with hq
            replace p9 := p9 hq
            replace p15 := p15 hq
            clear p8
            unfold fr41
            rw [p9, p15]
            go_simp
            refine ((refHeld_any _ _ _ fs y _ (HHo.out.up hW) hmO)).mono ?_
            rintro e w5 ⟨rfl, hb5⟩
            rw [HQ2.out]
            have hk : K { tmps := #[x 0, x 1, x 2, x 3, x 4, x 5, x 6, x 7, x 8, x 9, x 10, x 11, x 12, x 13, x 14, x 15, x 16, x 17, x 18, x 19, x 20, x 21, x 22, x 23, x 24, x 25, x 26, x 27, .bool q2, x 29, x 30, x 31, x 32, x 33, x 34, x 35, x 36, x 37, x 38, x 39, x 40], defers := [] } w5 := hK _ _ (bchain hW hb5) trivial (fun _ => rfl)
            rw [p9, p15] at hk
            exact hk
          · -- operation 17
            simp only [List.getElem?_toArray, List.getElem?_cons_succ, List.getElem?_cons_zero, Option.some.injEq] at ho
            subst ho
            have p8 : (x 20) = .bool q1 := hdep 8 (List.mem_of_elem_eq_true (by kernel_rfl))
            have p16 : q1 = false → (x 28) = .bool q2 := hdep 16 (List.mem_of_elem_eq_true (by kernel_rfl))
            clear hdep hgd
            rcases Bool.eq_false_or_eq_true q1 with hq | hq
            · rw [hq] at p8
              clear p16
              unfold fr41
              rw [p8]
              have hk : K { tmps := #[x 0, x 1, x 2, x 3, x 4, x 5, x 6, x 7, x 8, x 9, x 10, x 11, x 12, x 13, x 14, x 15, x 16, x 17, x 18, x 19, x 20, x 21, x 22, x 23, x 24, x 25, x 26, x 27, x 28, .bool true, x 30, x 31, x 32, x 33, x 34, x 35, x 36, x 37, x 38, x 39, x 40], defers := [] } wa := hK _ _ hW trivial (by show Value.bool true = .bool (q1 || q2); rw [hq]; rfl)
              rw [p8] at hk
              clear p8 hq
              go_simp
              exact hk
            · replace p16 := p16 hq
              rw [hq] at p8
              unfold fr41
              rw [p8, p16]
              have hk : K { tmps := #[x 0, x 1, x 2, x 3, x 4, x 5, x 6, x 7, x 8, x 9, x 10, x 11, x 12, x 13, x 14, x 15, x 16, x 17, x 18, x 19, x 20, x 21, x 22, x 23, x 24, x 25, x 26, x 27, x 28, .bool q2, x 30, x 31, x 32, x 33, x 34, x 35, x 36, x 37, x 38, x 39, x 40], defers := [] } wa := hK _ _ hW trivial (by show Value.bool q2 = .bool (q1 || q2); rw [hq]; rfl)
              rw [p8, p16] at hk
              clear p8 p16 hq
              go_simp
              exact hk
        case skip =>
          intro i o j b ho hgd x wa hW hdep hne
          have hi : i < 18 := (Array.getElem?_eq_some_iff.1 ho).1
          have hcase : i = 0 ∨ i = 1 ∨ i = 2 ∨ i = 3 ∨ i = 4 ∨ i = 5 ∨ i = 6 ∨ i = 7 ∨ i = 8 ∨ i = 9 ∨ i = 10 ∨ i = 11 ∨ i = 12 ∨ i = 13 ∨ i = 14 ∨ i = 15 ∨ i = 16 ∨ i = 17 := by omega
          rcases hcase with rfl | rfl | rfl | rfl | rfl | rfl | rfl | rfl | rfl | rfl | rfl | rfl | rfl | rfl | rfl | rfl | rfl | rfl
          · simp only [List.getElem?_toArray, List.getElem?_cons_zero, Option.some.injEq] at ho
            subst ho
            cases hgd
          · simp only [List.getElem?_toArray, List.getElem?_cons_succ, List.getElem?_cons_zero, Option.some.injEq] at ho
            subst ho
            cases hgd
          · simp only [List.getElem?_toArray, List.getElem?_cons_succ, List.getElem?_cons_zero, Option.some.injEq] at ho
            subst ho
            cases hgd
          · simp only [List.getElem?_toArray, List.getElem?_cons_succ, List.getElem?_cons_zero, Option.some.injEq] at ho
            subst ho
            cases hgd
          · simp only [List.getElem?_toArray, List.getElem?_cons_succ, List.getElem?_cons_zero, Option.some.injEq] at ho
            subst ho
            cases hgd
          · simp only [List.getElem?_toArray, List.getElem?_cons_succ, List.getElem?_cons_zero, Option.some.injEq] at ho
            subst ho
            cases hgd
          · simp only [List.getElem?_toArray, List.getElem?_cons_succ, List.getElem?_cons_zero, Option.some.injEq] at ho
            subst ho
            cases hgd
          · simp only [List.getElem?_toArray, List.getElem?_cons_succ, List.getElem?_cons_zero, Option.some.injEq] at ho
            subst ho
            cases hgd
          · simp only [List.getElem?_toArray, List.getElem?_cons_succ, List.getElem?_cons_zero, Option.some.injEq] at ho
            subst ho
            cases hgd
          · simp only [List.getElem?_toArray, List.getElem?_cons_succ, List.getElem?_cons_zero, Option.some.injEq] at ho
            subst ho
            obtain ⟨rfl, rfl⟩ : 8 = j ∧ false = b := by simpa using hgd
            have p8 : (x 20) = .bool q1 := hdep 8 (List.mem_of_elem_eq_true (by kernel_rfl))
            exact fun hq => absurd (show x 20 = .bool false by rw [p8, hq]) hne
          · simp only [List.getElem?_toArray, List.getElem?_cons_succ, List.getElem?_cons_zero, Option.some.injEq] at ho
            subst ho
            obtain ⟨rfl, rfl⟩ : 8 = j ∧ false = b := by simpa using hgd
            have p8 : (x 20) = .bool q1 := hdep 8 (List.mem_of_elem_eq_true (by kernel_rfl))
            exact fun hq => absurd (show x 20 = .bool false by rw [p8, hq]) hne
          · simp only [List.getElem?_toArray, List.getElem?_cons_succ, List.getElem?_cons_zero, Option.some.injEq] at ho
            subst ho
            obtain ⟨rfl, rfl⟩ : 8 = j ∧ false = b := by simpa using hgd
            have p8 : (x 20) = .bool q1 := hdep 8 (List.mem_of_elem_eq_true (by kernel_rfl))
            exact fun hq => absurd (show x 20 = .bool false by rw [p8, hq]) hne
          · simp only [List.getElem?_toArray, List.getElem?_cons_succ, List.getElem?_cons_zero, Option.some.injEq] at ho
            subst ho
            obtain ⟨rfl, rfl⟩ : 8 = j ∧ false = b := by simpa using hgd
            have p8 : (x 20) = .bool q1 := hdep 8 (List.mem_of_elem_eq_true (by kernel_rfl))
            exact fun hq => absurd (show x 20 = .bool false by rw [p8, hq]) hne
          · simp only [List.getElem?_toArray, List.getElem?_cons_succ, List.getElem?_cons_zero, Option.some.injEq] at ho
            subst ho
            obtain ⟨rfl, rfl⟩ : 8 = j ∧ false = b := by simpa using hgd
            have p8 : (x 20) = .bool q1 := hdep 8 (List.mem_of_elem_eq_true (by kernel_rfl))
            exact fun hq => absurd (show x 20 = .bool false by rw [p8, hq]) hne
          · simp only [List.getElem?_toArray, List.getElem?_cons_succ, List.getElem?_cons_zero, Option.some.injEq] at ho
            subst ho
            obtain ⟨rfl, rfl⟩ : 8 = j ∧ false = b := by simpa using hgd
            have p8 : (x 20) = .bool q1 := hdep 8 (List.mem_of_elem_eq_true (by kernel_rfl))
            exact fun hq => absurd (show x 20 = .bool false by rw [p8, hq]) hne
          · simp only [List.getElem?_toArray, List.getElem?_cons_succ, List.getElem?_cons_zero, Option.some.injEq] at ho
            subst ho
            obtain ⟨rfl, rfl⟩ : 8 = j ∧ false = b := by simpa using hgd
            have p8 : (x 20) = .bool q1 := hdep 8 (List.mem_of_elem_eq_true (by kernel_rfl))
            exact fun hq => absurd (show x 20 = .bool false by rw [p8, hq]) hne
          · simp only [List.getElem?_toArray, List.getElem?_cons_succ, List.getElem?_cons_zero, Option.some.injEq] at ho
            subst ho
            obtain ⟨rfl, rfl⟩ : 8 = j ∧ false = b := by simpa using hgd
            have p8 : (x 20) = .bool q1 := hdep 8 (List.mem_of_elem_eq_true (by kernel_rfl))
            exact fun hq => absurd (show x 20 = .bool false by rw [p8, hq]) hne
          · simp only [List.getElem?_toArray, List.getElem?_cons_succ, List.getElem?_cons_zero, Option.some.injEq] at ho
            subst ho
            cases hgd
        case done =>
          intro x wd hout hW hall
          have p17 : x 29 = .bool (q1 || q2) := hall 17 (by decide)
          unfold fr41
          rw [(hout 0 (by decide)).trans (hx0 0), (hout 1 (by decide)).trans (hx0 1), (hout 2 (by decide)).trans (hx0 2), (hout 3 (by decide)).trans (hx0 3), (hout 4 (by decide)).trans (hx0 4), (hout 5 (by decide)).trans (hx0 5), (hout 6 (by decide)).trans (hx0 6), (hout 7 (by decide)).trans (hx0 7), (hout 8 (by decide)).trans (hx0 8), (hout 9 (by decide)).trans (hx0 9), (hout 10 (by decide)).trans (hx0 10), (hout 11 (by decide)).trans (hx0 11), (hout 30 (by decide)).trans (hx0 30), (hout 31 (by decide)).trans (hx0 31), (hout 32 (by decide)).trans (hx0 32), (hout 33 (by decide)).trans (hx0 33), (hout 34 (by decide)).trans (hx0 34), (hout 35 (by decide)).trans (hx0 35), (hout 36 (by decide)).trans (hx0 36), (hout 37 (by decide)).trans (hx0 37), (hout 38 (by decide)).trans (hx0 38), (hout 39 (by decide)).trans (hx0 39), (hout 40 (by decide)).trans (hx0 40)]
          simp only [Array.getD_eq_getD_getElem?, List.getElem?_toArray, List.getElem?_cons_succ, List.getElem?_cons_zero, Option.getD_some]
          rw [p17]
          go_wp2_with fail
          go_meet
          case rel => exact ⟨rfl, hW⟩
      case rest =>
        obtain ⟨rfl, hb3⟩ := hcut
        obtain ⟨wv, rfl⟩ : ∃ wv : World, wv = wc := ⟨_, rfl⟩
        obtain ⟨FA, FC, hfd⟩ := (HHo.out.d _ (List.getElem_mem hlt)).form
        have hFv := HFo.out.below hb3 HFo.out.lt
        have hOv := own_bel hO.out hb3
        have hbv := hb.out.trans (hb3.mono hb.out.size)
        obtain ⟨f0, f1, f2⟩ := hFv.cell3
        obtain ⟨b', o', hA', _, m0, m1, m2, m3, m4⟩ := fi_cells (HHo.out.up hb3).f hlt
        injection hA' with hA'
        injection hA' with e1 e2 _
        subst e1 e2
        rw [hfd] at m1
        obtain ⟨y', hy'⟩ : ∃ y, fs.F[k].ino = y := ⟨_, rfl⟩
        obtain ⟨z1, hz1⟩ : ∃ z, fs.F[k].cp = z := ⟨_, rfl⟩
        obtain ⟨z2, hz2⟩ : ∃ z, fs.F[k].wh = z := ⟨_, rfl⟩
        obtain ⟨z3, hz3⟩ : ∃ z, fs.F[k].left = z := ⟨_, rfl⟩
        obtain ⟨dl, hdl⟩ : ∃ z, fs.F[k].data.length = z := ⟨_, rfl⟩
        rw [hdl] at m1 hfd
        have hfv : fiV fs.F[k] = [.int .i64 y', .slice FA dl FC, .bool z1, .bool z2, .int .i64 z3] := by unfold fiV; rw [hy', hfd, hz1, hz2, hz3]
        rw [hy'] at m0
        rw [hz1] at m2
        rw [hz2] at m3
        rw [hz3] at m4
        obtain ⟨q, hq⟩ : ∃ q, (q1 || q2) = q := ⟨_, rfl⟩
        have hst : stays fs fs.F[k] = q := HST.out.trans hq
        have hsn := HSN.out
        rw [hst] at hsn
        rw [hq]
        have HFV := keep hfv
        have HBV := keep hbv
        have HOV := keep hOv
        have hzz := hbv.size
        clear hy' hz1 hz2 hz3 hdl hfd hfv hq hst hbv hOv hFv hO hb hb3 n0
        cases q
        · rw [if_neg (by simp), List.append_nil] at hsn
          have HS := keep hsn
          clear hsn
          go_wp2_with fail
          go_roundw
          case rel => exact ⟨k + 1, by go_num, by omega, keep (by rw [HS.out]; exact HOV.out), HBV⟩
          case measure => simp [intOf]; omega
        · rw [if_pos rfl] at hsn
          have HS := keep hsn
          have hown := HOV.out
          clear hsn
          go_wp2_with (refine wpList_push elFi rfl rfl _ _ 36 rfl rfl rfl W.heap.size _ (.agg #[.int .i64 y', .slice FA dl FC, .bool z1, .bool z2, .int .i64 z3]) L.length _ rfl (fun _ => rfl) (fun _ => rfl) hown rfl (by intro c hc; simp [Value.cells] at hc; rcases hc with rfl | rfl | rfl | rfl | rfl <;> rfl) (by decide) (by unfold maxLen; omega) (by omega) hzz ?_; intro g cap w9 hown9 hb9 hg9 _ _)
          have hown' : w9.ownsRow W.heap.size 72 5 (.slice (some ⟨g, 0, none⟩) (L.length + 1) cap) ((fs.F.take (k + 1)).filter (stays fs)).length (fis ((fs.F.take (k + 1)).filter (stays fs))) := by
            rw [HS.out, List.length_append, fis, List.flatMap_append]
            simp only [List.flatMap_cons, List.flatMap_nil, List.append_nil, HFV.out]
            exact hown9
          go_roundw
          case rel => exact ⟨k + 1, by go_num, by omega, keep hown', keep (HBV.out.trans hb9)⟩
          case measure => simp [intOf]; omega
    · obtain rfl : k = fs.F.length := by omega
      rw [List.take_length] at hO
      obtain ⟨A5, c5, rfl, _⟩ := own_sl hO.out
      have hZo := HZ.out.below hb.out HZ.out.lt
      obtain ⟨z0, z1, z2⟩ := hZo.cell3
      obtain ⟨r0, r1, r2⟩ := hZo.froz3
      have hne : w.heap.size ≠ w.heap.size + 1 := by omega
      have hl0 := hFo.lt
      have hl1 := hZo.lt
      obtain ⟨W1, hW1⟩ : ∃ W1, W1 = wo.setCell ⟨w.heap.size, 1, none⟩ (.slice A5 (fs.F.filter (stays fs)).length c5) := ⟨_, rfl⟩
      have hF1 : Blk W1 w.heap.size 40 #[.slice A1 fs.N.length c1, .slice A5 (fs.F.filter (stays fs)).length c5, .slice A3 fs.O.length c3] := hW1 ▸ hFo.set_ 1 _
      have hZ1 : Blk W1 (w.heap.size + 1) 40 #[.slice none 0 0, .slice none 0 0, .slice none 0 0] := hW1 ▸ hZo.far (p := ⟨w.heap.size, 1, none⟩) (by show w.heap.size + 1 ≠ w.heap.size; omega) _
      have hb1 : Below w.heap.size w W1 := hW1 ▸ (bchain HB.out hb.out).setCell (p := ⟨w.heap.size, 1, none⟩) (Nat.le_refl _) _
      have hg1 : wo.grownBy W1 (some w.heap.size) := hW1 ▸ grownBy_set (World.grownBy.refl wo (some w.heap.size)) 1 _
      have hO1 : W1.ownsRow w.heap.size 72 5 (.slice A5 (fs.F.filter (stays fs)).length c5) (fs.F.filter (stays fs)).length (fis (fs.F.filter (stays fs))) := own_mono (hO.out.kept hg1 (.inr (own_off hO.out hFo (by decide)))) (by have := HWS.out; omega)
      obtain ⟨s0, s1, s2⟩ := hF1.cell3
      obtain ⟨t0, t1, t2⟩ := hZ1.cell3
      obtain ⟨p0, p1, p2⟩ := hZ1.froz3
      obtain ⟨q0, q1, q2⟩ := hFo.froz3
      have HX := keep (hZ1.three (.slice A1 fs.N.length c1) (.slice A5 (fs.F.filter (stays fs)).length c5) (.slice A3 fs.O.length c3))
      have hgr := grown_three W1 (w.heap.size + 1) (.slice A1 fs.N.length c1) (.slice A5 (fs.F.filter (stays fs)).length c5) (.slice A3 fs.O.length c3)
      have HO2 := keep (hO1.kept hgr (.inr (own_off hO1 hZ1 (by decide))))
      have HB2 := keep (below_three hb1 (Nat.le_succ _) (.slice A1 fs.N.length c1) (.slice A5 (fs.F.filter (stays fs)).length c5) (.slice A3 fs.O.length c3))
      clear hO hb hZo hF1 hZ1 hb1 hg1 hO1 hgr
      go_wp2_with fail
      rw [← hW1]
      refine bodyPost_ret (results_cell_row rfl _ _ (w.heap.size + 1) _ _ _ _ rfl HX.out Try.underlying40 rfl (by kernel_rfl)) rfl ?_
      exact ⟨_, rfl, HO2.out, HB2.out⟩
end Go.Proofs.Ytgegmefnbkcdkaa
