/- A file is added to a directory that is being changed. -/
import Derived.Test.YtgegmefnbkcdkaaDoorFsMid
namespace Go.Proofs.YtgegmefnbkcdkaaDoor
open Go.RowKit
/-- The first gap among the inodes. -/
def Gap (F : List Fi) (k : Nat) : Prop := k ≤ F.length ∧ (∀ j, (hj : j < F.length) → j < k → F[j].ino = (j : Int) + 1) ∧ ∀ h : k < F.length, F[k].ino ≠ (k : Int) + 1
def putFile (F : List Fi) (k : Nat) (t : Fi) : List Fi := F.take k ++ ⟨(k : Int) + 1, t.dv, t.data, t.cp, t.wh, t.left⟩ :: F.drop k
def AddRes (B gd : Nat) (fs : FS) (t : Fi) (w : World) (x : Ending) (w' : World) : Prop := ∃ k : Nat, Gap fs.F k ∧ x = .returned (.int .i64 ((k : Int) + 1)) ∧ Dir w' B gd ⟨fs.N, putFile fs.F k t, fs.O⟩ ∧ Below B w w' ∧ TyKeep w w' ∧ w'.cell? ⟨gd, 0, none⟩ = w.cell? ⟨gd, 0, none⟩
set_option maxHeartbeats 8000000 in
set_option maxRecDepth 100000 in
theorem addFile_any (gd B : Nat) (fs : FS) (t : Fi) (w : World) (hB : B ≤ w.heap.size) (h : Dir w B gd fs) (ht : FiR w t) (hm : Small fs) :
    Calls Tryd.prog 89 #[.pointer (some ⟨gd, 0, none⟩), .agg (fiV t).toArray] w (AddRes B gd fs t w) := by
  obtain ⟨A, c, hv⟩ := ht.form
  obtain ⟨ino, dv, data, cp, wh, left⟩ := t
  simp only at hv
  subst hv
  simp only [fiV]
  obtain ⟨hBg, vN, vF, vO, hBk, hO⟩ := h
  obtain ⟨A2, c2, rfl, _⟩ := own_sl hO.f
  have hgl := hBk.lt
  obtain ⟨W, hW⟩ : ∃ W, W = w.alloc (.cells #[.int .i64 1, .slice A data.length c, .bool cp, .bool wh, .int .i64 left] 60) := ⟨_, rfl⟩
  have hBx : Blk W w.heap.size 60 #[.int .i64 1, .slice A data.length c, .bool cp, .bool wh, .int .i64 left] := hW ▸ Blk.new _ _ _
  have hb : Below w.heap.size w W := hW ▸ (Below.refl _ w).alloc (Nat.le_refl _) _
  have HB := keep hb
  have HBK := keep hBk
  have HO := keep hO
  have HT := keep ht
  have HNX := keep (show some w.heap.size ≠ (Value.slice A2 fs.F.length c2).ownBlock from fun e => absurd (hO.f.lt _ e.symm).2 (Nat.lt_irrefl _))
  have HBX := keep hBx
  have hlen : (fs.F.length : Int) ≤ 1000 := by have := hm.f; omega
  clear hb hBk hO ht hBx
  go_enter Tryd.func89, Tryd.ntmps89
  go_wp2_with fail
  rw [← hW]
  clear hW
  go_loopw [5] (fun i wr => ∃ k : Nat, k ≤ fs.F.length ∧ i = .int .i64 k ∧ Hid (Blk wr w.heap.size 60 #[.int .i64 ((k : Int) + 1), .slice A data.length c, .bool cp, .bool wh, .int .i64 left]) ∧ Hid (Below w.heap.size w wr) ∧ Hid (∀ j, (hj : j < fs.F.length) → j < k → fs.F[j].ino = (j : Int) + 1)) (fun i _ => fs.F.length - (intOf i).toNat)
  case atStart => exact ⟨0, Nat.zero_le _, rfl, HBX, HB, keep (fun j _ h => absurd h (by omega))⟩
  case round =>
    obtain ⟨k, hk, rfl, hX, hR, hP⟩ := hrel
    obtain ⟨wo, rfl⟩ : ∃ wo : World, wo = wr := ⟨_, rfl⟩
    have hOr := HO.out.up hR.out
    have hBr := HBK.out.below hR.out hgl
    have k1 : wo.cell? ⟨gd, 1, none⟩ = some (.slice A2 fs.F.length c2) := (hBr.cell 1).trans rfl
    have x0 : wo.cell? ⟨w.heap.size, 0, none⟩ = some (.int .i64 ((k : Int) + 1)) := (hX.out.cell 0).trans rfl
    have g0 : wo.frozen? ⟨w.heap.size, 0, none⟩ = false := hX.out.frozen 0
    have i1 : (k : Int) ≤ 1000 := by omega
    by_cases hgo : ∃ h : k < fs.F.length, fs.F[k].ino = (k : Int) + 1
    · obtain ⟨hlt, hino⟩ := hgo
      obtain ⟨b1, o1, rfl, _, c0, _⟩ := fi_cells hOr.r.f hlt
      rw [hino] at c0
      have hPn : ∀ j, (hj : j < fs.F.length) → j < k + 1 → fs.F[j].ino = (j : Int) + 1 := fun j hj hjk => by
        by_cases e : j = k
        · subst e; exact hino
        · exact hP.out j hj (by omega)
      have HPN := keep hPn
      have i2 : (k : Int) < (fs.F.length : Int) := by omega
      have d1 : decide ((k : Int) < (fs.F.length : Int)) = true := decide_eq_true i2
      clear hPn hOr hBr hino
      go_wp2_with fail
      go_quiet (fail)
      go_wp2_with fail
      go_roundw
      case rel =>
        refine ⟨k + 1, by omega, by go_num, keep ?_, keep (below_drewN hR.out nq |>.setCell (p := ⟨w.heap.size, 0, none⟩) (Nat.le_refl _) _), HPN⟩
        rw [show (((k + 1 : Nat) : Int)) = (k : Int) + 1 by omega]
        exact (show Blk (wo.drewN nq) _ _ _ from hX.out).set_ 0 _
      case measure => simp [intOf]; omega
    · have hgap : Gap fs.F k := ⟨hk, hP.out, fun h e => hgo ⟨h, e⟩⟩
      rcases Nat.lt_or_ge k fs.F.length with hlt | hge
      · obtain ⟨b1, o1, rfl, _, c0, _⟩ := fi_cells hOr.r.f hlt
        have hne : fs.F[k].ino ≠ (k : Int) + 1 := hgap.2.2 hlt
        have i2 : (k : Int) < (fs.F.length : Int) := by omega
        have d1 : decide ((k : Int) < (fs.F.length : Int)) = true := decide_eq_true i2
        have d2 : (fs.F[k].ino == (k : Int) + 1) = false := beq_eq_false_iff_ne.2 hne
        generalize fs.F[k].ino = y at c0 d2 hne
        clear hOr hBr hgo
        go_wp2_with fail
        go_quiet (fail)
        go_wp2_with fail
        have hbq : Below wo.heap.size wo (wo.drewN nq) := below_drewN (Below.refl _ wo) nq
        have hXq : Blk (wo.drewN nq) w.heap.size 60 #[.int .i64 ((k : Int) + 1), .slice A data.length c, .bool cp, .bool wh, .int .i64 left] := hX.out
        generalize wo.drewN nq = wq at hbq hXq ⊢
        have hbw := bchain hR.out hbq
        have hOq := HO.out.up hbw
        have hBq := HBK.out.below hbw hgl
        have hTq := HT.out.up hbw
        have hwd : Below wq.heap.size wq wq.drew := (Below.refl _ wq).drew
        have hal : Below wq.heap.size wq (wq.drew.alloc (.cells #[.int .i64 ((k : Int) + 1), .slice A data.length c, .bool cp, .bool wh, .int .i64 left] 60)) := hwd.alloc (Nat.le_refl _) _
        have hBn : Blk (wq.drew.alloc (.cells #[.int .i64 ((k : Int) + 1), .slice A data.length c, .bool cp, .bool wh, .int .i64 left] 60)) wq.heap.size 60 #[.int .i64 ((k : Int) + 1), .slice A data.length c, .bool cp, .bool wh, .int .i64 left] := Blk.new wq.drew _ _
        have hO2 := hOq.up hal
        have hB2 := hBq.below hal hBq.lt
        have hX2 := hXq.below hal hXq.lt
        have hins := insert_Fi _ fs.F.length k (fis fs.F) [.int .i64 ((k : Int) + 1), .slice A data.length c, .bool cp, .bool wh, .int .i64 left] wq.heap.size (wq.drew.alloc (.cells #[.int .i64 ((k : Int) + 1), .slice A data.length c, .bool cp, .bool wh, .int .i64 left] 60)) B hO2.f (by have := hal.size; have := hbw.size; omega) hk hBn rfl (fun e => by have := (hOq.f.lt wq.heap.size e).2; omega) (fis_one _ hO2.d) (by intro u hu; simp at hu; rcases hu with rfl | rfl | rfl | rfl | rfl <;> rfl) (by have := hm.f; omega)
        have HINS := keep hins
        have HO2 := keep hO2
        have HB2 := keep hB2
        have HX2 := keep hX2
        have HBW2 := keep (bchain hbw hal)
        have HT2 := keep (hTq.up hal)
        have p0 : wq.cell? ⟨gd, 1, none⟩ = some (.slice (some ⟨b1, o1, none⟩) fs.F.length c2) := (hBq.cell 1).trans rfl
        have p1 : wq.cell? ⟨w.heap.size, 0, none⟩ = some (.int .i64 ((k : Int) + 1)) := (hXq.cell 0).trans rfl
        have p2 : wq.cell? ⟨w.heap.size, 1, none⟩ = some (.slice A data.length c) := (hXq.cell 1).trans rfl
        have p3 : wq.cell? ⟨w.heap.size, 2, none⟩ = some (.bool cp) := (hXq.cell 2).trans rfl
        have p4 : wq.cell? ⟨w.heap.size, 3, none⟩ = some (.bool wh) := (hXq.cell 3).trans rfl
        have p5 : wq.cell? ⟨w.heap.size, 4, none⟩ = some (.int .i64 left) := (hXq.cell 4).trans rfl
        have r0 : (wq.alloc (.cells #[.int .i64 ((k : Int) + 1), .slice A data.length c, .bool cp, .bool wh, .int .i64 left] 60)).drew.cell? ⟨gd, 1, none⟩ = some (.slice (some ⟨b1, o1, none⟩) fs.F.length c2) := (hB2.cell 1).trans rfl
        have r1 : (wq.alloc (.cells #[.int .i64 ((k : Int) + 1), .slice A data.length c, .bool cp, .bool wh, .int .i64 left] 60)).cell? ⟨gd, 1, none⟩ = some (.slice (some ⟨b1, o1, none⟩) fs.F.length c2) := (hB2.cell 1).trans rfl
        have HGAP := keep hgap
        have hgx : gd ≠ w.heap.size := by omega
        clear hins hO2 hB2 hX2 hbw hal hOq hBq hTq hBn hXq hbq hgap hwd
        have hput : putFile fs.F k ⟨ino, .slice A data.length c, data, cp, wh, left⟩ = fs.F.take k ++ ⟨((k : Int) + 1), .slice A data.length c, data, cp, wh, left⟩ :: fs.F.drop k := rfl
        have hrow : (fis fs.F).take (k * 5) ++ [.int .i64 ((k : Int) + 1), .slice A data.length c, .bool cp, .bool wh, .int .i64 left] ++ (fis fs.F).drop (k * 5) = fis (putFile fs.F k ⟨ino, .slice A data.length c, data, cp, wh, left⟩) := by
          rw [hput, show fis fs.F = fs.F.flatMap fiV from rfl, rows_take fiV_len _ _ hk, rows_drop fiV_len _ _ hk]
          simp [fis, fiV]
        have hlen2 : (putFile fs.F k ⟨ino, .slice A data.length c, data, cp, wh, left⟩).length = fs.F.length + 1 := by
          rw [hput, List.length_append, List.length_cons, List.length_take, List.length_drop]; omega
        have HROW := keep hrow
        have HLEN2 := keep hlen2
        have HPUT := keep hput
        clear hput hrow hlen2
        go_cut [] (fun wd => Dir wd B gd ⟨fs.N, putFile fs.F k ⟨ino, .slice A data.length c, data, cp, wh, left⟩, fs.O⟩ ∧ (Below B w wd ∧ TyKeep w wd ∧ wd.cell? ⟨gd, 0, none⟩ = w.cell? ⟨gd, 0, none⟩) ∧ wd.cell? ⟨w.heap.size, 0, none⟩ = some (.int .i64 ((k : Int) + 1)))
        case first =>
          go_region_with ((go_at_call 97; refine HINS.out.mono ?_; rintro e w3 ⟨v3, rfl, ho3, hg3⟩
                           obtain ⟨A5, c5, rfl, _⟩ := own_sl ho3
                           have hb3 := HB2.out.grown hg3 (fun e => own_off HO2.out.f HB2.out (by decide) e.symm)
                           have hx3 := HX2.out.grown hg3 (fun e => HNX.out e)
                           have q1 : w3.cell? ⟨gd, 1, none⟩ = some (.slice (some ⟨b1, o1, none⟩) fs.F.length c2) := (hb3.cell 1).trans rfl
                           have q2 : w3.frozen? ⟨gd, 1, none⟩ = false := hb3.frozen 1
                           have z0 : w3.cell? ⟨w.heap.size, 0, none⟩ = some (.int .i64 ((k : Int) + 1)) := (hx3.cell 0).trans rfl))
          all_goals
            have hD3 : ∀ t ∈ putFile fs.F k ⟨ino, .slice A data.length c, data, cp, wh, left⟩, FiR w3 t := fun t ht => by
              rw [HPUT.out] at ht
              rcases List.mem_append.1 ht with h | h
              · exact (HO2.out.d t (List.mem_of_mem_take h)).grown hg3 (own_noU8 HO2.out.f (by decide))
              · rcases List.mem_cons.1 h with rfl | h
                · exact (show FiR _ ⟨((k : Int) + 1), .slice A data.length c, data, cp, wh, left⟩ from ⟨HT2.out.1, HT2.out.2⟩).grown hg3 (own_noU8 HO2.out.f (by decide))
                · exact (HO2.out.d t (List.mem_of_mem_drop h)).grown hg3 (own_noU8 HO2.out.f (by decide))
            rw [HROW.out] at ho3
            have ho4 : w3.ownsRow B 60 5 (.slice A5 (fs.F.length + 1) c5) (putFile fs.F k ⟨ino, .slice A data.length c, data, cp, wh, left⟩).length (fis (putFile fs.F k ⟨ino, .slice A data.length c, data, cp, wh, left⟩)) := by rw [HLEN2.out]; exact ho3
            have hO3 := HO2.out.putF hg3 ho4 hD3
            have hD : Dir (w3.setCell ⟨gd, 1, none⟩ (.slice A5 (fs.F.length + 1) c5)) B gd ⟨fs.N, putFile fs.F k ⟨ino, .slice A data.length c, data, cp, wh, left⟩, fs.O⟩ := ⟨hBg, _, _, _, hb3.set_ 1 _, hO3.set_ hb3 1 _⟩
            have hBe : Below B w (w3.setCell ⟨gd, 1, none⟩ (.slice A5 (fs.F.length + 1) c5)) := (((HBW2.out.mono hB).grown hg3 (Nat.le_trans hB HBW2.out.size) (own_ge HO2.out.f))).setCell (p := ⟨gd, 1, none⟩) hBg _
            have z1 : (w3.setCell ⟨gd, 1, none⟩ (.slice A5 (fs.F.length + 1) c5)).cell? ⟨w.heap.size, 0, none⟩ = some (.int .i64 ((k : Int) + 1)) := ((hx3.far (p := ⟨gd, 1, none⟩) (fun e => hgx e.symm) _).cell 0).trans rfl
            go_wp2_with fail
            go_meet
            exact ⟨hD, ⟨hBe, ((TyKeep.of_below HBW2.out).trans (TyKeep.grown hg3 HO2.out.f (.inl rfl))).trans (TyKeep.set_ hb3 1 (.slice A5 (fs.F.length + 1) c5)), (((hb3.set_ 1 _).cell 0).trans rfl).trans ((HBK.out.cell 0).trans rfl).symm⟩, z1⟩
        case rest =>
          obtain ⟨hD, hBe, z1⟩ := hcut
          have HD := keep hD
          have HBE := keep hBe
          clear hD hBe
          go_wp2_with fail
          go_ret
          exact ⟨k, HGAP.out, rfl, HD.out, HBE.out⟩
      · obtain rfl : k = fs.F.length := by omega
        have d1 : decide ((fs.F.length : Int) < (fs.F.length : Int)) = false := decide_eq_false (by omega)
        clear hOr hBr hgo
        go_wp2_with fail
        go_quiet (fail)
        go_wp2_with fail
        have hbq : Below wo.heap.size wo (wo.drewN nq) := below_drewN (Below.refl _ wo) nq
        have hXq : Blk (wo.drewN nq) w.heap.size 60 #[.int .i64 ((fs.F.length : Int) + 1), .slice A data.length c, .bool cp, .bool wh, .int .i64 left] := hX.out
        generalize wo.drewN nq = wq at hbq hXq ⊢
        have hbw := bchain hR.out hbq
        have hOq := HO.out.up hbw
        have hBq := HBK.out.below hbw hgl
        have hTq := HT.out.up hbw
        have hwd : Below wq.heap.size wq wq.drew := (Below.refl _ wq).drew
        have hal : Below wq.heap.size wq (wq.drew.alloc (.cells #[.int .i64 ((fs.F.length : Int) + 1), .slice A data.length c, .bool cp, .bool wh, .int .i64 left] 60)) := hwd.alloc (Nat.le_refl _) _
        have hBn : Blk (wq.drew.alloc (.cells #[.int .i64 ((fs.F.length : Int) + 1), .slice A data.length c, .bool cp, .bool wh, .int .i64 left] 60)) wq.heap.size 60 #[.int .i64 ((fs.F.length : Int) + 1), .slice A data.length c, .bool cp, .bool wh, .int .i64 left] := Blk.new wq.drew _ _
        have hO2 := hOq.up hal
        have hB2 := hBq.below hal hBq.lt
        have hX2 := hXq.below hal hXq.lt
        have hins := insert_Fi _ fs.F.length fs.F.length (fis fs.F) [.int .i64 ((fs.F.length : Int) + 1), .slice A data.length c, .bool cp, .bool wh, .int .i64 left] wq.heap.size (wq.drew.alloc (.cells #[.int .i64 ((fs.F.length : Int) + 1), .slice A data.length c, .bool cp, .bool wh, .int .i64 left] 60)) B hO2.f (by have := hal.size; have := hbw.size; omega) hk hBn rfl (fun e => by have := (hOq.f.lt wq.heap.size e).2; omega) (fis_one _ hO2.d) (by intro u hu; simp at hu; rcases hu with rfl | rfl | rfl | rfl | rfl <;> rfl) (by have := hm.f; omega)
        have HINS := keep hins
        have HO2 := keep hO2
        have HB2 := keep hB2
        have HX2 := keep hX2
        have HBW2 := keep (bchain hbw hal)
        have HT2 := keep (hTq.up hal)
        have p0 : wq.cell? ⟨gd, 1, none⟩ = some (.slice A2 fs.F.length c2) := (hBq.cell 1).trans rfl
        have p1 : wq.cell? ⟨w.heap.size, 0, none⟩ = some (.int .i64 ((fs.F.length : Int) + 1)) := (hXq.cell 0).trans rfl
        have p2 : wq.cell? ⟨w.heap.size, 1, none⟩ = some (.slice A data.length c) := (hXq.cell 1).trans rfl
        have p3 : wq.cell? ⟨w.heap.size, 2, none⟩ = some (.bool cp) := (hXq.cell 2).trans rfl
        have p4 : wq.cell? ⟨w.heap.size, 3, none⟩ = some (.bool wh) := (hXq.cell 3).trans rfl
        have p5 : wq.cell? ⟨w.heap.size, 4, none⟩ = some (.int .i64 left) := (hXq.cell 4).trans rfl
        have r0 : (wq.alloc (.cells #[.int .i64 ((fs.F.length : Int) + 1), .slice A data.length c, .bool cp, .bool wh, .int .i64 left] 60)).drew.cell? ⟨gd, 1, none⟩ = some (.slice A2 fs.F.length c2) := (hB2.cell 1).trans rfl
        have r1 : (wq.alloc (.cells #[.int .i64 ((fs.F.length : Int) + 1), .slice A data.length c, .bool cp, .bool wh, .int .i64 left] 60)).cell? ⟨gd, 1, none⟩ = some (.slice A2 fs.F.length c2) := (hB2.cell 1).trans rfl
        have HGAP := keep hgap
        have hgx : gd ≠ w.heap.size := by omega
        clear hins hO2 hB2 hX2 hbw hal hOq hBq hTq hBn hXq hbq hgap hwd
        have hput : putFile fs.F fs.F.length ⟨ino, .slice A data.length c, data, cp, wh, left⟩ = fs.F.take fs.F.length ++ ⟨((fs.F.length : Int) + 1), .slice A data.length c, data, cp, wh, left⟩ :: fs.F.drop fs.F.length := rfl
        have hrow : (fis fs.F).take (fs.F.length * 5) ++ [.int .i64 ((fs.F.length : Int) + 1), .slice A data.length c, .bool cp, .bool wh, .int .i64 left] ++ (fis fs.F).drop (fs.F.length * 5) = fis (putFile fs.F fs.F.length ⟨ino, .slice A data.length c, data, cp, wh, left⟩) := by
          rw [hput, show fis fs.F = fs.F.flatMap fiV from rfl, rows_take fiV_len _ _ hk, rows_drop fiV_len _ _ hk]
          simp [fis, fiV]
        have hlen2 : (putFile fs.F fs.F.length ⟨ino, .slice A data.length c, data, cp, wh, left⟩).length = fs.F.length + 1 := by
          rw [hput, List.length_append, List.length_cons, List.length_take, List.length_drop]; omega
        have HROW := keep hrow
        have HLEN2 := keep hlen2
        have HPUT := keep hput
        clear hput hrow hlen2
        go_cut [] (fun wd => Dir wd B gd ⟨fs.N, putFile fs.F fs.F.length ⟨ino, .slice A data.length c, data, cp, wh, left⟩, fs.O⟩ ∧ (Below B w wd ∧ TyKeep w wd ∧ wd.cell? ⟨gd, 0, none⟩ = w.cell? ⟨gd, 0, none⟩) ∧ wd.cell? ⟨w.heap.size, 0, none⟩ = some (.int .i64 ((fs.F.length : Int) + 1)))
        case first =>
          go_region_with ((go_at_call 97; refine HINS.out.mono ?_; rintro e w3 ⟨v3, rfl, ho3, hg3⟩
                           obtain ⟨A5, c5, rfl, _⟩ := own_sl ho3
                           have hb3 := HB2.out.grown hg3 (fun e => own_off HO2.out.f HB2.out (by decide) e.symm)
                           have hx3 := HX2.out.grown hg3 (fun e => HNX.out e)
                           have q1 : w3.cell? ⟨gd, 1, none⟩ = some (.slice A2 fs.F.length c2) := (hb3.cell 1).trans rfl
                           have q2 : w3.frozen? ⟨gd, 1, none⟩ = false := hb3.frozen 1
                           have z0 : w3.cell? ⟨w.heap.size, 0, none⟩ = some (.int .i64 ((fs.F.length : Int) + 1)) := (hx3.cell 0).trans rfl))
          all_goals
            have hD3 : ∀ t ∈ putFile fs.F fs.F.length ⟨ino, .slice A data.length c, data, cp, wh, left⟩, FiR w3 t := fun t ht => by
              rw [HPUT.out] at ht
              rcases List.mem_append.1 ht with h | h
              · exact (HO2.out.d t (List.mem_of_mem_take h)).grown hg3 (own_noU8 HO2.out.f (by decide))
              · rcases List.mem_cons.1 h with rfl | h
                · exact (show FiR _ ⟨((fs.F.length : Int) + 1), .slice A data.length c, data, cp, wh, left⟩ from ⟨HT2.out.1, HT2.out.2⟩).grown hg3 (own_noU8 HO2.out.f (by decide))
                · exact (HO2.out.d t (List.mem_of_mem_drop h)).grown hg3 (own_noU8 HO2.out.f (by decide))
            rw [HROW.out] at ho3
            have ho4 : w3.ownsRow B 60 5 (.slice A5 (fs.F.length + 1) c5) (putFile fs.F fs.F.length ⟨ino, .slice A data.length c, data, cp, wh, left⟩).length (fis (putFile fs.F fs.F.length ⟨ino, .slice A data.length c, data, cp, wh, left⟩)) := by rw [HLEN2.out]; exact ho3
            have hO3 := HO2.out.putF hg3 ho4 hD3
            have hD : Dir (w3.setCell ⟨gd, 1, none⟩ (.slice A5 (fs.F.length + 1) c5)) B gd ⟨fs.N, putFile fs.F fs.F.length ⟨ino, .slice A data.length c, data, cp, wh, left⟩, fs.O⟩ := ⟨hBg, _, _, _, hb3.set_ 1 _, hO3.set_ hb3 1 _⟩
            have hBe : Below B w (w3.setCell ⟨gd, 1, none⟩ (.slice A5 (fs.F.length + 1) c5)) := (((HBW2.out.mono hB).grown hg3 (Nat.le_trans hB HBW2.out.size) (own_ge HO2.out.f))).setCell (p := ⟨gd, 1, none⟩) hBg _
            have z1 : (w3.setCell ⟨gd, 1, none⟩ (.slice A5 (fs.F.length + 1) c5)).cell? ⟨w.heap.size, 0, none⟩ = some (.int .i64 ((fs.F.length : Int) + 1)) := ((hx3.far (p := ⟨gd, 1, none⟩) (fun e => hgx e.symm) _).cell 0).trans rfl
            go_wp2_with fail
            go_meet
            exact ⟨hD, ⟨hBe, ((TyKeep.of_below HBW2.out).trans (TyKeep.grown hg3 HO2.out.f (.inl rfl))).trans (TyKeep.set_ hb3 1 (.slice A5 (fs.F.length + 1) c5)), (((hb3.set_ 1 _).cell 0).trans rfl).trans ((HBK.out.cell 0).trans rfl).symm⟩, z1⟩
        case rest =>
          obtain ⟨hD, hBe, z1⟩ := hcut
          have HD := keep hD
          have HBE := keep hBe
          clear hD hBe
          go_wp2_with fail
          go_ret
          exact ⟨fs.F.length, HGAP.out, rfl, HD.out, HBE.out⟩
end Go.Proofs.YtgegmefnbkcdkaaDoor
