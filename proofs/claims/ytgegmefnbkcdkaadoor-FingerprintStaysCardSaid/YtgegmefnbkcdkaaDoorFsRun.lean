/- Do and Run: what they give. -/
import Derived.Test.YtgegmefnbkcdkaaDoorFsDoG
import Derived.Test.YtgegmefnbkcdkaaDoorFsLaw
namespace Go.Proofs.YtgegmefnbkcdkaaDoor
open Go.RowKit
/-- A change that is in bounds. -/
structure ChOk (w : World) (c : Ch) : Prop where
  r : BR w c.dv c.data
  d : c.data.length ≤ 1000000
  n : c.n ≤ 9223372036854775807
  s : c.name.size ≤ 9223372036854775807
  t : c.dst.size ≤ 9223372036854775807
theorem ChOk.up {w w' : World} {c : Ch} (h : ChOk w c) (hb : Below w.heap.size w w') : ChOk w' c := ⟨h.r.up hb, h.d, h.n, h.s, h.t⟩
def DoOut (fs : FS) (c : Ch) (w : World) (x : Ending) (w' : World) : Prop := ∃ (fs' : FS) (vN vF vO : Value), x = .returned (.tuple #[.agg #[vN, vF, vO], .int .i64 (doP fs.p c.p).1]) ∧ FsT w' vN vF vO fs' ∧ fs'.p = (doP fs.p c.p).2 ∧ Inv fs' ∧ fs'.O = fs.O ∧ Below w.heap.size w w'
theorem do_any (vN vF vO : Value) (fs : FS) (c : Ch) (w : World) (h : FsT w vN vF vO fs) (hi : Inv fs) (ho : fs.O.length ≤ 800) (hc : ChOk w c) (hg : Chg w) :
    Calls Tryd.prog 15 #[.agg #[vN, vF, vO], .agg (chV c)] w (DoOut fs c w) := by
  have key : Calls Tryd.prog 15 #[.agg #[vN, vF, vO], .agg (chV c)] w (DoRes fs c w) := by
    by_cases hk : 1 ≤ c.kind ∧ c.kind ≤ 8
    · exact do_good vN vF vO fs c w h (hi.dinv ho) hc.r hc.d hc.n hc.s hc.t hg hk
    · exact do_range vN vF vO fs c w h hc.r (by omega)
  refine key.mono ?_
  rintro x w' ⟨e, fs', vN', vF', vO', rfl, hr, hst, hb⟩
  obtain ⟨h1, h2, h3⟩ := doSt_p hi hst
  have e1 : e = (doP fs.p c.p).1 := congrArg Prod.fst h1
  have e2 : fs'.p = (doP fs.p c.p).2 := congrArg Prod.snd h1
  exact ⟨fs', vN', vF', vO', by rw [e1], hr, e2, h2, h3, hb⟩
/-- Run. -/
def runP (d : PD) : List PC → PD × List Int
  | [] => (d, [])
  | c :: L => ((runP (doP d c).2 L).1, (doP d c).1 :: (runP (doP d c).2 L).2)
theorem runP_snoc : ∀ (L : List PC) (d : PD) (c : PC), runP d (L ++ [c]) = ((doP (runP d L).1 c).2, (runP d L).2 ++ [(doP (runP d L).1 c).1])
  | [], _, _ => rfl
  | a :: L, d, c => by
    simp only [List.cons_append, runP, runP_snoc L]
/-- A list of changes in memory. -/
structure ChsR (w : World) (v : Value) (L : List Ch) : Prop where
  s : Sl w (lt w.heap.size) 5 v L.length (L.flatMap fun c => (chV c).toList)
  c : ∀ c ∈ L, ChOk w c
theorem ChsR.up {w w' : World} {v : Value} {L : List Ch} (h : ChsR w v L) (hb : Below w.heap.size w w') : ChsR w' v L := ⟨h.s.upW hb, fun c hc => (h.c c hc).up hb⟩
theorem chL_len (c : Ch) : (chV c).toList.length = 5 := rfl
theorem ch_cells {w : World} {S : Nat → Prop} {A : Option Addr} {c k : Nat} {L : List Ch} (h : Sl w S 5 (.slice A L.length c) L.length (L.flatMap fun c => (chV c).toList)) (hk : k < L.length) :
    ∃ b o, A = some ⟨b, o, none⟩ ∧ S b ∧ w.cell? ⟨b, o + k * 5, none⟩ = some (.int .i64 L[k].kind) ∧ w.cell? ⟨b, o + k * 5 + 1, none⟩ = some (.string L[k].name) ∧ w.cell? ⟨b, o + k * 5 + 2, none⟩ = some (.string L[k].dst) ∧ w.cell? ⟨b, o + k * 5 + 3, none⟩ = some L[k].dv ∧ w.cell? ⟨b, o + k * 5 + 4, none⟩ = some (.int .i64 L[k].n) := by
  obtain ⟨b, o, hA, hb, hrow⟩ := h.row (by omega)
  have q : ∀ j, j < 5 → ∀ u, ((chV L[k]).toList)[j]? = some u → w.cell? ⟨b, o + k * 5 + j, none⟩ = some u := fun j hj u hu => by
    have := hrow _ _ ((rows_at chL_len L k hk j hj).trans hu)
    rwa [← Nat.add_assoc] at this
  exact ⟨b, o, hA, hb, q 0 (by omega) _ rfl, q 1 (by omega) _ rfl, q 2 (by omega) _ rfl, q 3 (by omega) _ rfl, q 4 (by omega) _ rfl⟩
theorem elErr : Elem Tryd.prog 34 43 1 8 (.int .i64 0) := ⟨Tryd.underlying34, by kernel_rfl, rfl, by decide⟩
theorem take_succ_get {α : Type} (L : List α) (k : Nat) (h : k < L.length) : L.take (k + 1) = L.take k ++ [L[k]] := by
  rw [List.take_succ_eq_append_getElem h]
theorem own_tyNe {w : World} {base e e' size n : Nat} {v : Value} {xs : List Value} (h : w.ownsRow base e size v n xs) (ht : e ≠ e') : ∀ b, tyB w e' b → some b ≠ v.ownBlock := by
  intro b hb e
  obtain ⟨_, _, _, _, h2, _⟩ := own_at h e.symm
  exact tyB.ne h2 ht b hb rfl
theorem FsT.grownOwn {w w' : World} {base e size n : Nat} {v : Value} {xs : List Value} {vN vF vO : Value} {fs : FS} (h : FsT w vN vF vO fs) (ho : w.ownsRow base e size v n xs) (hg : w.grownBy w' v.ownBlock) (h1 : e ≠ 57) (h2 : e ≠ 60) (h3 : e ≠ 3) (h4 : e ≠ 5) : FsT w' vN vF vO fs :=
  ⟨h.n.tyGrown hg (own_tyNe ho h1), h.f.tyGrown hg (own_tyNe ho h2), h.o.tyGrown hg (own_tyNe ho h3), fun x hx => (h.d x hx).grown hg (own_noU8 ho h4)⟩
def RunOut (fs : FS) (L : List Ch) (w : World) (x : Ending) (w' : World) : Prop := ∃ (fs' : FS) (vN vF vO vE : Value), x = .returned (.tuple #[.agg #[vN, vF, vO], vE]) ∧ FsT w' vN vF vO fs' ∧ fs'.p = (runP fs.p (L.map Ch.p)).1 ∧ Inv fs' ∧ fs'.O = fs.O ∧ Sl w' (tyB w' 43) 1 vE L.length (ints (runP fs.p (L.map Ch.p)).2) ∧ Below w.heap.size w w'
set_option maxHeartbeats 8000000 in
set_option maxRecDepth 100000 in
theorem run_any (vN vF vO v : Value) (fs : FS) (L : List Ch) (w : World) (h : FsT w vN vF vO fs) (hi : Inv fs) (ho : fs.O.length ≤ 800) (hL : ChsR w v L) (hl : L.length ≤ 1000000) (hg : Chg w) :
    Calls Tryd.prog 8 #[.agg #[vN, vF, vO], v] w (RunOut fs L w) := by
  obtain ⟨A1, c1, rfl, _, _⟩ := h.n.form
  obtain ⟨A2, c2, rfl, _, _⟩ := h.f.form
  obtain ⟨A3, c3, rfl, _, _⟩ := h.o.form
  obtain ⟨AL, cL, rfl, _, _⟩ := hL.s.form
  obtain ⟨W, hW⟩ : ∃ W, W = ((w.alloc (.cells #[.slice A1 fs.N.length c1, .slice A2 fs.F.length c2, .slice A3 fs.O.length c3] 33)).alloc (.cells #[.slice none 0 0, .slice none 0 0, .slice none 0 0] 33)) := ⟨_, rfl⟩
  have hb : Below w.heap.size w W := hW ▸ ((Below.refl _ w).alloc (Nat.le_refl _) _).alloc (by simp) _
  have hF : Blk W w.heap.size 33 #[.slice A1 fs.N.length c1, .slice A2 fs.F.length c2, .slice A3 fs.O.length c3] := hW ▸ ((Blk.new w _ _).alloc _)
  have hZ : Blk W (w.heap.size + 1) 33 #[.slice none 0 0, .slice none 0 0, .slice none 0 0] := hW ▸ Blk.new_at (by simp)
  have HH := keep (h.up hb)
  have HL := keep hL
  have HG := keep hg
  have HB := keep hb
  have HF := keep hF
  have HZ := keep hZ
  have HI := keep hi
  have HO := keep ho
  have hWs : W.heap.size = w.heap.size + 1 + 1 := by rw [hW]; simp
  have HWS := keep hWs
  clear h hL hg hb hF hZ hi ho hWs
  go_enter Tryd.func8, Tryd.ntmps8
  go_wp2_with fail
  rw [← hW]
  clear hW
  go_loopw [6, 12] (fun v6 i wr => ∃ (k : Nat) (fk : FS) (vN vF vO : Value), i = .int .i64 k ∧ k ≤ L.length ∧ Hid (Blk wr w.heap.size 33 #[vN, vF, vO]) ∧ Hid (FsT wr vN vF vO fk) ∧ Hid (wr.ownsRow W.heap.size 43 1 v6 k (ints (runP fs.p ((L.take k).map Ch.p)).2)) ∧ Hid (fk.p = (runP fs.p ((L.take k).map Ch.p)).1) ∧ Hid (Inv fk) ∧ Hid (fk.O = fs.O) ∧ Hid (Below w.heap.size w wr) ∧ W.heap.size ≤ wr.heap.size ∧ Hid (Blk wr (w.heap.size + 1) 33 #[.slice none 0 0, .slice none 0 0, .slice none 0 0])) (fun _ i _ => L.length - (intOf i).toNat)
  case atStart => exact ⟨0, fs, _, _, _, rfl, Nat.zero_le _, HF, HH, keep (World.ownsRow_nil _ _ _ _), keep rfl, HI, keep rfl, HB, Nat.le_refl _, HZ⟩
  case round =>
    obtain ⟨k, fk, vN, vF, vO, rfl, hk, HFk, HTk, HOk, HPk, HIk, HFO, HBk, hzk, HZk⟩ := hrel
    obtain ⟨wo, rfl⟩ : ∃ wo : World, wo = wr := ⟨_, rfl⟩
    by_cases hlt : k < L.length
    · obtain ⟨B1, d1, rfl, _, _⟩ := HTk.out.n.form
      obtain ⟨B2, d2, rfl, _, _⟩ := HTk.out.f.form
      obtain ⟨B3, d3, rfl, _, _⟩ := HTk.out.o.form
      have hLk := HL.out.up HBk.out
      obtain ⟨b, o, rfl, _, x0, x1, x2, x3, x4⟩ := ch_cells hLk.s hlt
      have hck := hLk.c _ (List.getElem_mem hlt)
      have hgk := HG.out.up HBk.out
      obtain ⟨c, hcc⟩ : ∃ c, L[k] = c := ⟨_, rfl⟩
      have hrs : runP fs.p ((L.take (k + 1)).map Ch.p) = ((doP fk.p c.p).2, (runP fs.p ((L.take k).map Ch.p)).2 ++ [(doP fk.p c.p).1]) := by
        rw [take_succ_get L k hlt, List.map_append, List.map_singleton, runP_snoc, HPk.out, hcc]
      have HRS := keep hrs
      rw [hcc] at x0 x1 x2 x3 x4 hck
      clear hcc hrs
      obtain ⟨A, cc, hdv, _, _⟩ := hck.r.form
      obtain ⟨kind, name, dst, dv, data, n⟩ := c
      simp only at hdv x0 x1 x2 x3 x4
      subst hdv
      obtain ⟨f0, f1, f2⟩ := HFk.out.cell3
      have hal : Below wo.heap.size wo (wo.alloc (.cells #[.int .i64 kind, .string name, .string dst, .slice A data.length cc, .int .i64 n] 39)) := (Below.refl _ wo).alloc (Nat.le_refl _) _
      have HDO := keep (do_any _ _ _ fk ⟨kind, name, dst, .slice A data.length cc, data, n⟩ (wo.alloc (.cells #[.int .i64 kind, .string name, .string dst, .slice A data.length cc, .int .i64 n] 39)) (HTk.out.up hal) HIk.out (by rw [HFO.out]; exact HO.out) (hck.up hal) (hgk.up hal))
      have HFA := keep (HFk.out.below hal HFk.out.lt)
      have HZA := keep (HZk.out.below hal HZk.out.lt)
      have HOA := keep (own_bel HOk.out hal)
      have HBA := keep ((HBk.out.trans (hal.mono HBk.out.size)))
      have hzA := hal.size
      have hwlt : w.heap.size < wo.heap.size := HFk.out.lt
      have i1 : (k : Int) < (L.length : Int) := by omega
      have i2 : (L.length : Int) ≤ 1000000 := by omega
      clear hLk hck hgk hal
      go_wp2_with fail
      refine HDO.out.mono ?_
      rintro e w5 ⟨fs5, vN5, vF5, vO5, rfl, hT5, hP5, hI5, hO5, hb5⟩
      obtain ⟨E1, g1, rfl, _, _⟩ := hT5.n.form
      obtain ⟨E2, g2, rfl, _, _⟩ := hT5.f.form
      obtain ⟨E3, g3, rfl, _, _⟩ := hT5.o.form
      have hF5 := HFA.out.below hb5 HFA.out.lt
      have hZ5 := HZA.out.below hb5 HZA.out.lt
      have hW5 := own_bel HOA.out hb5
      have hB5 := HBA.out.trans (hb5.mono HBA.out.size)
      have hz5 := hb5.size
      obtain ⟨q0, q1, q2⟩ := hF5.cell3
      obtain ⟨p0, p1, p2⟩ := hF5.froz3
      have hgr := grown_three w5 w.heap.size (.slice E1 fs5.N.length g1) (.slice E2 fs5.F.length g2) (.slice E3 fs5.O.length g3)
      have HF6 := keep (hF5.three (.slice E1 fs5.N.length g1) (.slice E2 fs5.F.length g2) (.slice E3 fs5.O.length g3))
      have HT6 := keep (hT5.grown hF5 hgr (by decide) (by decide) (by decide) (by decide))
      have HZ6 := keep (hZ5.grown hgr (by simp))
      have hW6 := hW5.kept hgr (.inr (fun e => by have := (hW5.lt _ e).1; rw [HWS.out] at this; omega))
      have HB6 := keep (below_three hB5 (Nat.le_refl _) (.slice E1 fs5.N.length g1) (.slice E2 fs5.F.length g2) (.slice E3 fs5.O.length g3))
      have hz6 := hgr.size
      have HP5 := keep hP5
      have HI5 := keep hI5
      have HO5 := keep (hO5.trans HFO.out)
      obtain ⟨ee, hee⟩ : ∃ ee, (doP fk.p (Ch.p ⟨kind, name, dst, .slice A data.length cc, data, n⟩)).1 = ee := ⟨_, rfl⟩
      rw [hee]
      have HEE := keep hee
      obtain ⟨xs, hxs⟩ : ∃ xs, ints (runP fs.p ((L.take k).map Ch.p)).2 = xs := ⟨_, rfl⟩
      rw [hxs] at hW6
      have HXS := keep hxs
      have HW6 := keep hW6
      clear hF5 hZ5 hW5 hB5 hb5 hT5 hP5 hI5 hO5 hgr hW6 hee hxs f0 f1 f2 x0 x1 x2 x3 x4
      have HBS : Hid (W.heap.size ≤ (((w5.setCell ⟨w.heap.size, 0, none⟩ (.slice E1 fs5.N.length g1)).setCell ⟨w.heap.size, 1, none⟩ (.slice E2 fs5.F.length g2)).setCell ⟨w.heap.size, 2, none⟩ (.slice E3 fs5.O.length g3)).heap.size) := keep (by omega)
      go_wp2_with (refine wpList_push1 elErr rfl rfl _ _ _ rfl rfl rfl W.heap.size _ (.int .i64 ee) k _ rfl (fun _ => rfl) (fun _ => rfl) HW6.out rfl (by unfold maxLen; omega) (by omega) HBS.out ?_; intro g8 cap8 w8 hown8 hb8 hg8 hor8 _)
      have hT8 := HT6.out.grownOwn HW6.out hg8 (by decide) (by decide) (by decide) (by decide)
      have hF8 := HF6.out.grown hg8 (fun e => own_off HW6.out HF6.out (by decide) e.symm)
      have hZ8 := HZ6.out.grown hg8 (fun e => own_off HW6.out HZ6.out (by decide) e.symm)
      have hB8 := HB6.out.trans (hb8.mono (show w.heap.size ≤ W.heap.size by rw [HWS.out]; omega))
      have hz8 := hb8.size
      have hw8 : w8.ownsRow W.heap.size 43 1 (.slice (some ⟨g8, 0, none⟩) (k + 1) cap8) (k + 1) (ints (runP fs.p ((L.take (k + 1)).map Ch.p)).2) := by
        rw [HRS.out]
        have e1 : ∀ (l : List Int) (x : Int), ints (l ++ [x]) = ints l ++ [.int .i64 x] := fun l x => by simp [ints]
        rw [e1, HXS.out, show (doP fk.p (Ch.p ⟨kind, name, dst, .slice A data.length cc, data, n⟩)).1 = ee from HEE.out]
        exact hown8
      go_roundw
      case rel => exact ⟨k + 1, fs5, _, _, _, by go_num, by omega, keep hF8, keep hT8, keep hw8, keep (by rw [HRS.out]; exact HP5.out), HI5, HO5, keep hB8, Nat.le_trans HBS.out hz8, keep hZ8⟩
      case measure => simp [intOf]; omega
    · obtain rfl : k = L.length := by omega
      obtain ⟨B1, d1, rfl, _, _⟩ := HTk.out.n.form
      obtain ⟨B2, d2, rfl, _, _⟩ := HTk.out.f.form
      obtain ⟨B3, d3, rfl, _, _⟩ := HTk.out.o.form
      obtain ⟨f0, f1, f2⟩ := HFk.out.cell3
      obtain ⟨z0, z1, z2⟩ := HZk.out.cell3
      obtain ⟨g0, g1, g2⟩ := HZk.out.froz3
      have hgr := grown_three wo (w.heap.size + 1) (.slice B1 fk.N.length d1) (.slice B2 fk.F.length d2) (.slice B3 fk.O.length d3)
      have HT6 := keep (HTk.out.grown HZk.out hgr (by decide) (by decide) (by decide) (by decide))
      have HW6 := keep (HOk.out.kept hgr (.inr (own_off HOk.out HZk.out (by decide))))
      have HB6 := keep (below_three HBk.out (show w.heap.size ≤ w.heap.size + 1 by omega) (.slice B1 fk.N.length d1) (.slice B2 fk.F.length d2) (.slice B3 fk.O.length d3))
      clear hgr
      go_wp2_with fail
      refine bodyPost_ret (results_cell_row_tmp rfl _ _ (w.heap.size + 1) _ _ _ _ rfl (HZk.out.three _ _ _) Tryd.underlying33 rfl (by kernel_rfl)) rfl ?_
      have hP := HPk.out
      have hw := own_ty HW6.out
      rw [List.take_length] at hP hw
      exact ⟨fk, _, _, _, _, rfl, HT6.out, hP, HIk.out, HFO.out, hw, HB6.out⟩
end Go.Proofs.YtgegmefnbkcdkaaDoor
