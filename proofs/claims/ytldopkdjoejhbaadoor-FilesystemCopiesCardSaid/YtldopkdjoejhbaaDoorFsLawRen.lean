/- FilesystemRenames: the walk of the statement. -/
import Derived.Test.YtldopkdjoejhbaaDoorFsAwake
import Derived.Test.YtldopkdjoejhbaaDoorFsPlain
import Derived.Test.YtldopkdjoejhbaaDoorMakeData
namespace Go.Proofs.YtldopkdjoejhbaaDoor
open Go.RowKit
theorem OwnB.br {w : World} {base : Nat} {v : Value} {l : List UInt8} (h : OwnB w base v l) : BR w v l := h.slt
theorem BR.bsl {w : World} {v : Value} {l : List UInt8} (h : BR w v l) : BSl w (lt w.heap.size) v l := h
theorem Blk.three_alloc {w : World} {t : TypeId} {a0 a1 a2 : Value} : Blk (w.alloc (.cells #[a0, a1, a2] t)) w.heap.size t #[a0, a1, a2] := Blk.new w t _
theorem Sl.cells {w : World} {S : Nat → Prop} {A : Option Addr} {n c : Nat} {xs : List Value} (h : Sl w S 1 (.slice A n c) n xs) (hn : 0 < n) : ∃ b o, A = some ⟨b, o, none⟩ ∧ S b ∧ ∀ j u, xs[j]? = some u → w.cell? ⟨b, o + j, none⟩ = some u := by
  obtain ⟨hl, A', c', hv, hc, hrr⟩ := h
  injection hv with h1 _ _
  subst h1
  obtain ⟨b, o, hA, hS, hrow⟩ := hrr hn
  exact ⟨b, o, hA, hS, fun j u hu => hrow j u hu⟩
set_option maxHeartbeats 8000000 in
set_option maxRecDepth 100000 in
theorem law_renames (vc : Value) (bs : List Int) (held : Bool) (w : World) (hg : Chg w) (hsc : Sl w (lt w.heap.size) 1 vc bs.length (bs.map (.int .u8))) (hr : ∀ x ∈ bs, 0 ≤ x ∧ x ≤ 255) (hm : bs.length ≤ maxLen) :
    Calls Tryd.prog 5 #[vc, .bool held] w fun e w' => e = .returned (.bool true) ∧ Below w.heap.size w w' := by
  obtain ⟨Ac, cc, rfl, hcc, hsc⟩ := hsc.form
  have HG := keep hg
  clear hg
  go_enter Tryd.func5, Tryd.ntmps5
  go_wp2_with fail
  refine (awake_any w HG.out).mono ?_
  rintro e w1 ⟨rfl, hb1⟩
  go_wp2_with fail
  refine (drawNew _ bs 100 _ ((hsc.below hb1 (Nat.le_refl _)).more hb1.size) hr (by omega) hm).mono ?_
  rintro e w2 ⟨gc, rfl, hgc, hC, hb2⟩
  go_wp2_with fail
  refine (makeData gc 1 4 _ hC (by omega) (by omega)).mono ?_
  rintro e w3 ⟨vD, lD, rfl, hD, hD1, hD2, hC4, hg3⟩
  have hb3 : Below w1.heap.size w1 w3 := hb2.grown hg3 hb2.size (fun k hk => by injection hk with hk; omega)
  have hbw : Below w.heap.size w w3 := bchain hb1 hb3
  have hDl : lD.length ≤ 3000 := by omega
  obtain ⟨AD, cD, rfl, _, hD'⟩ := hD.form
  have HDB := keep hD'.br
  have HBW := keep hbw
  have HG3 := keep (HG.out.up hbw)
  clear hsc hr hm hcc hb1 hgc hC hb2 hD hD1 hD2 hC4 hg3 hb3 hbw hD' HG
  go_wp2_with fail
  refine (new_any w3).mono ?_
  rintro e w4 ⟨rfl, hb4⟩
  go_wp2_with fail
  have hok : ∀ c ∈ ([⟨1, nmA, nmO, .slice AD lD.length cD, lD, 0⟩, ⟨4, nmA, nmB, .slice none 0 0, [], 0⟩] : List Ch), ChOk w4 c := by
    intro c hc
    simp only [List.mem_cons, List.not_mem_nil, or_false] at hc
    rcases hc with rfl | rfl
    · exact chOk_of (HDB.out.up hb4) ⟨by omega, by decide, by decide, by decide⟩
    · exact chOk_of (BR.nil _ _ _) (by decide)
  have hlit := ChsR.lit w4 _ 37 w4.heap.size rfl hok
  have hz4 := hb4.size
  have hbB : Below w3.heap.size w3 (w4.alloc (.cells (([⟨1, nmA, nmO, .slice AD lD.length cD, lD, 0⟩, ⟨4, nmA, nmB, .slice none 0 0, [], 0⟩] : List Ch).flatMap fun c => (chV c).toList).toArray 37)) := hb4.alloc hz4 _
  have HRUN := keep (run_any _ _ _ _ ⟨[], [], []⟩ _ _ (FsT.new _) Inv.new (by simp) hlit (by simp) (HG3.out.up hbB))
  have HBB := keep hbB
  clear hlit hok hbB hb4 hz4
  refine HRUN.out.mono ?_
  rintro e w5 ⟨fs5, vN, vF, vO, vE, rfl, hT5, hP5, hI5, hO5, hE5, hb5⟩
  have hP5' : fs5.p = ⟨[⟨nmB, 1⟩], [⟨1, lD, false, true, 0⟩], []⟩ := hP5.trans (congrArg Prod.fst (ren_run lD (by omega)))
  obtain ⟨B1, d1, rfl, _, _⟩ := hT5.n.form
  obtain ⟨B2, d2, rfl, _, _⟩ := hT5.f.form
  obtain ⟨B3, d3, rfl, _, _⟩ := hT5.o.form
  obtain ⟨E1, ce, rfl, _, _⟩ := hE5.form
  have hal : Below w5.heap.size w5 (w5.alloc (.cells #[.slice B1 fs5.N.length d1, .slice B2 fs5.F.length d2, .slice B3 fs5.O.length d3] 31)) := (Below.refl _ w5).alloc (Nat.le_refl _) _
  have HT6 := keep (hT5.up hal)
  have HB6 := keep (bchain (bchain HBB.out hb5) hal)
  have HX6 := keep (Blk.three_alloc (w := w5) (t := 31) (a0 := .slice B1 fs5.N.length d1) (a1 := .slice B2 fs5.F.length d2) (a2 := .slice B3 fs5.O.length d3))
  have HI5 := keep hI5
  have HP5 := keep hP5'
  have HZ5 : Hid (w3.heap.size ≤ w5.heap.size) := keep (bchain HBB.out hb5).size
  have HO5 : Hid (fs5.O.length ≤ 800) := keep (by rw [hO5]; simp)
  have HLK := keep (lookup_any _ _ _ fs5 nmB _ HT6.out hI5)
  have HLV : Hid (lookP fs5.N nmB = some 1) := keep (by rw [show fs5.N = [⟨nmB, 1⟩] from congrArg PD.N hP5']; rfl)
  have HHV : Hid (hasP fs5.N nmB = true) := keep (by unfold hasP; rw [HLV.out]; rfl)
  clear hT5 hP5 hP5' hI5 hO5 hE5 hb5 hal HRUN HBB
  go_wp2_with fail
  refine HLK.out.mono ?_
  rintro e w7 ⟨rfl, hb7⟩
  rw [HLV.out, HHV.out]
  have HT7 := keep (HT6.out.up hb7)
  have HB7 := keep (bchain HB6.out hb7)
  have HX7 := keep (HX6.out.below hb7 HX6.out.lt)
  clear hb7 HT6 HX6 HB6
  cases held
  · skip
    obtain ⟨f0, f1, f2⟩ := HX7.out.cell3
    have kc := fun (w : World) (C : Array Value) (n c : Nat) => Lib.run_convert_bytes_const (P := Tryd.prog) w 22 5 C n c Tryd.underlying22 Tryd.underlying5
    go_wp2_with fail
    obtain ⟨W8, hW8⟩ : ∃ W8, W8 = w7.alloc (Obj.cells #[Value.int .u8 122, Value.int .u8 10] 5 (2, 3)) := ⟨_, rfl⟩
    have hbA : Below w7.heap.size w7 W8 := hW8 ▸ (Below.refl _ w7).alloc (Nat.le_refl _) _
    have hzA : W8.heap.size = w7.heap.size + 1 := by rw [hW8]; simp
    have hbr : BR W8 (.slice (some ⟨w7.heap.size, 0, none⟩) 2 2) [122, 10] := hW8 ▸ BR.lit w7 [122, 10] _ _ _ rfl
    obtain ⟨L, hL⟩ : ∃ L : List Ch, L = [⟨7, nmB, nmO, .slice none 0 0, [], 0⟩, ⟨1, nmC, nmO, .slice (some ⟨w7.heap.size, 0, none⟩) 2 2, [122, 10], 0⟩] := ⟨_, rfl⟩
    have hok : ∀ c ∈ L, ChOk W8 c := by
      rw [hL]
      intro c hc
      simp only [List.mem_cons, List.not_mem_nil, or_false] at hc
      rcases hc with rfl | rfl
      · exact chOk_of (BR.nil _ _ _) (by decide)
      · exact chOk_of hbr (by decide)
    have hlit := ChsR.lit W8 L 37 (w7.heap.size + 1) hzA.symm hok
    have hbB : Below W8.heap.size W8 (W8.alloc (.cells (L.flatMap fun c => (chV c).toList).toArray 37)) := (Below.refl _ W8).alloc (Nat.le_refl _) _
    have hb8 := bchain hbA hbB
    have HB8 := keep (bchain HB7.out hb8)
    have HRUN := keep (run_any _ _ _ _ fs5 L _ (HT7.out.up hb8) HI5.out HO5.out hlit (by rw [hL]; simp) (HG3.out.up HB8.out))
    have HX8 := keep (HX7.out.below hb8 HX7.out.lt)
    have HPL : Hid (L.map Ch.p = [⟨7, nmB, nmO, [], 0⟩, ⟨1, nmC, nmO, [122, 10], 0⟩]) := keep (by rw [hL]; rfl)
    have HLL : Hid (L.length = 2) := keep (by rw [hL]; rfl)
    have hLf : (L.flatMap fun c => (chV c).toList).toArray = #[Value.int .i64 7, .string ⟨#[98]⟩, .string ⟨#[]⟩, .slice none 0 0, .int .i64 0, .int .i64 1, .string ⟨#[99]⟩, .string ⟨#[]⟩, .slice (some ⟨w7.heap.size, 0, none⟩) 2 2, .int .i64 0] := by rw [hL]; rfl
    rw [← hW8, ← hLf, show (Value.slice (some ⟨w7.heap.size + 1, 0, none⟩) 2 2) = .slice (some ⟨w7.heap.size + 1, 0, none⟩) L.length L.length by rw [HLL.out]]
    clear hlit hbB hb8 hLf hok hbr hbA hzA hW8 hL kc f0 f1 f2
    refine HRUN.out.mono ?_
    rintro e w9 ⟨fs9, vN, vF, vO, vE, rfl, hT9, hP9, hI9, hO9, hE9, hb9⟩
    rw [HP5.out, HPL.out, ren_free lD] at hP9
    rw [HP5.out, HPL.out, ren_free lD, HLL.out] at hE9
    obtain ⟨C1, e1, rfl, _, _⟩ := hT9.n.form
    obtain ⟨C2, e2, rfl, _, _⟩ := hT9.f.form
    obtain ⟨C3, e3, rfl, _, _⟩ := hT9.o.form
    obtain ⟨E2, ce2, rfl, _, _⟩ := hE9.form
    have hX9 := HX8.out.below hb9 HX8.out.lt
    have hgr := grown_three w9 w5.heap.size (.slice C1 fs9.N.length e1) (.slice C2 fs9.F.length e2) (.slice C3 fs9.O.length e3)
    obtain ⟨eb, eo, rfl, _, hec⟩ := (hE9.tyGrown hgr (tyB.ne hX9 (by decide))).cells (by omega)
    have he0 := hec 0 _ rfl
    have he1 := hec 1 _ rfl
    rw [Nat.add_zero] at he0
    obtain ⟨p0, p1, p2⟩ := hX9.froz3
    obtain ⟨q0, q1, q2⟩ := hX9.cell3
    have HX10 := keep (hX9.three (.slice C1 fs9.N.length e1) (.slice C2 fs9.F.length e2) (.slice C3 fs9.O.length e3))
    have HT10 := keep (hT9.grown hX9 hgr (by decide) (by decide) (by decide) (by decide))
    have HB10 := keep (below_three (bchain HB8.out hb9) HZ5.out (.slice C1 fs9.N.length e1) (.slice C2 fs9.F.length e2) (.slice C3 fs9.O.length e3))
    have HI9 := keep hI9
    have hP9' : fs9.p = ⟨[⟨nmC, 1⟩], [⟨1, [122, 10], false, true, 0⟩], []⟩ := hP9
    have HP9 := keep hP9'
    have HO9 : Hid (fs9.O.length ≤ 800) := keep (by rw [show fs9.O = [] from congrArg PD.O hP9']; simp)
    have HF9 : Hid (fs9.F.length ≤ 800) := keep (by rw [← List.length_map (f := Fi.p), show fs9.F.map Fi.p = [⟨1, [122, 10], false, true, 0⟩] from congrArg PD.F hP9']; simp)
    have HLV2 : Hid (lookP fs9.N nmC = some 1) := keep (by rw [show fs9.N = [⟨nmC, 1⟩] from congrArg PD.N hP9']; rfl)
    have HHV2 : Hid (hasP fs9.N nmC = true) := keep (by unfold hasP; rw [HLV2.out]; rfl)
    obtain ⟨x0, x1, x2⟩ := HX10.out.cell3
    clear hec hgr hX9 hE9 hT9 hP9 hP9' hI9 hO9 hb9 HRUN HX8 HPL HLL HB8
    go_wp2_with fail
    generalize (((w9.setCell ⟨w5.heap.size, 0, none⟩ (.slice C1 fs9.N.length e1)).setCell ⟨w5.heap.size, 1, none⟩ (.slice C2 fs9.F.length e2)).setCell ⟨w5.heap.size, 2, none⟩ (.slice C3 fs9.O.length e3)) = w10 at *
    refine (lookup_any _ _ _ fs9 nmC _ HT10.out HI9.out).mono ?_
    rintro e w11 ⟨rfl, hb11⟩
    rw [HLV2.out, HHV2.out]
    have HT11 := keep (HT10.out.up hb11)
    have HB11 := keep (bchain HB10.out hb11)
    have HX11 := keep (HX10.out.below hb11 HX10.out.lt)
    clear hb11 HT10 HB10 HX10 he0 he1 x0 x1 x2 p0 p1 p2 q0 q1 q2
    obtain ⟨f0, f1, f2⟩ := HX11.out.cell3
    go_wp2_with fail
    refine (read_any _ _ _ fs9 1 _ HT11.out HI9.out HO9.out).mono ?_
    rintro e w12 ⟨dv, rfl, hdv, hb12⟩
    rw [HP9.out, ren_read1] at hdv ⊢
    have hd2 : Sl w12 (u8B w12) 1 dv [122, 10].length (bys [122, 10]) := hdv
    obtain ⟨A12, c12, rfl, _, _⟩ := hd2.form
    have hal : Below w12.heap.size w12 (w12.alloc (.cells #[.int .i64 1, .slice A12 2 c12, .bool false, .bool true, .int .i64 0] 45)) := (Below.refl _ w12).alloc (Nat.le_refl _) _
    have hsb : BSl (w12.alloc (.cells #[.int .i64 1, .slice A12 2 c12, .bool false, .bool true, .int .i64 0] 45)) (lt (w12.alloc (.cells #[.int .i64 1, .slice A12 2 c12, .bool false, .bool true, .int .i64 0] 45)).heap.size) (.slice A12 2 c12) [122, 10] := Sl.upW (hd2.mono fun _ hb => hb.lt_) hal
    have hcv := run_stringB hsb Tryd.underlying22 Tryd.underlying5 Tryd.underlying9
    have HB13 := keep (bchain (bchain HB11.out hb12) hal)
    clear hsb hal hb12 hdv hd2 f0 f1 f2
    simp only [fileV, Option.getD_some, Option.isSome_some]
    go_wp2_with fail
    go_ret
    exact ⟨rfl, bchain HBW.out HB13.out⟩
  · skip
    obtain ⟨f0, f1, f2⟩ := HX7.out.cell3
    go_wp2_with fail
    refine (hold_any _ _ _ _ fs5 [1] _ (HT7.out.up ((Below.refl _ w7).alloc (Nat.le_refl _) _)) HI5.out HO5.out (Sl.lit w7 (ints [1]) 3 (0, 0) 1 1 _ rfl rfl) (by simp)).mono ?_
    rintro e wh ⟨fsh, vN, vF, vO, rfl, hTh, hPh, hIh, hOh, hbh⟩
    rw [HP5.out, ren_hold lD] at hPh
    obtain ⟨G1, h1, rfl, _, _⟩ := hTh.n.form
    obtain ⟨G2, h2, rfl, _, _⟩ := hTh.f.form
    obtain ⟨G3, h3, rfl, _, _⟩ := hTh.o.form
    have hal : Below w7.heap.size w7 (w7.alloc (.cells #[.int .i64 1] 3)) := (Below.refl _ w7).alloc (Nat.le_refl _) _
    have hb7h := bchain hal hbh
    have hXh := HX7.out.below hb7h HX7.out.lt
    have hgr := grown_three wh w5.heap.size (.slice G1 fsh.N.length h1) (.slice G2 fsh.F.length h2) (.slice G3 fsh.O.length h3)
    obtain ⟨p0, p1, p2⟩ := hXh.froz3
    obtain ⟨q0, q1, q2⟩ := hXh.cell3
    have HXi := keep (hXh.three (.slice G1 fsh.N.length h1) (.slice G2 fsh.F.length h2) (.slice G3 fsh.O.length h3))
    have HTi := keep (hTh.grown hXh hgr (by decide) (by decide) (by decide) (by decide))
    have HBi := keep (below_three (bchain HB7.out hb7h) HZ5.out (.slice G1 fsh.N.length h1) (.slice G2 fsh.F.length h2) (.slice G3 fsh.O.length h3))
    have HIh := keep hIh
    have HPh := keep hPh
    have HOh : Hid (fsh.O.length ≤ 800) := keep (by rw [show fsh.O = [1] from congrArg PD.O hPh]; simp)
    obtain ⟨x0, x1, x2⟩ := HXi.out.cell3
    clear hTh hPh hIh hOh hbh hal hb7h hXh hgr f0 f1 f2
    generalize hwi : (((wh.setCell ⟨w5.heap.size, 0, none⟩ (.slice G1 fsh.N.length h1)).setCell ⟨w5.heap.size, 1, none⟩ (.slice G2 fsh.F.length h2)).setCell ⟨w5.heap.size, 2, none⟩ (.slice G3 fsh.O.length h3)) = wi at *
    obtain ⟨f0, f1, f2⟩ := HXi.out.cell3
    have kc := fun (w : World) (C : Array Value) (n c : Nat) => Lib.run_convert_bytes_const (P := Tryd.prog) w 22 5 C n c Tryd.underlying22 Tryd.underlying5
    go_wp2_with fail
    clear hwi
    obtain ⟨W8, hW8⟩ : ∃ W8, W8 = wi.alloc (Obj.cells #[Value.int .u8 122, Value.int .u8 10] 5 (2, 3)) := ⟨_, rfl⟩
    have hbA : Below wi.heap.size wi W8 := hW8 ▸ (Below.refl _ wi).alloc (Nat.le_refl _) _
    have hzA : W8.heap.size = wi.heap.size + 1 := by rw [hW8]; simp
    have hbr : BR W8 (.slice (some ⟨wi.heap.size, 0, none⟩) 2 2) [122, 10] := hW8 ▸ BR.lit wi [122, 10] _ _ _ rfl
    obtain ⟨L, hL⟩ : ∃ L : List Ch, L = [⟨7, nmB, nmO, .slice none 0 0, [], 0⟩, ⟨1, nmC, nmO, .slice (some ⟨wi.heap.size, 0, none⟩) 2 2, [122, 10], 0⟩] := ⟨_, rfl⟩
    have hok : ∀ c ∈ L, ChOk W8 c := by
      rw [hL]
      intro c hc
      simp only [List.mem_cons, List.not_mem_nil, or_false] at hc
      rcases hc with rfl | rfl
      · exact chOk_of (BR.nil _ _ _) (by decide)
      · exact chOk_of hbr (by decide)
    have hlit := ChsR.lit W8 L 37 (wi.heap.size + 1) hzA.symm hok
    have hbB : Below W8.heap.size W8 (W8.alloc (.cells (L.flatMap fun c => (chV c).toList).toArray 37)) := (Below.refl _ W8).alloc (Nat.le_refl _) _
    have hb8 := bchain hbA hbB
    have HB8 := keep (bchain HBi.out hb8)
    have HRUN := keep (run_any _ _ _ _ fsh L _ (HTi.out.up hb8) HIh.out HOh.out hlit (by rw [hL]; simp) (HG3.out.up HB8.out))
    have HX8 := keep (HXi.out.below hb8 HXi.out.lt)
    have HPL : Hid (L.map Ch.p = [⟨7, nmB, nmO, [], 0⟩, ⟨1, nmC, nmO, [122, 10], 0⟩]) := keep (by rw [hL]; rfl)
    have HLL : Hid (L.length = 2) := keep (by rw [hL]; rfl)
    have hLf : (L.flatMap fun c => (chV c).toList).toArray = #[Value.int .i64 7, .string ⟨#[98]⟩, .string ⟨#[]⟩, .slice none 0 0, .int .i64 0, .int .i64 1, .string ⟨#[99]⟩, .string ⟨#[]⟩, .slice (some ⟨wi.heap.size, 0, none⟩) 2 2, .int .i64 0] := by rw [hL]; rfl
    rw [← hW8, ← hLf, show (Value.slice (some ⟨wi.heap.size + 1, 0, none⟩) 2 2) = .slice (some ⟨wi.heap.size + 1, 0, none⟩) L.length L.length by rw [HLL.out]]
    clear hlit hbB hb8 hLf hok hbr hbA hzA hW8 hL kc f0 f1 f2
    refine HRUN.out.mono ?_
    rintro e w9 ⟨fs9, vN, vF, vO, vE, rfl, hT9, hP9, hI9, hO9, hE9, hb9⟩
    rw [HPh.out, HPL.out, ren_held lD] at hP9
    rw [HPh.out, HPL.out, ren_held lD, HLL.out] at hE9
    obtain ⟨C1, e1, rfl, _, _⟩ := hT9.n.form
    obtain ⟨C2, e2, rfl, _, _⟩ := hT9.f.form
    obtain ⟨C3, e3, rfl, _, _⟩ := hT9.o.form
    obtain ⟨E2, ce2, rfl, _, _⟩ := hE9.form
    have hX9 := HX8.out.below hb9 HX8.out.lt
    have hgr := grown_three w9 w5.heap.size (.slice C1 fs9.N.length e1) (.slice C2 fs9.F.length e2) (.slice C3 fs9.O.length e3)
    obtain ⟨eb, eo, rfl, _, hec⟩ := (hE9.tyGrown hgr (tyB.ne hX9 (by decide))).cells (by omega)
    have he0 := hec 0 _ rfl
    have he1 := hec 1 _ rfl
    rw [Nat.add_zero] at he0
    obtain ⟨p0, p1, p2⟩ := hX9.froz3
    obtain ⟨q0, q1, q2⟩ := hX9.cell3
    have HX10 := keep (hX9.three (.slice C1 fs9.N.length e1) (.slice C2 fs9.F.length e2) (.slice C3 fs9.O.length e3))
    have HT10 := keep (hT9.grown hX9 hgr (by decide) (by decide) (by decide) (by decide))
    have HB10 := keep (below_three (bchain HB8.out hb9) HZ5.out (.slice C1 fs9.N.length e1) (.slice C2 fs9.F.length e2) (.slice C3 fs9.O.length e3))
    have HI9 := keep hI9
    have hP9' : fs9.p = ⟨[⟨nmC, 2⟩], [⟨1, lD, false, true, 0⟩, ⟨2, [122, 10], false, true, 0⟩], [1]⟩ := hP9
    have HP9 := keep hP9'
    have HO9 : Hid (fs9.O.length ≤ 800) := keep (by rw [show fs9.O = [1] from congrArg PD.O hP9']; simp)
    have HF9 : Hid (fs9.F.length ≤ 800) := keep (by rw [← List.length_map (f := Fi.p), show fs9.F.map Fi.p = [⟨1, lD, false, true, 0⟩, ⟨2, [122, 10], false, true, 0⟩] from congrArg PD.F hP9']; simp)
    have HLV2 : Hid (lookP fs9.N nmC = some 2) := keep (by rw [show fs9.N = [⟨nmC, 2⟩] from congrArg PD.N hP9']; rfl)
    have HHV2 : Hid (hasP fs9.N nmC = true) := keep (by unfold hasP; rw [HLV2.out]; rfl)
    obtain ⟨x0, x1, x2⟩ := HX10.out.cell3
    clear hec hgr hX9 hE9 hT9 hP9 hP9' hI9 hO9 hb9 HRUN HX8 HPL HLL HB8
    go_wp2_with fail
    generalize (((w9.setCell ⟨w5.heap.size, 0, none⟩ (.slice C1 fs9.N.length e1)).setCell ⟨w5.heap.size, 1, none⟩ (.slice C2 fs9.F.length e2)).setCell ⟨w5.heap.size, 2, none⟩ (.slice C3 fs9.O.length e3)) = w10 at *
    refine (lookup_any _ _ _ fs9 nmC _ HT10.out HI9.out).mono ?_
    rintro e w11 ⟨rfl, hb11⟩
    rw [HLV2.out, HHV2.out]
    have HT11 := keep (HT10.out.up hb11)
    have HB11 := keep (bchain HB10.out hb11)
    have HX11 := keep (HX10.out.below hb11 HX10.out.lt)
    clear hb11 HT10 HB10 HX10 he0 he1 x0 x1 x2 p0 p1 p2 q0 q1 q2
    obtain ⟨f0, f1, f2⟩ := HX11.out.cell3
    go_wp2_with fail
    refine (read_any _ _ _ fs9 1 _ HT11.out HI9.out HO9.out).mono ?_
    rintro e w12 ⟨dv, rfl, hdv, hb12⟩
    rw [HP9.out, ren_read2 lD] at hdv ⊢
    have hd2 : Sl w12 (u8B w12) 1 dv lD.length (bys lD) := hdv
    obtain ⟨A12, c12, rfl, _, _⟩ := hd2.form
    have hal : Below w12.heap.size w12 (w12.alloc (.cells #[.int .i64 1, .slice A12 lD.length c12, .bool false, .bool true, .int .i64 0] 45)) := (Below.refl _ w12).alloc (Nat.le_refl _) _
    have HT13 := keep ((HT11.out.up hb12).up hal)
    have HB13 := keep (bchain (bchain HB11.out hb12) hal)
    have HD13 := keep (Sl.upW (hd2.mono fun _ hb => hb.lt_) hal)
    have HX13 := keep ((HX11.out.below hb12 HX11.out.lt).below hal (HX11.out.below hb12 HX11.out.lt).lt)
    have HY13 := keep (Blk.new w12 45 #[.int .i64 1, .slice A12 lD.length c12, .bool false, .bool true, .int .i64 0])
    have HZ13 : Hid (w12.heap.size < (w12.alloc (.cells #[.int .i64 1, .slice A12 lD.length c12, .bool false, .bool true, .int .i64 0] 45)).heap.size) := keep (by simp)
    obtain ⟨g0, g1, g2⟩ := (HX11.out.below hb12 HX11.out.lt).cell3
    clear hal hb12 hdv hd2 f0 f1 f2
    have hlt5 : w5.heap.size < w12.heap.size := World.block_lt_of_cell? w12 _ g0
    simp only [fileV, Option.getD_some, Option.isSome_some]
    go_wp2_with fail
    refine (hold_any _ _ _ _ fs9 [] _ HT13.out HI9.out HO9.out (Sl.nil _ _ _ _ _) (by simp)).mono ?_
    rintro e w15 ⟨fs15, vN, vF, vO, rfl, hT15, hP15, hI15, hO15, hb15⟩
    rw [HP9.out, ren_left lD] at hP15
    have hO15' : fs15.O.length ≤ 800 := Nat.le_trans hO15 HF9.out
    refine' _
    obtain ⟨G1, h1, rfl, _, _⟩ := hT15.n.form
    obtain ⟨G2, h2, rfl, _, _⟩ := hT15.f.form
    obtain ⟨G3, h3, rfl, _, _⟩ := hT15.o.form
    have HRD := keep (read_any _ _ _ fs15 1 _ hT15 hI15 hO15')
    have HD15 := keep (Sl.upW HD13.out hb15)
    have HB15 := keep (bchain HB13.out hb15)
    have HY15 := keep (HY13.out.below hb15 HZ13.out)
    have HP15 := keep hP15
    clear hT15 hP15 hI15 hO15 hO15' hb15 g0 g1 g2
    go_wp2_with fail
    refine HRD.out.mono ?_
    rintro e w16 ⟨dv, rfl, hdv, hb16⟩
    rw [HP15.out, ren_none] at hdv ⊢
    have hd4 : Sl w16 (u8B w16) 1 dv 0 (bys []) := hdv
    obtain ⟨A16, c16, rfl, _, _⟩ := hd4.form
    have hal : Below w16.heap.size w16 (w16.alloc (.cells #[.int .i64 0, .slice A16 0 c16, .bool false, .bool false, .int .i64 0] 45)) := (Below.refl _ w16).alloc (Nat.le_refl _) _
    have hB17 := bchain (bchain HB15.out hb16) hal
    have hsb : BSl (w16.alloc (.cells #[.int .i64 0, .slice A16 0 c16, .bool false, .bool false, .int .i64 0] 45)) (lt (w16.alloc (.cells #[.int .i64 0, .slice A16 0 c16, .bool false, .bool false, .int .i64 0] 45)).heap.size) (.slice A12 lD.length c12) lD := Sl.upW (Sl.upW HD15.out hb16) hal
    have hsd : BSl (w16.alloc (.cells #[.int .i64 0, .slice A16 0 c16, .bool false, .bool false, .int .i64 0] 45)) (lt (w16.alloc (.cells #[.int .i64 0, .slice A16 0 c16, .bool false, .bool false, .int .i64 0] 45)).heap.size) (.slice AD lD.length cD) lD := HDB.out.up hB17
    have hcv := run_stringB hsb Tryd.underlying22 Tryd.underlying5 Tryd.underlying9
    have hcd := run_stringB hsd Tryd.underlying22 Tryd.underlying5 Tryd.underlying9
    have hy := (HY15.out.below hb16 HY15.out.lt)
    have y1 : w16.cell? ⟨w12.heap.size, 1, none⟩ = some (.slice A12 lD.length c12) := (hy.cell 1).trans rfl
    have hlt16 : w12.heap.size < w16.heap.size := World.block_lt_of_cell? w16 _ y1
    have HB17 := keep hB17
    clear hsb hsd hal hb16 hdv hd4 hB17 hy
    simp only [fileV, zeroF, Option.getD_none, Option.isSome_none]
    go_wp2_with fail
    go_ret
    exact ⟨rfl, bchain HBW.out HB17.out⟩
end Go.Proofs.YtldopkdjoejhbaaDoor
