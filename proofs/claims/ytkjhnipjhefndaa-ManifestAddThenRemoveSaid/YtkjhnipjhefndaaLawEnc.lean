/- ManifestEncode's function returns true at every input of bounded bulk. -/
import Derived.Test.YtkjhnipjhefndaaLawCheck
import Derived.Test.YtkjhnipjhefndaaRefEnc
import Derived.Test.YtkjhnipjhefndaaBulk
namespace Go.Proofs.Ytkjhnipjhefndaa
open Go.RowKit

theorem uvar_len : ∀ (k n : Nat), n < 128 ^ (k + 1) → (uvar n).length ≤ k + 1
  | 0, n, h => by rw [uvar_small (by simpa using h)]; simp
  | k + 1, n, h => by
    by_cases hn : n < 128
    · rw [uvar_small hn]; simp
    · rw [uvar_big hn, List.length_cons]
      have := uvar_len k (n / 128) ((Nat.div_lt_iff_lt_mul (by omega)).2 (by rwa [Nat.pow_succ] at h))
      omega
theorem uvar_len10 {n : Nat} (h : n < 18446744073709551616) : (uvar n).length ≤ 10 := uvar_len 9 n (Nat.lt_trans h (by decide))
theorem encI_len (xs : List Int) : (encI xs).length ≤ 10 * xs.length := by
  induction xs with
  | nil => simp [encI]
  | cons x xs ih =>
    have := uvar_len10 (zz_lt x)
    simp only [encI, List.flatMap_cons, List.length_append, List.length_cons] at ih ⊢
    omega
theorem flat_le {α : Type} (f : α → List UInt8) (l : List α) (n : Nat) (h : ∀ x ∈ l, (f x).length ≤ n) : (l.flatMap f).length ≤ l.length * n := by
  induction l with
  | nil => simp
  | cons x l ih =>
    have h1 := h x (by simp)
    have h2 := ih (fun y hy => h y (by simp [hy]))
    rw [List.flatMap_cons, List.length_append, List.length_cons, Nat.succ_mul]
    omega
theorem encT_len (l : List Tl) (n : Nat) (hn : n ≤ 1048576) (h : ∀ x ∈ l, x.rule.size ≤ n) : (encT l).length ≤ 10 + l.length * 1048606 := by
  have h1 := uvar_len10 (zz_lt (l.length : Int))
  have h2 := flat_le encT1 l 1048606 (fun x hx => by
    have a := uvar_len10 (zz_lt x.host)
    have b := uvar_len10 (zz_lt x.lines)
    have d := h x hx
    have c := uvar_len10 (n := x.rule.size) (by omega)
    unfold encT1
    simp only [List.length_append, Array.length_toList, ByteArray.size_data]
    omega)
  unfold encT
  rw [List.length_append]
  omega
structure SmallE (m : Man) : Prop where
  s : m.segs.length ≤ 1000
  m_ : m.marks.length ≤ 1000
  t : m.tals.length ≤ 1000
  e : m.exps.length ≤ 1000
  tb : ∀ x ∈ m.tals, x.rule.size ≤ 1048576
  eb : ∀ x ∈ m.exps, x.rule.size ≤ 1048576
theorem SmallE.small {m : Man} (h : SmallE m) : Small m := ⟨by have := h.s; omega, by have := h.m_; omega, by have := h.t; omega, by have := h.e; omega⟩
theorem SmallE.len {m : Man} (h : SmallE m) : (encM m).length + 4 ≤ 140737488355328 := by
  have h1 := encI_len [m.nu, m.nx, m.jo, (m.segs.length : Int)]
  have h2 := flat_le encS m.segs 70 (fun x _ => by have := encI_len [x.id, x.level, x.tier, x.count, x.lo, x.hi, x.size]; exact this)
  have h3 := encI_len [(m.marks.length : Int)]
  have h4 := flat_le encK m.marks 30 (fun x _ => by have := encI_len [x.host, x.file, x.off]; exact this)
  have h5 := encT_len m.tals 1048576 (Nat.le_refl _) h.tb
  have h6 := encT_len m.exps 1048576 (Nat.le_refl _) h.eb
  have a := h.s
  have b := h.m_
  have c := h.t
  have d := h.e
  simp only [encM, en5, en4, en3, en2, en1, List.length_append, List.length_cons, List.length_nil] at h1 h3 ⊢
  have : magicB.length = 4 := rfl
  have e1 : m.segs.length * 70 ≤ 1000 * 70 := Nat.mul_le_mul_right _ a
  have e2 : m.marks.length * 30 ≤ 1000 * 30 := Nat.mul_le_mul_right _ b
  have e3 : m.tals.length * 1048606 ≤ 1000 * 1048606 := Nat.mul_le_mul_right _ c
  have e4 : m.exps.length * 1048606 ≤ 1000 * 1048606 := Nat.mul_le_mul_right _ d
  omega
theorem Good.smallE {m : Man} (h : Good m) : SmallE m :=
  ⟨by have := h.sl; omega, by have := h.ml; omega, by have := h.tl; omega, by have := h.el; omega, fun x hx => by have := (h.tk x hx).r; omega, fun x hx => by have := (h.ek x hx).r; omega⟩
theorem fine_smallE {m : Man} (h : fineB m = true) (hb : ManB m 1048576) : SmallE m := by
  simp only [fineB, Bool.and_eq_true, decide_eq_true_eq] at h
  exact ⟨by omega, by omega, by omega, by omega, hb.t, hb.e⟩
abbrev C7 (w : World) (g : Nat) (x0 x1 x2 x3 x4 x5 x6 : Value) : Prop := w.cell? ⟨g, 0, none⟩ = some x0 ∧ w.cell? ⟨g, 1, none⟩ = some x1 ∧ w.cell? ⟨g, 2, none⟩ = some x2 ∧ w.cell? ⟨g, 3, none⟩ = some x3 ∧ w.cell? ⟨g, 4, none⟩ = some x4 ∧ w.cell? ⟨g, 5, none⟩ = some x5 ∧ w.cell? ⟨g, 6, none⟩ = some x6
theorem cell_alloc {w : World} {a : Addr} {v : Value} (o : Obj) (h : w.cell? a = some v) : (w.alloc o).cell? a = some v :=
  (((Below.refl w.heap.size w).alloc (Nat.le_refl _) o).cell (World.block_lt_of_cell? w _ h)).trans h
theorem C7.alloc {w : World} {g : Nat} {x0 x1 x2 x3 x4 x5 x6 : Value} (h : C7 w g x0 x1 x2 x3 x4 x5 x6) (o : Obj) : C7 (w.alloc o) g x0 x1 x2 x3 x4 x5 x6 :=
  ⟨cell_alloc o h.1, cell_alloc o h.2.1, cell_alloc o h.2.2.1, cell_alloc o h.2.2.2.1, cell_alloc o h.2.2.2.2.1, cell_alloc o h.2.2.2.2.2.1, cell_alloc o h.2.2.2.2.2.2⟩
/-- A manifest at the place k of a row of manifests. -/
structure At7 (w : World) (g k : Nat) (S : Nat → Prop) (z : Man) (zS zM zT zE : Value) : Prop where
  c0 : w.cell? ⟨g, k * 7, none⟩ = some (.int .i64 z.nu)
  c1 : w.cell? ⟨g, k * 7 + 1, none⟩ = some (.int .i64 z.nx)
  c2 : w.cell? ⟨g, k * 7 + 2, none⟩ = some (.int .i64 z.jo)
  c3 : w.cell? ⟨g, k * 7 + 3, none⟩ = some zS
  c4 : w.cell? ⟨g, k * 7 + 4, none⟩ = some zM
  c5 : w.cell? ⟨g, k * 7 + 5, none⟩ = some zT
  c6 : w.cell? ⟨g, k * 7 + 6, none⟩ = some zE
  l : Lies w S z zS zM zT zE
  s : SmallE z
theorem At7.below {w w' : World} {B g k : Nat} {z : Man} {zS zM zT zE : Value} (h : At7 w g k (lt B) z zS zM zT zE) (hb : Below B w w') (hg : g < B) : At7 w' g k (lt B) z zS zM zT zE :=
  ⟨(hb.cell (p := ⟨g, k * 7, none⟩) hg).trans h.c0, (hb.cell (p := ⟨g, k * 7 + 1, none⟩) hg).trans h.c1, (hb.cell (p := ⟨g, k * 7 + 2, none⟩) hg).trans h.c2, (hb.cell (p := ⟨g, k * 7 + 3, none⟩) hg).trans h.c3, (hb.cell (p := ⟨g, k * 7 + 4, none⟩) hg).trans h.c4,
    (hb.cell (p := ⟨g, k * 7 + 5, none⟩) hg).trans h.c5, (hb.cell (p := ⟨g, k * 7 + 6, none⟩) hg).trans h.c6, ⟨h.l.s.below hb (Nat.le_refl _), h.l.m_.below hb (Nat.le_refl _), h.l.t.below hb (Nat.le_refl _), h.l.e.below hb (Nat.le_refl _)⟩, h.s⟩
abbrev three (m x y : Man) (aS aM aT aE xS xM xT xE yS yM yT yE : Value) : Array Value :=
  #[.int .i64 m.nu, .int .i64 m.nx, .int .i64 m.jo, aS, aM, aT, aE, .int .i64 x.nu, .int .i64 x.nx, .int .i64 x.jo, xS, xM, xT, xE, .int .i64 y.nu, .int .i64 y.nx, .int .i64 y.jo, yS, yM, yT, yE]
theorem three_at {w : World} {g : Nat} {S : Nat → Prop} {m x y : Man} {aS aM aT aE xS xM xT xE yS yM yT yE : Value} (hB : Blk w g 28 (three m x y aS aM aT aE xS xM xT xE yS yM yT yE))
    (lm : Lies w S m aS aM aT aE) (lx : Lies w S x xS xM xT xE) (ly : Lies w S y yS yM yT yE) (sm : SmallE m) (sx : SmallE x) (sy : SmallE y) (k : Nat) (hk : k < 3) : ∃ z zS zM zT zE, At7 w g k S z zS zM zT zE := by
  obtain rfl | rfl | rfl : k = 0 ∨ k = 1 ∨ k = 2 := by omega
  · exact ⟨m, aS, aM, aT, aE, by rw [hB.cell]; rfl, by rw [hB.cell]; rfl, by rw [hB.cell]; rfl, by rw [hB.cell]; rfl, by rw [hB.cell]; rfl, by rw [hB.cell]; rfl, by rw [hB.cell]; rfl, lm, sm⟩
  · exact ⟨x, xS, xM, xT, xE, by rw [hB.cell]; rfl, by rw [hB.cell]; rfl, by rw [hB.cell]; rfl, by rw [hB.cell]; rfl, by rw [hB.cell]; rfl, by rw [hB.cell]; rfl, by rw [hB.cell]; rfl, lx, sx⟩
  · exact ⟨y, yS, yM, yT, yE, by rw [hB.cell]; rfl, by rw [hB.cell]; rfl, by rw [hB.cell]; rfl, by rw [hB.cell]; rfl, by rw [hB.cell]; rfl, by rw [hB.cell]; rfl, by rw [hB.cell]; rfl, ly, sy⟩

set_option maxHeartbeats 4000000 in
set_option maxRecDepth 100000 in
theorem law_encode (m : Man) (vS vM vT vE v : Value) (bs : List Int) (w : World) (hL : Lies w (lt w.heap.size) m vS vM vT vE) (hmb : ManB m 1048576) (hv : Sl w (lt w.heap.size) 1 v bs.length (bs.map (.int .u8))) (hr : ∀ x ∈ bs, 0 ≤ x ∧ x ≤ 255) (hm : bs.length ≤ maxLen) :
    Calls Try.prog 4 #[.agg (manCells m vS vM vT vE), v] w fun e w' => e = .returned (.bool true) ∧ Below w.heap.size w w' := by
  obtain ⟨AS, cS, rfl, _, _⟩ := hL.s.form
  obtain ⟨AM, cM, rfl, _, _⟩ := hL.m_.form
  obtain ⟨AT, cT, rfl, _, _⟩ := hL.t.form
  obtain ⟨AE, cE, rfl, _, _⟩ := hL.e.form
  obtain ⟨Av, cv, rfl, _, hv⟩ := hv.form
  obtain ⟨W, hW⟩ : ∃ W, W = w.alloc (.cells (manCells m (.slice AS m.segs.length cS) (.slice AM m.marks.length cM) (.slice AT m.tals.length cT) (.slice AE m.exps.length cE)) 28) := ⟨_, rfl⟩
  have hbW : Below w.heap.size w W := by rw [hW]; exact (Below.refl _ _).alloc (Nat.le_refl _) _
  obtain ⟨g, hg⟩ : ∃ g, g = w.heap.size := ⟨_, rfl⟩
  have hBg : Blk W g 28 (manCells m (.slice AS m.segs.length cS) (.slice AM m.marks.length cM) (.slice AT m.tals.length cT) (.slice AE m.exps.length cE)) := by rw [hW, hg]; exact Blk.new _ _ _
  obtain ⟨q, hq⟩ : ∃ q, fineB m = q := ⟨_, rfl⟩
  have HQ := keep hq
  have HG := keep hg
  clear hq
  go_enter Try.func4, Try.ntmps4
  go_upto_region 1 with fail
  rw [← hW, ← hg]
  clear hW hg
  have hlg := hBg.lt
  obtain ⟨a0, a1, a2, a3, a4, a5, a6⟩ := hBg.cell7
  go_wp2_with fail
  refine (awake_any _).mono ?_
  rintro e w1 ⟨rfl, hb1⟩
  have hB1 := hBg.below hb1 hlg
  have hl1 := hB1.lt
  obtain ⟨b0, b1, b2, b3, b4, b5, b6⟩ := hB1.cell7
  go_wp2_with fail
  refine (fine_any m _ _ _ _ _ _ _ _ _).mono ?_
  rw [HQ.out]
  rintro e w2 ⟨rfl, hb2⟩
  have hB2 := hB1.below hb2 hl1
  have hl2 := hB2.lt
  have hbw2 := bchain (bchain hbW hb1) hb2
  obtain ⟨c0, c1, c2, c3, c4, c5, c6⟩ := hB2.cell7
  clear hb1 hb2 hB1 hBg hbW a0 a1 a2 a3 a4 a5 a6 b0 b1 b2 b3 b4 b5 b6
  cases q with
  | false =>
    go_wp2_with fail
    refine (fine_any m _ _ _ _ _ _ _ _ _).mono ?_
    rw [HQ.out]
    rintro e w3 ⟨rfl, hb3⟩
    go_wp2_with fail
    go_ret
    exact ⟨rfl, bchain hbw2 hb3⟩
  | true =>
    have HSM := keep (fine_smallE HQ.out hmb)
    have hL2 := hL.below hbw2
    have hv2 := (hv.below hbw2 (Nat.le_refl _)).more hbw2.size
    have hL2' : Lies w2 (lt w.heap.size) m (.slice AS m.segs.length cS) (.slice AM m.marks.length cM) (.slice AT m.tals.length cT) (.slice AE m.exps.length cE) :=
      ⟨hL.s.below hbw2 (Nat.le_refl _), hL.m_.below hbw2 (Nat.le_refl _), hL.t.below hbw2 (Nat.le_refl _), hL.e.below hbw2 (Nat.le_refl _)⟩
    have hz2 := hbw2.size
    clear hL hv hL2
    go_wp2_with fail
    refine (drawNew _ bs 200 _ hv2 hr (by omega) hm).mono ?_
    rintro e w3 ⟨gc, rfl, hgc, hC3, hb3⟩
    have hB3 := hB2.below hb3 hl2
    have hbw3 := bchain hbw2 hb3
    have hL3 : Lies w3 (lt w.heap.size) m (.slice AS m.segs.length cS) (.slice AM m.marks.length cM) (.slice AT m.tals.length cT) (.slice AE m.exps.length cE) :=
      ⟨hL2'.s.below hb3 hz2, hL2'.m_.below hb3 hz2, hL2'.t.below hb3 hz2, hL2'.e.below hb3 hz2⟩
    have hz3 := hb3.size
    have hgg : g < gc := by omega
    have hwg : w.heap.size ≤ gc := by omega
    clear hB2 hL2' hv2 hbw2 c0 c1 c2 c3 c4 c5 c6 hb3
    go_wp2_with fail
    refine (drawManifest gc _ hC3).mono ?_
    rintro e w4 ⟨x, xS, xM, xT, xE, rfl, hLx, hGx, hC4, hg4⟩
    have hgcl := hC3.lt_
    have hB4 := hB3.grown hg4 (fun e => by injection e; omega)
    have hbw4 := below_grown hbw3 hg4 hbw3.size hwg
    have hL4 := hL3.kept hg4 (fun b hb => ⟨by have : b < w.heap.size := hb; omega, fun e => by injection e with e; have : b < w.heap.size := hb; omega⟩)
    have hz4 := hg4.size
    have HSX := keep hGx.smallE
    have hxl := hGx.sl
    have hxm := hGx.ml
    have hxt := hGx.tl
    have hxe := hGx.el
    have hlx4 : Lies w4 (fun b => b < w4.heap.size ∧ b ≠ gc) x xS xM xT xE := hLx.mono (fun b hb => ⟨hb.2, by have := hb.1; omega⟩)
    clear hGx hLx hB3 hbw3 hL3 hg4 hC3
    obtain ⟨XS, dS, rfl, _, _⟩ := hlx4.s.form
    obtain ⟨XM, dM, rfl, _, _⟩ := hlx4.m_.form
    obtain ⟨XT, dT, rfl, _, _⟩ := hlx4.t.form
    obtain ⟨XE, dE, rfl, _, _⟩ := hlx4.e.form
    go_upto_region 5 with fail
    obtain ⟨W5, hW5⟩ : ∃ W5, W5 = w4.alloc (.cells (manCells x (.slice XS x.segs.length dS) (.slice XM x.marks.length dM) (.slice XT x.tals.length dT) (.slice XE x.exps.length dE)) 28) := ⟨_, rfl⟩
    obtain ⟨g6, hg6⟩ : ∃ g6, g6 = w4.heap.size := ⟨_, rfl⟩
    rw [← hW5, ← hg6]
    have hga : w4.grownBy W5 (some gc) := by rw [hW5]; exact World.grownBy_alloc _ _ _
    have hC5 : Codes W5 gc := by rw [hW5]; exact hC4.alloc _
    have hB5 := hB4.grown hga (fun e => by injection e; omega)
    have hX5 : Blk W5 g6 28 (manCells x (.slice XS x.segs.length dS) (.slice XM x.marks.length dM) (.slice XT x.tals.length dT) (.slice XE x.exps.length dE)) := by rw [hW5, hg6]; exact Blk.new _ _ _
    have hL5 := hL4.kept hga (fun b hb => ⟨by have : b < w.heap.size := hb; omega, fun e => by injection e with e; have : b < w.heap.size := hb; omega⟩)
    have hlx5 := hlx4.kept hga (fun b hb => ⟨hb.1, fun e => by injection e with e; exact hb.2 e⟩)
    have hbw5 := below_grown hbw4 hga hbw4.size hwg
    have hz5 := hga.size
    have hg6c : gc < g6 := by omega
    have hly5 : Lies W5 (But W5 gc) x (.slice XS x.segs.length dS) (.slice XM x.marks.length dM) (.slice XT x.tals.length dT) (.slice XE x.exps.length dE) := hlx5.mono (fun b hb => ⟨Nat.lt_of_lt_of_le hb.1 hz5, hb.2⟩)
    clear hW5 hg6 hB4 hL4 hlx4 hbw4 hga hC4 hlx5
    have HA := keep hB5.cell7
    have HXc := keep hX5.cell7
    have hgB := hB5.lt
    have hgX := hX5.lt
    have hdC : Codes W5.drew gc := hC5
    have hdL : Lies W5.drew (But W5.drew gc) x (.slice XS x.segs.length dS) (.slice XM x.marks.length dM) (.slice XT x.tals.length dT) (.slice XE x.exps.length dE) := ⟨hly5.s, hly5.m_, hly5.t, hly5.e⟩
    have s0 : Hid (C7 W5.drew g (.int .i64 m.nu) (.int .i64 m.nx) (.int .i64 m.jo) (.slice AS m.segs.length cS) (.slice AM m.marks.length cM) (.slice AT m.tals.length cT) (.slice AE m.exps.length cE) ∧
        C7 W5.drew g6 (.int .i64 x.nu) (.int .i64 x.nx) (.int .i64 x.jo) (.slice XS x.segs.length dS) (.slice XM x.marks.length dM) (.slice XT x.tals.length dT) (.slice XE x.exps.length dE)) := ⟨hB5.cell7, hX5.cell7⟩
    have hAf : Hid (∀ w6, W5.drew.grownBy w6 (some gc) → C7 w6 g (.int .i64 m.nu) (.int .i64 m.nx) (.int .i64 m.jo) (.slice AS m.segs.length cS) (.slice AM m.marks.length cM) (.slice AT m.tals.length cT) (.slice AE m.exps.length cE) ∧
        C7 w6 g6 (.int .i64 x.nu) (.int .i64 x.nx) (.int .i64 x.jo) (.slice XS x.segs.length dS) (.slice XM x.marks.length dM) (.slice XT x.tals.length dT) (.slice XE x.exps.length dE)) := fun w6 hg => by
      have h1 : Blk W5.drew g 28 _ := hB5
      have h2 : Blk W5.drew g6 28 _ := hX5
      exact ⟨(h1.grown hg (fun e => by injection e; omega)).cell7, (h2.grown hg (fun e => by injection e; omega)).cell7⟩
    have n1 : Hid (x.segs.length ≤ 1000) := keep (by omega)
    have n2 : Hid (x.marks.length ≤ 1000) := keep (by omega)
    have n3 : Hid (x.tals.length ≤ 1000) := keep (by omega)
    have n4 : Hid (x.exps.length ≤ 1000) := keep (by omega)
    have HXS : Hid (x.marks.length ≤ 900 ∧ x.exps.length ≤ 900) := keep ⟨by omega, by omega⟩
    clear hxl hxm hxt hxe
    go_region_held3 (fun w' : World => C7 w' g (.int .i64 m.nu) (.int .i64 m.nx) (.int .i64 m.jo) (.slice AS m.segs.length cS) (.slice AM m.marks.length cM) (.slice AT m.tals.length cT) (.slice AE m.exps.length cE) ∧
        C7 w' g6 (.int .i64 x.nu) (.int .i64 x.nx) (.int .i64 x.jo) (.slice XS x.segs.length dS) (.slice XM x.marks.length dM) (.slice XT x.tals.length dT) (.slice XE x.exps.length dE)) (first | exact s0.out | exact s1.out | exact ⟨C7.alloc s1.out.1 _, C7.alloc s1.out.2 _⟩ | fail)
      (first
        | (go_at_call 14; (with_reducible refine (wrong_law gc x _ _ _ _ _ hdC hdL n1.out n2.out n3.out n4.out).mono ?_); rintro e w6 ⟨y, yS, yM, yT, yE, rfl, hLy, y1, y2, y3, y4, hC6, hg6⟩; have HY := keep (And.intro y1 (And.intro y2 (And.intro y3 y4))); clear y1 y2 y3 y4; have s1 := keep (hAf.out _ hg6); obtain ⟨YS, fS, rfl, _, _⟩ := hLy.s.form; obtain ⟨YM, fM, rfl, _, _⟩ := hLy.m_.form; obtain ⟨YT, fT, rfl, _, _⟩ := hLy.t.form; obtain ⟨YE, fE, rfl, _, _⟩ := hLy.e.form)
        | fail)
    have hSY : SmallE y := by
      obtain ⟨y1, y2, y3, y4, y5⟩ := HY.out
      have hx := HSX.out
      have e1 := n1.out
      have e2 := n2.out
      have e3 := n3.out
      have e4 := n4.out
      refine ⟨by omega, ?_, by rw [y3]; omega, ?_, by rw [y3]; exact hx.tb, fun t ht => ?_⟩
      · have := HXS.out.1; omega
      · have := HXS.out.2; omega
      · rcases y5 t ht with h | h
        · exact hx.eb t h
        · have := h.r; omega
    obtain ⟨W7, hW7⟩ : ∃ W7, W7 = w6.alloc (.cells (three m x y (.slice AS m.segs.length cS) (.slice AM m.marks.length cM) (.slice AT m.tals.length cT) (.slice AE m.exps.length cE) (.slice XS x.segs.length dS) (.slice XM x.marks.length dM) (.slice XT x.tals.length dT) (.slice XE x.exps.length dE) (.slice YS y.segs.length fS) (.slice YM y.marks.length fM) (.slice YT y.tals.length fT) (.slice YE y.exps.length fE)) 28) := ⟨_, rfl⟩
    obtain ⟨g7, hg7⟩ : ∃ g7, g7 = w6.heap.size := ⟨_, rfl⟩
    rw [← hW7, ← hg7]
    have hB7 : Blk W7 g7 28 (three m x y (.slice AS m.segs.length cS) (.slice AM m.marks.length cM) (.slice AT m.tals.length cT) (.slice AE m.exps.length cE) (.slice XS x.segs.length dS) (.slice XM x.marks.length dM) (.slice XT x.tals.length dT) (.slice XE x.exps.length dE) (.slice YS y.segs.length fS) (.slice YM y.marks.length fM) (.slice YT y.tals.length fT) (.slice YE y.exps.length fE)) := by rw [hW7, hg7]; exact Blk.new _ _ _
    have hb67 : Below w6.heap.size w6 W7 := by rw [hW7]; exact (Below.refl _ _).alloc (Nat.le_refl _) _
    have hg56 : W5.grownBy w6 (some gc) := ⟨hg6.os, hg6.tape, hg6.output, hg6.size, hg6.block⟩
    have hbw6 := below_grown hbw5 hg56 hbw5.size hwg
    have hbf := bchain hbw6 hb67
    have hL6 := hL5.kept hg56 (fun b hb => ⟨by have : b < w.heap.size := hb; have := hbw5.size; omega, fun e => by injection e with e; have : b < w.heap.size := hb; omega⟩)
    have hlx6 := hly5.kept hg56 (fun b hb => ⟨hb.1, fun e => by injection e with e; exact hb.2 e⟩)
    have hz56 := hg56.size
    have hLm7 : Lies W7 (lt W7.heap.size) m (.slice AS m.segs.length cS) (.slice AM m.marks.length cM) (.slice AT m.tals.length cT) (.slice AE m.exps.length cE) := (hL6.mono (fun b hb => by have h1 : b < w.heap.size := hb; have := hbw6.size; show b < w6.heap.size; omega) : Lies w6 (lt w6.heap.size) m _ _ _ _).below hb67
    have hLx7 : Lies W7 (lt W7.heap.size) x (.slice XS x.segs.length dS) (.slice XM x.marks.length dM) (.slice XT x.tals.length dT) (.slice XE x.exps.length dE) := (hlx6.mono (fun b hb => by show b < w6.heap.size; have := hb.1; omega) : Lies w6 (lt w6.heap.size) x _ _ _ _).below hb67
    have hLy7 : Lies W7 (lt W7.heap.size) y (.slice YS y.segs.length fS) (.slice YM y.marks.length fM) (.slice YT y.tals.length fT) (.slice YE y.exps.length fE) := (hLy.mono (fun b hb => hb.1) : Lies w6 (lt w6.heap.size) y _ _ _ _).below hb67
    have hAt := keep (three_at hB7 hLm7 hLx7 hLy7 HSM.out HSX.out hSY)
    have hg7l := hB7.lt
    clear hW7 hg7 hB7 hb67 hg56 hbw6 hL6 hlx6 hz56 hLm7 hLx7 hLy7 hSY hLy hC6 hg6 s1 hAf s0 hdL hdC hB5 hX5 hL5 hly5 hbw5 HA HXc hgB hgX HY
    go_wp2_with fail
    go_loopw [8, 9, 10, 11, 12, 34] (fun _ _ _ _ _ i wr => ∃ k : Nat, k ≤ 3 ∧ i = .int .i64 k ∧ Below W7.heap.size W7 wr) (fun _ _ _ _ _ i _ => 3 - (intOf i).toNat)
    case atStart => exact ⟨0, by omega, rfl, Below.refl _ _⟩
    case round =>
      obtain ⟨k, hk, rfl, hbr⟩ := hrel
      obtain ⟨wo, rfl⟩ : ∃ wo : World, wo = wr := ⟨_, rfl⟩
      by_cases hlt : k < 3
      · obtain ⟨z, zS, zM, zT, zE, hz⟩ := hAt.out k hlt
        have hz' := hz.below hbr hg7l
        obtain ⟨ZS, bS, rfl, _, _⟩ := hz'.l.s.form
        obtain ⟨ZM, bM, rfl, _, _⟩ := hz'.l.m_.form
        obtain ⟨ZT, bT, rfl, _, _⟩ := hz'.l.t.form
        obtain ⟨ZE, bE, rfl, _, _⟩ := hz'.l.e.form
        have c0 := hz'.c0
        have c1 := hz'.c1
        have c2 := hz'.c2
        have c3 := hz'.c3
        have c4 := hz'.c4
        have c5 := hz'.c5
        have c6 := hz'.c6
        have hSz := keep hz'.s
        have hLz : Lies wo (lt W7.heap.size) z (.slice ZS z.segs.length bS) (.slice ZM z.marks.length bM) (.slice ZT z.tals.length bT) (.slice ZE z.exps.length bE) := hz'.l
        have hszo := hbr.size
        have hgo : g7 < wo.heap.size := by omega
        have i1 : (k : Int) < 3 := by omega
        clear hz hz'
        go_upto_region 8 with fail
        obtain ⟨W8, hW8⟩ : ∃ W8, W8 = wo.alloc (.cells (manCells z (.slice ZS z.segs.length bS) (.slice ZM z.marks.length bM) (.slice ZT z.tals.length bT) (.slice ZE z.exps.length bE)) 28) := ⟨_, rfl⟩
        obtain ⟨g8, hg8⟩ : ∃ g8, g8 = wo.heap.size := ⟨_, rfl⟩
        rw [← hW8, ← hg8]
        have hB8 : Blk W8 g8 28 (manCells z (.slice ZS z.segs.length bS) (.slice ZM z.marks.length bM) (.slice ZT z.tals.length bT) (.slice ZE z.exps.length bE)) := by rw [hW8, hg8]; exact Blk.new _ _ _
        have hb8 : Below wo.heap.size wo W8 := by rw [hW8]; exact (Below.refl _ _).alloc (Nat.le_refl _) _
        have hLz8 : Lies W8 (lt W8.heap.size) z (.slice ZS z.segs.length bS) (.slice ZM z.marks.length bM) (.slice ZT z.tals.length bT) (.slice ZE z.exps.length bE) := (hLz.mono (fun b hb => Nat.lt_of_lt_of_le hb hszo) : Lies wo (lt wo.heap.size) z _ _ _ _).below hb8
        have hbr8 := bchain hbr hb8
        clear hW8 hg8 hb8 hLz hbr c0 c1 c2 c3 c4 c5 c6
        have hlg8 := hB8.lt
        obtain ⟨c0, c1, c2, c3, c4, c5, c6⟩ := hB8.cell7
        go_wp2_with fail
        refine (encode_any z _ _ _ _ W8 hLz8 hSz.out.small hSz.out.len).mono ?_
        rintro e w9 ⟨v9, rfl, ho9, hb9⟩
        have hB9 := hB8.below hb9 hlg8
        have hLz9 := hLz8.below hb9
        have hbr9 := bchain hbr8 hb9
        clear c0 c1 c2 c3 c4 c5 c6 hB8 hLz8 hbr8 hb9
        obtain ⟨c0, c1, c2, c3, c4, c5, c6⟩ := hB9.cell7
        obtain ⟨r, hr'⟩ : ∃ r, manErr z = r := ⟨_, rfl⟩
        have HRR := keep hr'
        rw [hr']
        clear hr'
        go_wp2_with fail
        refine (refEncode_any z _ _ _ _ w9 hLz9 hSz.out.small hSz.out.len).mono ?_
        rintro e w10 ⟨v10, rfl, ho10, hb10⟩
        rw [HRR.out]
        have hbr10 := bchain hbr9 hb10
        have ho9' := (ho9.below hb10).slt
        have ho10' := ho10.slt
        have hlE := keep ho10.len
        have hne : (r != r) = false := by simp
        clear c0 c1 c2 c3 c4 c5 c6 hB9 hLz9 hbr9 hb10 ho9 ho10
        go_wp2_with fail
        refine (sameBytes_any v9 v10 (encOut z) (encOut z) _ _ w10 ho9' ho10' hlE.out hlE.out).mono ?_
        rintro e w11 ⟨rfl, hb11⟩
        have hT : decide (encOut z = encOut z) = true := by simp
        rw [hT]
        have hbr11 := bchain hbr10 hb11
        clear hb11 hbr10
        go_wp2_with fail
        go_roundw
        case rel => exact ⟨k + 1, by omega, by go_num, hbr11⟩
        case measure => simp [intOf]; omega
      · go_wp2_with fail
        go_ret
        exact ⟨rfl, bchain hbf hbr⟩
end Go.Proofs.Ytkjhnipjhefndaa
