/- logtidemake: Int, Change, SpoilChange: what is made is left open but for its bounds. Printed by wip/gen/change.py. logtidemake: SpoilChange. Printed by wip/gen/spoil.py. -/
import Derived.Test.YtgegmefnbkcdkaaFsRun
import Derived.Test.YtgegmefnbkcdkaaMakeData
import Derived.Test.YtgegmefnbkcdkaaRegs
namespace Go.Proofs.Ytgegmefnbkcdkaa
open Go.RowKit
/-- A change; its bytes lie in blocks of bytes. -/
structure ChG (w : World) (c : Ch) : Prop where
  r : Sl w (u8B w) 1 c.dv c.data.length (bys c.data)
  d : c.data.length ≤ 1000000
  n : c.n ≤ 9223372036854775807
  s : c.name.size ≤ 9223372036854775807
  t : c.dst.size ≤ 9223372036854775807
theorem ChG.ok {w : World} {c : Ch} (h : ChG w c) : ChOk w c := ⟨h.r.mono fun _ hb => hb.lt_, h.d, h.n, h.s, h.t⟩
theorem ChG.kept {w w' : World} {row : Option Nat} {c : Ch} (h : ChG w c) (hg : w.grownBy w' row) (hr : ∀ b, u8B w b → some b ≠ row) : ChG w' c :=
  ⟨by
    obtain ⟨hl, A, c, hv, hc, hrr⟩ := h.r
    refine ⟨hl, A, c, hv, hc, fun hn => ?_⟩
    obtain ⟨b, o, hA, hb, hrow⟩ := hrr hn
    exact ⟨b, o, hA, hb.grown hg (hr b hb), hrow.keep fun p hp => World.cell?_of_block (hg.block p.block (hp ▸ hb.lt_) (hp ▸ hr b hb))⟩, h.d, h.n, h.s, h.t⟩
theorem ChG.grown {w w' : World} {gc : Nat} {c : Ch} (h : ChG w c) (hC : Codes w gc) (hg : w.grownBy w' (some gc)) : ChG w' c := by
  obtain ⟨_, _, _, _, _, hb, _⟩ := hC
  exact h.kept hg (noU8 hb (by decide))
theorem ChG.up {w w' : World} {c : Ch} (h : ChG w c) (hb : Below w.heap.size w w') : ChG w' c := h.kept (grownBy_of_below hb none) (by simp)
theorem OwnB.u8 {w : World} {base : Nat} {v : Value} {l : List UInt8} (h : OwnB w base v l) : Sl w (u8B w) 1 v l.length (bys l) := by
  have hs := h.sl
  rcases h with ⟨rfl, rfl⟩ | ⟨g, cap, cur, f, rfl, hb, hg, _⟩
  · exact Sl.nil _ _ _ _ _
  · obtain ⟨hl, A, c, hv, hc, hrr⟩ := hs
    refine ⟨hl, A, c, hv, hc, fun hn => ?_⟩
    obtain ⟨b, o, hA, hb', hrow⟩ := hrr hn
    injection hv with h1 _ _
    have h2 := h1.trans hA
    injection h2 with h2
    injection h2 with e1 e2 _
    exact ⟨b, o, hA, e1 ▸ ⟨cur, f, hg⟩, hrow⟩
theorem ChG.of_own {w : World} {base : Nat} {c : Ch} (h : OwnB w base c.dv c.data) (hd : c.data.length ≤ 1000000) (hn : c.n ≤ 9223372036854775807) (hs : c.name.size ≤ 9223372036854775807) (ht : c.dst.size ≤ 9223372036854775807) : ChG w c :=
  ⟨h.u8, hd, hn, hs, ht⟩
/-- A box of a change. -/
def Fv (w : World) (g : Nat) : Prop := ∃ a0 a1 a2 a3 a4 : Value, Blk w g 46 #[a0, a1, a2, a3, a4]
theorem Fv.five {w : World} {g g' : Nat} {a0 a1 a2 a3 a4 : Value} (h : Fv w g') (hb : Blk w g 46 #[a0, a1, a2, a3, a4]) (b0 b1 b2 b3 b4 : Value) :
    Fv (((((w.setCell ⟨g, 0, none⟩ b0).setCell ⟨g, 1, none⟩ b1).setCell ⟨g, 2, none⟩ b2).setCell ⟨g, 3, none⟩ b3).setCell ⟨g, 4, none⟩ b4) g' := by
  by_cases e : g' = g
  · subst e; exact ⟨_, _, _, _, _, hb.five b0 b1 b2 b3 b4⟩
  · obtain ⟨c0, c1, c2, c3, c4, h⟩ := h
    exact ⟨c0, c1, c2, c3, c4, ((((h.far e _).far e _).far e _).far e _).far e _⟩
def fr51 (x : Nat → Value) : Array Value := #[x 0, x 1, x 2, x 3, x 4, x 5, x 6, x 7, x 8, x 9, x 10, x 11, x 12, x 13, x 14, x 15, x 16, x 17, x 18, x 19, x 20, x 21, x 22, x 23, x 24, x 25, x 26, x 27, x 28, x 29, x 30, x 31, x 32, x 33, x 34, x 35, x 36, x 37, x 38, x 39, x 40, x 41, x 42, x 43, x 44, x 45, x 46, x 47, x 48, x 49, x 50]
def ChgRes (w : World) (gc : Nat) (e : Ending) (w' : World) : Prop := ∃ c : Ch, e = .returned (.agg (chV c)) ∧ ChG w' c ∧ Codes w' gc ∧ w.grownBy w' (some gc)
set_option maxHeartbeats 8000000 in
set_option maxRecDepth 100000 in
theorem makeChange (gc : Nat) (number : Int) (w : World) (h : Codes w gc) : Calls Try.prog 18 #[.pointer (some ⟨gc, 0, none⟩), .int .i64 number] w (ChgRes w gc) := by
  have hl := h.lt_
  obtain ⟨W, hW⟩ : ∃ W, W = (w.alloc (.cells #[.int .i64 0, .string ⟨#[]⟩, .string ⟨#[]⟩, .slice none 0 0, .int .i64 0] 46)).alloc (.cells #[.string ⟨#[97, 112, 112]⟩, .string ⟨#[97, 112, 112, 46, 49]⟩, .string ⟨#[97, 112, 112, 46, 50]⟩, .string ⟨#[111, 116, 104, 101, 114]⟩, .string ⟨#[97, 112, 112, 46, 99]⟩] 9) := ⟨_, rfl⟩
  have hb : Below w.heap.size w W := hW ▸ ((Below.refl _ w).alloc (Nat.le_refl _) _).alloc (by simp) _
  have hZ : Blk W w.heap.size 46 #[.int .i64 0, .string ⟨#[]⟩, .string ⟨#[]⟩, .slice none 0 0, .int .i64 0] := hW ▸ ((Blk.new w _ _).alloc _)
  have hN : Blk W (w.heap.size + 1) 9 #[.string ⟨#[97, 112, 112]⟩, .string ⟨#[97, 112, 112, 46, 49]⟩, .string ⟨#[97, 112, 112, 46, 50]⟩, .string ⟨#[111, 116, 104, 101, 114]⟩, .string ⟨#[97, 112, 112, 46, 99]⟩] := hW ▸ Blk.new_at (by simp)
  have hWS : W.heap.size = w.heap.size + 1 + 1 := by rw [hW]; simp
  have hall5 : ((List.range 5).all fun i => shortStr (#[.string ⟨#[97, 112, 112]⟩, .string ⟨#[97, 112, 112, 46, 49]⟩, .string ⟨#[97, 112, 112, 46, 50]⟩, .string ⟨#[111, 116, 104, 101, 114]⟩, .string ⟨#[97, 112, 112, 46, 99]⟩])[i]?) = true := by rfl
  have hgc : gc < W.heap.size := by omega
  have HC := keep (h.under hb hl)
  have HB := keep hb
  have HZ := keep hZ
  have HN := keep hN
  have HWS := keep hWS
  clear h hb hZ hN hWS
  go_enter Try.func18, Try.ntmps18
  go_upto_region 2 with fail
  rw [← hW]
  clear hW
  go_cut [6] (fun s6 wd => ∃ (g : Nat) (k : Int) (s1 s2 : ByteArray) (n : Int), s6 = .pointer (some ⟨g, 0, none⟩) ∧ Hid (W.heap.size ≤ g) ∧ Hid (Blk wd g 46 #[.int .i64 k, .string s1, .string s2, .slice none 0 0, .int .i64 n]) ∧ 1 ≤ k ∧ k ≤ 8 ∧ Hid (s1.size ≤ 36) ∧ Hid (s2.size ≤ 36) ∧ Hid (1 ≤ n) ∧ Hid (n ≤ 89) ∧ Hid (Codes wd gc) ∧ Hid (W.grownBy wd (some gc)))
  case first =>
    refine reg_start 51 fr51 (fun _ => rfl) _ rfl fun x0 hx0 => ?_
    have y0 : x0 0 = .pointer (some ⟨gc, 0, none⟩) := hx0 0
    have y5 : x0 5 = .slice (some ⟨w.heap.size + 1, 0, none⟩) 5 5 := hx0 5
    refine wp_regU (by kernel_rfl) 51 (fun i => if i = 19 then 18 else i) (by kernel_rfl) fr51 (fun _ => rfl) x0 (fun wa => Codes wa gc ∧ W.grownBy wa (some gc)) (fun i a b => if i = 19 then (∀ g, Fv a g → Fv b g) else a.grownBy b (some gc)) (fun i v u wa => match i with
        | 0 => v = .pointer (some ⟨gc, 0, none⟩)
        | 1 => ∃ r : Int, v = .int .i64 r ∧ 0 ≤ r ∧ r < 8
        | 2 => ∃ r : Int, v = .int .i64 r ∧ 1 ≤ r ∧ r ≤ 8
        | 3 => v = .slice (some ⟨w.heap.size + 1, 0, none⟩) 5 5
        | 4 => v = .pointer (some ⟨gc, 0, none⟩)
        | 5 => ∃ k : Nat, v = .int .i64 (k : Int) ∧ k < 5
        | 6 => ∃ k : Nat, v = .pointer (some ⟨w.heap.size + 1, k, none⟩) ∧ k < 5
        | 7 => ∃ s : ByteArray, v = .string s ∧ s.size ≤ 36
        | 8 => v = .slice (some ⟨w.heap.size + 1, 0, none⟩) 5 5
        | 9 => v = .pointer (some ⟨gc, 0, none⟩)
        | 10 => ∃ k : Nat, v = .int .i64 (k : Int) ∧ k < 5
        | 11 => ∃ k : Nat, v = .pointer (some ⟨w.heap.size + 1, k, none⟩) ∧ k < 5
        | 12 => ∃ s : ByteArray, v = .string s ∧ s.size ≤ 36
        | 13 => v = .pointer (some ⟨gc, 0, none⟩)
        | 14 => ∃ r : Int, v = .int .i64 r ∧ 0 ≤ r ∧ r < 12
        | 15 => ∃ r : Int, v = .int .i64 r ∧ 0 ≤ r ∧ r ≤ 88
        | 16 => ∃ r : Int, v = .int .i64 r ∧ 1 ≤ r ∧ r ≤ 89
        | 17 => ∃ (k : Int) (s1 s2 : ByteArray) (n : Int), v = .agg #[.int .i64 k, .string s1, .string s2, .slice none 0 0, .int .i64 n] ∧ 1 ≤ k ∧ k ≤ 8 ∧ s1.size ≤ 36 ∧ s2.size ≤ 36 ∧ 1 ≤ n ∧ n ≤ 89
        | 18 => ∃ g : Nat, v = .pointer (some ⟨g, 0, none⟩) ∧ W.heap.size ≤ g ∧ Fv wa g
        | 19 => ∃ (g : Nat) (k : Int) (s1 s2 : ByteArray) (n : Int), u = .pointer (some ⟨g, 0, none⟩) ∧ W.heap.size ≤ g ∧ Blk wa g 46 #[.int .i64 k, .string s1, .string s2, .slice none 0 0, .int .i64 n] ∧ 1 ≤ k ∧ k ≤ 8 ∧ s1.size ≤ 36 ∧ s2.size ≤ 36 ∧ 1 ≤ n ∧ n ≤ 89
        | _ => True) (by
          intro i j v u wa wb hne hmn hp
          match j, hp with
          | 18, hp =>
            obtain ⟨g, h1, h2, h3⟩ := hp
            refine ⟨g, h1, h2, ?_⟩
            by_cases h19 : i = 19
            · rw [if_pos h19] at hmn
              exact hmn g h3
            · rw [if_neg h19] at hmn
              obtain ⟨a0, a1, a2, a3, a4, h3⟩ := h3
              exact ⟨a0, a1, a2, a3, a4, h3.grown hmn (fun e => by injection e; omega)⟩
          | 19, hp =>
            rw [if_neg hne] at hmn
            obtain ⟨g, k, s1, s2, n, h1, h2, h3, h4⟩ := hp
            exact ⟨g, k, s1, s2, n, h1, h2, h3.grown hmn (fun e => by injection e; omega), h4⟩
          | 0, hp => exact hp
          | 1, hp => exact hp
          | 2, hp => exact hp
          | 3, hp => exact hp
          | 4, hp => exact hp
          | 5, hp => exact hp
          | 6, hp => exact hp
          | 7, hp => exact hp
          | 8, hp => exact hp
          | 9, hp => exact hp
          | 10, hp => exact hp
          | 11, hp => exact hp
          | 12, hp => exact hp
          | 13, hp => exact hp
          | 14, hp => exact hp
          | 15, hp => exact hp
          | 16, hp => exact hp
          | 17, hp => exact hp
          | _ + 20, hp => trivial) (⟨HC.out.drewN 1, grownBy_drewN (World.grownBy.refl _ _) 1⟩) ?step ?skip ?done
    case step =>
      intro i o ho x wa K hW hout hdep hgd hK
      have E0 : Hid (x 0 = .pointer (some ⟨gc, 0, none⟩)) := keep ((hout 0 (by decide)).trans y0)
      have E5 : Hid (x 5 = .slice (some ⟨w.heap.size + 1, 0, none⟩) 5 5) := keep ((hout 5 (by decide)).trans y5)
      clear hout hx0 y0 y5
      have hi : i < 20 := (Array.getElem?_eq_some_iff.1 ho).1
      have hcase : i = 0 ∨ i = 1 ∨ i = 2 ∨ i = 3 ∨ i = 4 ∨ i = 5 ∨ i = 6 ∨ i = 7 ∨ i = 8 ∨ i = 9 ∨ i = 10 ∨ i = 11 ∨ i = 12 ∨ i = 13 ∨ i = 14 ∨ i = 15 ∨ i = 16 ∨ i = 17 ∨ i = 18 ∨ i = 19 := by omega
      clear hi
      rcases hcase with rfl | rfl | rfl | rfl | rfl | rfl | rfl | rfl | rfl | rfl | rfl | rfl | rfl | rfl | rfl | rfl | rfl | rfl | rfl | rfl
      · -- operation 0
        simp only [List.getElem?_toArray, List.getElem?_cons_zero, Option.some.injEq] at ho
        subst ho
        clear hdep hgd
        unfold fr51
        rw [E0.out]
        go_simp
        have hk : K { tmps := #[x 0, x 1, x 2, x 3, x 4, x 5, x 6, x 7, .pointer (some ⟨gc, 0, none⟩), x 9, x 10, x 11, x 12, x 13, x 14, x 15, x 16, x 17, x 18, x 19, x 20, x 21, x 22, x 23, x 24, x 25, x 26, x 27, x 28, x 29, x 30, x 31, x 32, x 33, x 34, x 35, x 36, x 37, x 38, x 39, x 40, x 41, x 42, x 43, x 44, x 45, x 46, x 47, x 48, x 49, x 50], defers := [] } wa := hK _ _ hW (by rw [if_neg (by decide)]; exact World.grownBy.refl _ _) rfl
        rw [E0.out] at hk
        exact hk
      · -- operation 1
        simp only [List.getElem?_toArray, List.getElem?_cons_succ, List.getElem?_cons_zero, Option.some.injEq] at ho
        subst ho
        have p0 : (x 8) = .pointer (some ⟨gc, 0, none⟩) := hdep 0 (List.mem_of_elem_eq_true (by kernel_rfl))
        clear hdep hgd
        unfold fr51
        rw [p0]
        go_simp
        refine (drawNext gc 8 _ hW.1 (by omega) (by omega)).mono ?_
        rintro e w5 ⟨r, rfl, r0, r1, _, hC5, hg5⟩
        have r2 := r1 (by omega)
        have hk : K { tmps := #[x 0, x 1, x 2, x 3, x 4, x 5, x 6, x 7, x 8, .int .i64 r, x 10, x 11, x 12, x 13, x 14, x 15, x 16, x 17, x 18, x 19, x 20, x 21, x 22, x 23, x 24, x 25, x 26, x 27, x 28, x 29, x 30, x 31, x 32, x 33, x 34, x 35, x 36, x 37, x 38, x 39, x 40, x 41, x 42, x 43, x 44, x 45, x 46, x 47, x 48, x 49, x 50], defers := [] } w5 := hK _ _ ⟨hC5, grownBy_trans hW.2 hg5⟩ (by rw [if_neg (by decide)]; exact hg5) ⟨r, rfl, r0, r2⟩
        rw [p0] at hk
        exact hk
      · -- operation 2
        simp only [List.getElem?_toArray, List.getElem?_cons_succ, List.getElem?_cons_zero, Option.some.injEq] at ho
        subst ho
        have p1 : ∃ r : Int, (x 9) = .int .i64 r ∧ 0 ≤ r ∧ r < 8 := hdep 1 (List.mem_of_elem_eq_true (by kernel_rfl))
        clear hdep hgd
        obtain ⟨r, hv, h0, h1⟩ := p1
        have hw : IntKind.i64.wrap (1 + r) = 1 + r := IntWalk.i64_in _ (by omega)
        unfold fr51
        rw [hv]
        go_simp
        have hk : K { tmps := #[x 0, x 1, x 2, x 3, x 4, x 5, x 6, x 7, x 8, x 9, .int .i64 (1 + r), x 11, x 12, x 13, x 14, x 15, x 16, x 17, x 18, x 19, x 20, x 21, x 22, x 23, x 24, x 25, x 26, x 27, x 28, x 29, x 30, x 31, x 32, x 33, x 34, x 35, x 36, x 37, x 38, x 39, x 40, x 41, x 42, x 43, x 44, x 45, x 46, x 47, x 48, x 49, x 50], defers := [] } wa := hK _ _ hW (by rw [if_neg (by decide)]; exact World.grownBy.refl _ _) ⟨1 + r, rfl, by omega, by omega⟩
        rw [hv] at hk
        exact hk
      · -- operation 3
        simp only [List.getElem?_toArray, List.getElem?_cons_succ, List.getElem?_cons_zero, Option.some.injEq] at ho
        subst ho
        clear hdep hgd
        unfold fr51
        rw [E5.out]
        go_simp
        have hk : K { tmps := #[x 0, x 1, x 2, x 3, x 4, x 5, x 6, x 7, x 8, x 9, x 10, .slice (some ⟨w.heap.size + 1, 0, none⟩) 5 5, x 12, x 13, x 14, x 15, x 16, x 17, x 18, x 19, x 20, x 21, x 22, x 23, x 24, x 25, x 26, x 27, x 28, x 29, x 30, x 31, x 32, x 33, x 34, x 35, x 36, x 37, x 38, x 39, x 40, x 41, x 42, x 43, x 44, x 45, x 46, x 47, x 48, x 49, x 50], defers := [] } wa := hK _ _ hW (by rw [if_neg (by decide)]; exact World.grownBy.refl _ _) rfl
        rw [E5.out] at hk
        exact hk
      · -- operation 4
        simp only [List.getElem?_toArray, List.getElem?_cons_succ, List.getElem?_cons_zero, Option.some.injEq] at ho
        subst ho
        clear hdep hgd
        unfold fr51
        rw [E0.out]
        go_simp
        have hk : K { tmps := #[x 0, x 1, x 2, x 3, x 4, x 5, x 6, x 7, x 8, x 9, x 10, x 11, .pointer (some ⟨gc, 0, none⟩), x 13, x 14, x 15, x 16, x 17, x 18, x 19, x 20, x 21, x 22, x 23, x 24, x 25, x 26, x 27, x 28, x 29, x 30, x 31, x 32, x 33, x 34, x 35, x 36, x 37, x 38, x 39, x 40, x 41, x 42, x 43, x 44, x 45, x 46, x 47, x 48, x 49, x 50], defers := [] } wa := hK _ _ hW (by rw [if_neg (by decide)]; exact World.grownBy.refl _ _) rfl
        rw [E0.out] at hk
        exact hk
      · -- operation 5
        simp only [List.getElem?_toArray, List.getElem?_cons_succ, List.getElem?_cons_zero, Option.some.injEq] at ho
        subst ho
        have p4 : (x 12) = .pointer (some ⟨gc, 0, none⟩) := hdep 4 (List.mem_of_elem_eq_true (by kernel_rfl))
        clear hdep hgd
        unfold fr51
        rw [p4]
        go_simp
        refine (drawNext gc 5 _ hW.1 (by omega) (by omega)).mono ?_
        rintro e w5 ⟨r, rfl, r0, r1, _, hC5, hg5⟩
        have r2 := r1 (by omega)
        obtain ⟨k, rfl⟩ := Int.eq_ofNat_of_zero_le r0
        have hk : K { tmps := #[x 0, x 1, x 2, x 3, x 4, x 5, x 6, x 7, x 8, x 9, x 10, x 11, x 12, .int .i64 (k : Int), x 14, x 15, x 16, x 17, x 18, x 19, x 20, x 21, x 22, x 23, x 24, x 25, x 26, x 27, x 28, x 29, x 30, x 31, x 32, x 33, x 34, x 35, x 36, x 37, x 38, x 39, x 40, x 41, x 42, x 43, x 44, x 45, x 46, x 47, x 48, x 49, x 50], defers := [] } w5 := hK _ _ ⟨hC5, grownBy_trans hW.2 hg5⟩ (by rw [if_neg (by decide)]; exact hg5) ⟨k, rfl, by omega⟩
        rw [p4] at hk
        exact hk
      · -- operation 6
        simp only [List.getElem?_toArray, List.getElem?_cons_succ, List.getElem?_cons_zero, Option.some.injEq] at ho
        subst ho
        have p3 : (x 11) = .slice (some ⟨w.heap.size + 1, 0, none⟩) 5 5 := hdep 3 (List.mem_of_elem_eq_true (by kernel_rfl))
        have p5 : ∃ k : Nat, (x 13) = .int .i64 (k : Int) ∧ k < 5 := hdep 5 (List.mem_of_elem_eq_true (by kernel_rfl))
        clear hdep hgd
        obtain ⟨k, hv, h5⟩ := p5
        have h6 : (k : Int) < 5 := by omega
        unfold fr51
        rw [p3, hv]
        go_simp
        have hk : K { tmps := #[x 0, x 1, x 2, x 3, x 4, x 5, x 6, x 7, x 8, x 9, x 10, x 11, x 12, x 13, .pointer (some ⟨w.heap.size + 1, k, none⟩), x 15, x 16, x 17, x 18, x 19, x 20, x 21, x 22, x 23, x 24, x 25, x 26, x 27, x 28, x 29, x 30, x 31, x 32, x 33, x 34, x 35, x 36, x 37, x 38, x 39, x 40, x 41, x 42, x 43, x 44, x 45, x 46, x 47, x 48, x 49, x 50], defers := [] } wa := hK _ _ hW (by rw [if_neg (by decide)]; exact World.grownBy.refl _ _) ⟨k, rfl, h5⟩
        rw [p3, hv] at hk
        exact hk
      · -- operation 7
        simp only [List.getElem?_toArray, List.getElem?_cons_succ, List.getElem?_cons_zero, Option.some.injEq] at ho
        subst ho
        have p6 : ∃ k : Nat, (x 14) = .pointer (some ⟨w.heap.size + 1, k, none⟩) ∧ k < 5 := hdep 6 (List.mem_of_elem_eq_true (by kernel_rfl))
        clear hdep hgd
        obtain ⟨k, hv, h5⟩ := p6
        obtain ⟨s, hs, hsl⟩ := shortStr_get (List.all_eq_true.1 hall5 k (by simpa using h5))
        have hc := ((HN.out.grown hW.2 (fun e => by injection e; omega)).cell k).trans hs
        clear hs
        unfold fr51
        rw [hv]
        go_simp
        have hk : K { tmps := #[x 0, x 1, x 2, x 3, x 4, x 5, x 6, x 7, x 8, x 9, x 10, x 11, x 12, x 13, x 14, .string s, x 16, x 17, x 18, x 19, x 20, x 21, x 22, x 23, x 24, x 25, x 26, x 27, x 28, x 29, x 30, x 31, x 32, x 33, x 34, x 35, x 36, x 37, x 38, x 39, x 40, x 41, x 42, x 43, x 44, x 45, x 46, x 47, x 48, x 49, x 50], defers := [] } wa := hK _ _ hW (by rw [if_neg (by decide)]; exact World.grownBy.refl _ _) ⟨s, rfl, hsl⟩
        rw [hv] at hk
        exact hk
      · -- operation 8
        simp only [List.getElem?_toArray, List.getElem?_cons_succ, List.getElem?_cons_zero, Option.some.injEq] at ho
        subst ho
        clear hdep hgd
        unfold fr51
        rw [E5.out]
        go_simp
        have hk : K { tmps := #[x 0, x 1, x 2, x 3, x 4, x 5, x 6, x 7, x 8, x 9, x 10, x 11, x 12, x 13, x 14, x 15, .slice (some ⟨w.heap.size + 1, 0, none⟩) 5 5, x 17, x 18, x 19, x 20, x 21, x 22, x 23, x 24, x 25, x 26, x 27, x 28, x 29, x 30, x 31, x 32, x 33, x 34, x 35, x 36, x 37, x 38, x 39, x 40, x 41, x 42, x 43, x 44, x 45, x 46, x 47, x 48, x 49, x 50], defers := [] } wa := hK _ _ hW (by rw [if_neg (by decide)]; exact World.grownBy.refl _ _) rfl
        rw [E5.out] at hk
        exact hk
      · -- operation 9
        simp only [List.getElem?_toArray, List.getElem?_cons_succ, List.getElem?_cons_zero, Option.some.injEq] at ho
        subst ho
        clear hdep hgd
        unfold fr51
        rw [E0.out]
        go_simp
        have hk : K { tmps := #[x 0, x 1, x 2, x 3, x 4, x 5, x 6, x 7, x 8, x 9, x 10, x 11, x 12, x 13, x 14, x 15, x 16, .pointer (some ⟨gc, 0, none⟩), x 18, x 19, x 20, x 21, x 22, x 23, x 24, x 25, x 26, x 27, x 28, x 29, x 30, x 31, x 32, x 33, x 34, x 35, x 36, x 37, x 38, x 39, x 40, x 41, x 42, x 43, x 44, x 45, x 46, x 47, x 48, x 49, x 50], defers := [] } wa := hK _ _ hW (by rw [if_neg (by decide)]; exact World.grownBy.refl _ _) rfl
        rw [E0.out] at hk
        exact hk
      · -- operation 10
        simp only [List.getElem?_toArray, List.getElem?_cons_succ, List.getElem?_cons_zero, Option.some.injEq] at ho
        subst ho
        have p9 : (x 17) = .pointer (some ⟨gc, 0, none⟩) := hdep 9 (List.mem_of_elem_eq_true (by kernel_rfl))
        clear hdep hgd
        unfold fr51
        rw [p9]
        go_simp
        refine (drawNext gc 5 _ hW.1 (by omega) (by omega)).mono ?_
        rintro e w5 ⟨r, rfl, r0, r1, _, hC5, hg5⟩
        have r2 := r1 (by omega)
        obtain ⟨k, rfl⟩ := Int.eq_ofNat_of_zero_le r0
        have hk : K { tmps := #[x 0, x 1, x 2, x 3, x 4, x 5, x 6, x 7, x 8, x 9, x 10, x 11, x 12, x 13, x 14, x 15, x 16, x 17, .int .i64 (k : Int), x 19, x 20, x 21, x 22, x 23, x 24, x 25, x 26, x 27, x 28, x 29, x 30, x 31, x 32, x 33, x 34, x 35, x 36, x 37, x 38, x 39, x 40, x 41, x 42, x 43, x 44, x 45, x 46, x 47, x 48, x 49, x 50], defers := [] } w5 := hK _ _ ⟨hC5, grownBy_trans hW.2 hg5⟩ (by rw [if_neg (by decide)]; exact hg5) ⟨k, rfl, by omega⟩
        rw [p9] at hk
        exact hk
      · -- operation 11
        simp only [List.getElem?_toArray, List.getElem?_cons_succ, List.getElem?_cons_zero, Option.some.injEq] at ho
        subst ho
        have p8 : (x 16) = .slice (some ⟨w.heap.size + 1, 0, none⟩) 5 5 := hdep 8 (List.mem_of_elem_eq_true (by kernel_rfl))
        have p10 : ∃ k : Nat, (x 18) = .int .i64 (k : Int) ∧ k < 5 := hdep 10 (List.mem_of_elem_eq_true (by kernel_rfl))
        clear hdep hgd
        obtain ⟨k, hv, h5⟩ := p10
        have h6 : (k : Int) < 5 := by omega
        unfold fr51
        rw [p8, hv]
        go_simp
        have hk : K { tmps := #[x 0, x 1, x 2, x 3, x 4, x 5, x 6, x 7, x 8, x 9, x 10, x 11, x 12, x 13, x 14, x 15, x 16, x 17, x 18, .pointer (some ⟨w.heap.size + 1, k, none⟩), x 20, x 21, x 22, x 23, x 24, x 25, x 26, x 27, x 28, x 29, x 30, x 31, x 32, x 33, x 34, x 35, x 36, x 37, x 38, x 39, x 40, x 41, x 42, x 43, x 44, x 45, x 46, x 47, x 48, x 49, x 50], defers := [] } wa := hK _ _ hW (by rw [if_neg (by decide)]; exact World.grownBy.refl _ _) ⟨k, rfl, h5⟩
        rw [p8, hv] at hk
        exact hk
      · -- operation 12
        simp only [List.getElem?_toArray, List.getElem?_cons_succ, List.getElem?_cons_zero, Option.some.injEq] at ho
        subst ho
        have p11 : ∃ k : Nat, (x 19) = .pointer (some ⟨w.heap.size + 1, k, none⟩) ∧ k < 5 := hdep 11 (List.mem_of_elem_eq_true (by kernel_rfl))
        clear hdep hgd
        obtain ⟨k, hv, h5⟩ := p11
        obtain ⟨s, hs, hsl⟩ := shortStr_get (List.all_eq_true.1 hall5 k (by simpa using h5))
        have hc := ((HN.out.grown hW.2 (fun e => by injection e; omega)).cell k).trans hs
        clear hs
        unfold fr51
        rw [hv]
        go_simp
        have hk : K { tmps := #[x 0, x 1, x 2, x 3, x 4, x 5, x 6, x 7, x 8, x 9, x 10, x 11, x 12, x 13, x 14, x 15, x 16, x 17, x 18, x 19, .string s, x 21, x 22, x 23, x 24, x 25, x 26, x 27, x 28, x 29, x 30, x 31, x 32, x 33, x 34, x 35, x 36, x 37, x 38, x 39, x 40, x 41, x 42, x 43, x 44, x 45, x 46, x 47, x 48, x 49, x 50], defers := [] } wa := hK _ _ hW (by rw [if_neg (by decide)]; exact World.grownBy.refl _ _) ⟨s, rfl, hsl⟩
        rw [hv] at hk
        exact hk
      · -- operation 13
        simp only [List.getElem?_toArray, List.getElem?_cons_succ, List.getElem?_cons_zero, Option.some.injEq] at ho
        subst ho
        clear hdep hgd
        unfold fr51
        rw [E0.out]
        go_simp
        have hk : K { tmps := #[x 0, x 1, x 2, x 3, x 4, x 5, x 6, x 7, x 8, x 9, x 10, x 11, x 12, x 13, x 14, x 15, x 16, x 17, x 18, x 19, x 20, .pointer (some ⟨gc, 0, none⟩), x 22, x 23, x 24, x 25, x 26, x 27, x 28, x 29, x 30, x 31, x 32, x 33, x 34, x 35, x 36, x 37, x 38, x 39, x 40, x 41, x 42, x 43, x 44, x 45, x 46, x 47, x 48, x 49, x 50], defers := [] } wa := hK _ _ hW (by rw [if_neg (by decide)]; exact World.grownBy.refl _ _) rfl
        rw [E0.out] at hk
        exact hk
      · -- operation 14
        simp only [List.getElem?_toArray, List.getElem?_cons_succ, List.getElem?_cons_zero, Option.some.injEq] at ho
        subst ho
        have p13 : (x 21) = .pointer (some ⟨gc, 0, none⟩) := hdep 13 (List.mem_of_elem_eq_true (by kernel_rfl))
        clear hdep hgd
        unfold fr51
        rw [p13]
        go_simp
        refine (drawNext gc 12 _ hW.1 (by omega) (by omega)).mono ?_
        rintro e w5 ⟨r, rfl, r0, r1, _, hC5, hg5⟩
        have r2 := r1 (by omega)
        have hk : K { tmps := #[x 0, x 1, x 2, x 3, x 4, x 5, x 6, x 7, x 8, x 9, x 10, x 11, x 12, x 13, x 14, x 15, x 16, x 17, x 18, x 19, x 20, x 21, .int .i64 r, x 23, x 24, x 25, x 26, x 27, x 28, x 29, x 30, x 31, x 32, x 33, x 34, x 35, x 36, x 37, x 38, x 39, x 40, x 41, x 42, x 43, x 44, x 45, x 46, x 47, x 48, x 49, x 50], defers := [] } w5 := hK _ _ ⟨hC5, grownBy_trans hW.2 hg5⟩ (by rw [if_neg (by decide)]; exact hg5) ⟨r, rfl, r0, r2⟩
        rw [p13] at hk
        exact hk
      · -- operation 15
        simp only [List.getElem?_toArray, List.getElem?_cons_succ, List.getElem?_cons_zero, Option.some.injEq] at ho
        subst ho
        have p14 : ∃ r : Int, (x 22) = .int .i64 r ∧ 0 ≤ r ∧ r < 12 := hdep 14 (List.mem_of_elem_eq_true (by kernel_rfl))
        clear hdep hgd
        obtain ⟨r, hv, h0, h1⟩ := p14
        have hw : IntKind.i64.wrap (8 * r) = 8 * r := IntWalk.i64_in _ (by omega)
        unfold fr51
        rw [hv]
        go_simp
        have hk : K { tmps := #[x 0, x 1, x 2, x 3, x 4, x 5, x 6, x 7, x 8, x 9, x 10, x 11, x 12, x 13, x 14, x 15, x 16, x 17, x 18, x 19, x 20, x 21, x 22, .int .i64 (8 * r), x 24, x 25, x 26, x 27, x 28, x 29, x 30, x 31, x 32, x 33, x 34, x 35, x 36, x 37, x 38, x 39, x 40, x 41, x 42, x 43, x 44, x 45, x 46, x 47, x 48, x 49, x 50], defers := [] } wa := hK _ _ hW (by rw [if_neg (by decide)]; exact World.grownBy.refl _ _) ⟨8 * r, rfl, by omega, by omega⟩
        rw [hv] at hk
        exact hk
      · -- operation 16
        simp only [List.getElem?_toArray, List.getElem?_cons_succ, List.getElem?_cons_zero, Option.some.injEq] at ho
        subst ho
        have p15 : ∃ r : Int, (x 23) = .int .i64 r ∧ 0 ≤ r ∧ r ≤ 88 := hdep 15 (List.mem_of_elem_eq_true (by kernel_rfl))
        clear hdep hgd
        obtain ⟨r, hv, h0, h1⟩ := p15
        have hw : IntKind.i64.wrap (1 + r) = 1 + r := IntWalk.i64_in _ (by omega)
        unfold fr51
        rw [hv]
        go_simp
        have hk : K { tmps := #[x 0, x 1, x 2, x 3, x 4, x 5, x 6, x 7, x 8, x 9, x 10, x 11, x 12, x 13, x 14, x 15, x 16, x 17, x 18, x 19, x 20, x 21, x 22, x 23, .int .i64 (1 + r), x 25, x 26, x 27, x 28, x 29, x 30, x 31, x 32, x 33, x 34, x 35, x 36, x 37, x 38, x 39, x 40, x 41, x 42, x 43, x 44, x 45, x 46, x 47, x 48, x 49, x 50], defers := [] } wa := hK _ _ hW (by rw [if_neg (by decide)]; exact World.grownBy.refl _ _) ⟨1 + r, rfl, by omega, by omega⟩
        rw [hv] at hk
        exact hk
      · -- operation 17
        simp only [List.getElem?_toArray, List.getElem?_cons_succ, List.getElem?_cons_zero, Option.some.injEq] at ho
        subst ho
        have p2 : ∃ r : Int, (x 10) = .int .i64 r ∧ 1 ≤ r ∧ r ≤ 8 := hdep 2 (List.mem_of_elem_eq_true (by kernel_rfl))
        have p7 : ∃ s : ByteArray, (x 15) = .string s ∧ s.size ≤ 36 := hdep 7 (List.mem_of_elem_eq_true (by kernel_rfl))
        have p12 : ∃ s : ByteArray, (x 20) = .string s ∧ s.size ≤ 36 := hdep 12 (List.mem_of_elem_eq_true (by kernel_rfl))
        have p16 : ∃ r : Int, (x 24) = .int .i64 r ∧ 1 ≤ r ∧ r ≤ 89 := hdep 16 (List.mem_of_elem_eq_true (by kernel_rfl))
        clear hdep hgd
        obtain ⟨k, hv1, k0, k1⟩ := p2
        obtain ⟨s1, hv2, t1⟩ := p7
        obtain ⟨s2, hv3, t2⟩ := p12
        obtain ⟨n, hv4, n0, n1⟩ := p16
        unfold fr51
        rw [hv1, hv2, hv3, hv4]
        go_simp
        have hk : K { tmps := #[x 0, x 1, x 2, x 3, x 4, x 5, x 6, x 7, x 8, x 9, x 10, x 11, x 12, x 13, x 14, x 15, x 16, x 17, x 18, x 19, x 20, x 21, x 22, x 23, x 24, .agg #[.int .i64 k, .string s1, .string s2, .slice none 0 0, .int .i64 n], x 26, x 27, x 28, x 29, x 30, x 31, x 32, x 33, x 34, x 35, x 36, x 37, x 38, x 39, x 40, x 41, x 42, x 43, x 44, x 45, x 46, x 47, x 48, x 49, x 50], defers := [] } wa := hK _ _ hW (by rw [if_neg (by decide)]; exact World.grownBy.refl _ _) ⟨k, s1, s2, n, rfl, k0, k1, t1, t2, n0, n1⟩
        rw [hv1, hv2, hv3, hv4] at hk
        exact hk
      · -- operation 18
        simp only [List.getElem?_toArray, List.getElem?_cons_succ, List.getElem?_cons_zero, Option.some.injEq] at ho
        subst ho
        clear hdep hgd
        unfold fr51
        go_simp
        have hk : K { tmps := #[x 0, x 1, x 2, x 3, x 4, x 5, .pointer (some ⟨wa.heap.size, 0, none⟩), x 7, x 8, x 9, x 10, x 11, x 12, x 13, x 14, x 15, x 16, x 17, x 18, x 19, x 20, x 21, x 22, x 23, x 24, x 25, x 26, x 27, x 28, x 29, x 30, x 31, x 32, x 33, x 34, x 35, x 36, x 37, x 38, x 39, x 40, x 41, x 42, x 43, x 44, x 45, x 46, x 47, x 48, x 49, x 50], defers := [] } (wa.alloc (.cells #[.int .i64 0, .string ⟨#[]⟩, .string ⟨#[]⟩, .slice none 0 0, .int .i64 0] 46)) := hK _ _ ⟨hW.1.alloc _, grownBy_trans hW.2 (grownBy_of_below ((Below.refl _ wa).alloc (Nat.le_refl _) _) _)⟩ (by rw [if_neg (by decide)]; exact grownBy_of_below ((Below.refl _ wa).alloc (Nat.le_refl _) _) _) ⟨_, rfl, hW.2.size, _, _, _, _, _, Blk.new _ _ _⟩
        exact hk
      · -- operation 19
        simp only [List.getElem?_toArray, List.getElem?_cons_succ, List.getElem?_cons_zero, Option.some.injEq] at ho
        subst ho
        have p17 : ∃ (k : Int) (s1 s2 : ByteArray) (n : Int), (x 25) = .agg #[.int .i64 k, .string s1, .string s2, .slice none 0 0, .int .i64 n] ∧ 1 ≤ k ∧ k ≤ 8 ∧ s1.size ≤ 36 ∧ s2.size ≤ 36 ∧ 1 ≤ n ∧ n ≤ 89 := hdep 17 (List.mem_of_elem_eq_true (by kernel_rfl))
        have p18 : ∃ g : Nat, (x 6) = .pointer (some ⟨g, 0, none⟩) ∧ W.heap.size ≤ g ∧ Fv wa g := hdep 18 (List.mem_of_elem_eq_true (by kernel_rfl))
        clear hdep hgd
        obtain ⟨k, s1, s2, n, hv, hbd⟩ := p17
        obtain ⟨g, hg, hWg, a0, a1, a2, a3, a4, hb⟩ := p18
        obtain ⟨q0, q1, q2, q3, q4⟩ := hb.cell5
        obtain ⟨z0, z1, z2, z3, z4⟩ := hb.froz5
        have hb' := hb.five (.int .i64 k) (.string s1) (.string s2) (.slice none 0 0) (.int .i64 n)
        have hbl : Below W.heap.size wa _ := below_five (Below.refl _ wa) hWg (.int .i64 k) (.string s1) (.string s2) (.slice none 0 0) (.int .i64 n)
        have hlt := hb.lt
        have hgc2 : gc < W.heap.size := hgc
        have hk : K { tmps := #[x 0, x 1, x 2, x 3, x 4, x 5, x 6, x 7, x 8, x 9, x 10, x 11, x 12, x 13, x 14, x 15, x 16, x 17, x 18, x 19, x 20, x 21, x 22, x 23, x 24, x 25, x 26, x 27, x 28, x 29, x 30, x 31, x 32, x 33, x 34, x 35, x 36, x 37, x 38, x 39, x 40, x 41, x 42, x 43, x 44, x 45, x 46, x 47, x 48, x 49, x 50], defers := [] } _ := hK undef _ ⟨hW.1.under hbl hgc2, grownBy_below hW.2 hbl⟩ (by rw [if_pos rfl]; exact fun g' hf => hf.five hb _ _ _ _ _) ⟨g, k, s1, s2, n, hg, hWg, hb', hbd⟩
        unfold fr51
        rw [hv, hg]
        rw [hv, hg] at hk
        clear hv hg hb hb' hbl
        go_simp
        exact hk
    case skip =>
      intro i o j b ho hgd
      have hi : i < 20 := (Array.getElem?_eq_some_iff.1 ho).1
      have hcase : i = 0 ∨ i = 1 ∨ i = 2 ∨ i = 3 ∨ i = 4 ∨ i = 5 ∨ i = 6 ∨ i = 7 ∨ i = 8 ∨ i = 9 ∨ i = 10 ∨ i = 11 ∨ i = 12 ∨ i = 13 ∨ i = 14 ∨ i = 15 ∨ i = 16 ∨ i = 17 ∨ i = 18 ∨ i = 19 := by omega
      rcases hcase with rfl | rfl | rfl | rfl | rfl | rfl | rfl | rfl | rfl | rfl | rfl | rfl | rfl | rfl | rfl | rfl | rfl | rfl | rfl | rfl <;> (simp only [List.getElem?_toArray, List.getElem?_cons_succ, List.getElem?_cons_zero, Option.some.injEq] at ho; subst ho; cases hgd)
    case done =>
      intro x wd hout hW hall
      have p19 : ∃ (g : Nat) (k : Int) (s1 s2 : ByteArray) (n : Int), (x 6) = .pointer (some ⟨g, 0, none⟩) ∧ W.heap.size ≤ g ∧ Blk wd g 46 #[.int .i64 k, .string s1, .string s2, .slice none 0 0, .int .i64 n] ∧ 1 ≤ k ∧ k ≤ 8 ∧ s1.size ≤ 36 ∧ s2.size ≤ 36 ∧ 1 ≤ n ∧ n ≤ 89 := hall 19 (by decide)
      obtain ⟨g, k, s1, s2, n, hu, hWg, hb, k0, k1, t1, t2, n0, n1⟩ := p19
      clear hall
      unfold fr51
      rw [(hout 0 (by decide)).trans (hx0 0), (hout 1 (by decide)).trans (hx0 1), (hout 2 (by decide)).trans (hx0 2), (hout 3 (by decide)).trans (hx0 3), (hout 4 (by decide)).trans (hx0 4), (hout 5 (by decide)).trans (hx0 5), (hout 7 (by decide)).trans (hx0 7), (hout 26 (by decide)).trans (hx0 26), (hout 27 (by decide)).trans (hx0 27), (hout 28 (by decide)).trans (hx0 28), (hout 29 (by decide)).trans (hx0 29), (hout 30 (by decide)).trans (hx0 30), (hout 31 (by decide)).trans (hx0 31), (hout 32 (by decide)).trans (hx0 32), (hout 33 (by decide)).trans (hx0 33), (hout 34 (by decide)).trans (hx0 34), (hout 35 (by decide)).trans (hx0 35), (hout 36 (by decide)).trans (hx0 36), (hout 37 (by decide)).trans (hx0 37), (hout 38 (by decide)).trans (hx0 38), (hout 39 (by decide)).trans (hx0 39), (hout 40 (by decide)).trans (hx0 40), (hout 41 (by decide)).trans (hx0 41), (hout 42 (by decide)).trans (hx0 42), (hout 43 (by decide)).trans (hx0 43), (hout 44 (by decide)).trans (hx0 44), (hout 45 (by decide)).trans (hx0 45), (hout 46 (by decide)).trans (hx0 46), (hout 47 (by decide)).trans (hx0 47), (hout 48 (by decide)).trans (hx0 48), (hout 49 (by decide)).trans (hx0 49), (hout 50 (by decide)).trans (hx0 50)]
      simp only [Array.getD_eq_getD_getElem?, List.getElem?_toArray, List.getElem?_cons_succ, List.getElem?_cons_zero, Option.getD_some]
      rw [hu]
      clear hout hx0 y0 y5
      go_wp2_with fail
      go_meet
      case rel => exact ⟨g, k, s1, s2, n, rfl, keep hWg, keep hb, k0, k1, keep t1, keep t2, keep n0, keep n1, keep hW.1, keep hW.2⟩
  case rest =>
    obtain ⟨g, k, s1, s2, n, rfl, HG, HBk, k0, k1, HT1, HT2, HN0, HN1, HCc, HGr⟩ := hcut
    obtain ⟨wv, rfl⟩ : ∃ wv : World, wv = wc := ⟨_, rfl⟩
    have HZv := keep (HZ.out.grown HGr.out (fun e => by injection e; omega))
    have hwg : w.heap.size < g := by have := HG.out; have := HWS.out; omega
    have hne : w.heap.size ≠ g := by omega
    have hne' : g ≠ w.heap.size := by omega
    have hgg : gc < g := by omega
    have HGw := keep (grownBy_trans (grownBy_of_below HB.out (some gc)) HGr.out)
    clear HZ HN HC HGr
    have hcs : (k = 1 ∨ k = 8) ∨ k = 2 ∨ ((k == 1) = false ∧ (k == 8) = false ∧ (k == 2) = false) := by
      simp only [beq_eq_false_iff_ne, ne_eq]; omega
    rcases hcs with (rfl | rfl) | rfl | ⟨e1, e8, e2⟩
    · obtain ⟨b0, b1, b2, b3, b4⟩ := HBk.out.cell5
      go_wp2_with fail
      refine (makeData gc number 3 _ HCc.out (by omega) (by omega)).mono ?_
      rintro e w3 ⟨vD, lD, rfl, hD, hD1, hD2, hC4, hg3⟩
      obtain ⟨A3, c3, rfl, _, hD⟩ := hD.form
      have HB3 := keep (HBk.out.grown hg3 (fun e => by injection e; omega))
      have HZ3 := keep (HZv.out.grown hg3 (fun e => by injection e; omega))
      have HG3 := keep (grownBy_trans HGw.out hg3)
      have HC3 := keep hC4
      have HD3 := keep hD
      have HL : Hid (lD.length ≤ 1000000) := keep (by omega)
      have hgo : g < wv.heap.size := HBk.out.lt
      clear hC4 hg3 hD hD1 hD2 b0 b1 b2 b3 b4
      have hgs := grownBy_set (World.grownBy.refl w3 (some g)) 3 (.slice A3 lD.length c3)
      have hBz := HB3.out.set_ 3 (.slice A3 lD.length c3)
      have hZz := HZ3.out.grown hgs (fun e => by injection e; omega)
      have hCz := HC3.out.grown hgs hgg
      have hGz := grownBy_below HG3.out ((Below.refl w.heap.size w3).setCell (p := ⟨g, 3, none⟩) (Nat.le_of_lt hwg) (.slice A3 lD.length c3))
      have hDz := HD3.out.setCell (p := ⟨g, 3, none⟩) hgo (.slice A3 lD.length c3)
      have HBz : Hid (Blk (w3.setCell ⟨g, 3, none⟩ (.slice A3 lD.length c3)) g 46 #[.int .i64 1, .string s1, .string s2, .slice A3 lD.length c3, .int .i64 n]) := keep hBz
      have HZz := keep hZz
      have HCz := keep hCz
      have HGz := keep hGz
      have HDz := keep hDz
      clear hBz hZz hCz hGz hDz hgs
      obtain ⟨b0, b1, b2, b3, b4⟩ := HB3.out.cell5
      have f3 := HB3.out.frozen 3
      go_upto_region 11 with fail
      generalize w3.setCell ⟨g, 3, none⟩ (.slice A3 lD.length c3) = wz at *
      clear b0 b1 b2 b3 b4 f3
      have HDy := keep (HDz.out.base_ (show w.heap.size + 1 ≤ wv.heap.size by omega))
      obtain ⟨b0, b1, b2, b3, b4⟩ := HBz.out.cell5
      obtain ⟨z0, z1, z2, z3, z4⟩ := HZz.out.cell5
      obtain ⟨f0, f1, f2, f3, f4⟩ := HZz.out.froz5
      have hlz := HBz.out.lt
      go_wp2_with fail
      refine bodyPost_ret (results_cell_row rfl _ _ (w.heap.size) _ _ _ _ rfl (HZz.out.five _ _ _ _ _) Try.underlying46 rfl (by kernel_rfl)) rfl ?_
      have hbl := below_five (Below.refl w.heap.size wz) (Nat.le_refl _) (.int .i64 1) (.string s1) (.string s2) (.slice A3 lD.length c3) (.int .i64 n)
      have hd5 := (((((HDy.out.setCell (p := ⟨w.heap.size, 0, none⟩) (Nat.lt_succ_self _) (.int .i64 1)).setCell (p := ⟨w.heap.size, 1, none⟩) (Nat.lt_succ_self _) (.string s1)).setCell (p := ⟨w.heap.size, 2, none⟩) (Nat.lt_succ_self _) (.string s2)).setCell (p := ⟨w.heap.size, 3, none⟩) (Nat.lt_succ_self _) (.slice A3 lD.length c3)).setCell (p := ⟨w.heap.size, 4, none⟩) (Nat.lt_succ_self _) (.int .i64 n))
      exact ⟨⟨1, s1, s2, .slice A3 lD.length c3, lD, n⟩, rfl, ChG.of_own hd5 HL.out (by have := HN1.out; show n ≤ _; omega) (Nat.le_trans HT1.out (by decide)) (Nat.le_trans HT2.out (by decide)), HCz.out.under hbl hl, grownBy_below HGz.out hbl⟩
    · obtain ⟨b0, b1, b2, b3, b4⟩ := HBk.out.cell5
      go_wp2_with fail
      refine (makeData gc number 3 _ HCc.out (by omega) (by omega)).mono ?_
      rintro e w3 ⟨vD, lD, rfl, hD, hD1, hD2, hC4, hg3⟩
      obtain ⟨A3, c3, rfl, _, hD⟩ := hD.form
      have HB3 := keep (HBk.out.grown hg3 (fun e => by injection e; omega))
      have HZ3 := keep (HZv.out.grown hg3 (fun e => by injection e; omega))
      have HG3 := keep (grownBy_trans HGw.out hg3)
      have HC3 := keep hC4
      have HD3 := keep hD
      have HL : Hid (lD.length ≤ 1000000) := keep (by omega)
      have hgo : g < wv.heap.size := HBk.out.lt
      clear hC4 hg3 hD hD1 hD2 b0 b1 b2 b3 b4
      have hgs := grownBy_set (World.grownBy.refl w3 (some g)) 3 (.slice A3 lD.length c3)
      have hBz := HB3.out.set_ 3 (.slice A3 lD.length c3)
      have hZz := HZ3.out.grown hgs (fun e => by injection e; omega)
      have hCz := HC3.out.grown hgs hgg
      have hGz := grownBy_below HG3.out ((Below.refl w.heap.size w3).setCell (p := ⟨g, 3, none⟩) (Nat.le_of_lt hwg) (.slice A3 lD.length c3))
      have hDz := HD3.out.setCell (p := ⟨g, 3, none⟩) hgo (.slice A3 lD.length c3)
      have HBz : Hid (Blk (w3.setCell ⟨g, 3, none⟩ (.slice A3 lD.length c3)) g 46 #[.int .i64 8, .string s1, .string s2, .slice A3 lD.length c3, .int .i64 n]) := keep hBz
      have HZz := keep hZz
      have HCz := keep hCz
      have HGz := keep hGz
      have HDz := keep hDz
      clear hBz hZz hCz hGz hDz hgs
      obtain ⟨b0, b1, b2, b3, b4⟩ := HB3.out.cell5
      have f3 := HB3.out.frozen 3
      go_upto_region 11 with fail
      generalize w3.setCell ⟨g, 3, none⟩ (.slice A3 lD.length c3) = wz at *
      clear b0 b1 b2 b3 b4 f3
      have HDy := keep (HDz.out.base_ (show w.heap.size + 1 ≤ wv.heap.size by omega))
      obtain ⟨b0, b1, b2, b3, b4⟩ := HBz.out.cell5
      obtain ⟨z0, z1, z2, z3, z4⟩ := HZz.out.cell5
      obtain ⟨f0, f1, f2, f3, f4⟩ := HZz.out.froz5
      have hlz := HBz.out.lt
      go_wp2_with fail
      refine bodyPost_ret (results_cell_row rfl _ _ (w.heap.size) _ _ _ _ rfl (HZz.out.five _ _ _ _ _) Try.underlying46 rfl (by kernel_rfl)) rfl ?_
      have hbl := below_five (Below.refl w.heap.size wz) (Nat.le_refl _) (.int .i64 8) (.string s1) (.string s2) (.slice A3 lD.length c3) (.int .i64 n)
      have hd5 := (((((HDy.out.setCell (p := ⟨w.heap.size, 0, none⟩) (Nat.lt_succ_self _) (.int .i64 8)).setCell (p := ⟨w.heap.size, 1, none⟩) (Nat.lt_succ_self _) (.string s1)).setCell (p := ⟨w.heap.size, 2, none⟩) (Nat.lt_succ_self _) (.string s2)).setCell (p := ⟨w.heap.size, 3, none⟩) (Nat.lt_succ_self _) (.slice A3 lD.length c3)).setCell (p := ⟨w.heap.size, 4, none⟩) (Nat.lt_succ_self _) (.int .i64 n))
      exact ⟨⟨8, s1, s2, .slice A3 lD.length c3, lD, n⟩, rfl, ChG.of_own hd5 HL.out (by have := HN1.out; show n ≤ _; omega) (Nat.le_trans HT1.out (by decide)) (Nat.le_trans HT2.out (by decide)), HCz.out.under hbl hl, grownBy_below HGz.out hbl⟩
    · obtain ⟨b0, b1, b2, b3, b4⟩ := HBk.out.cell5
      go_wp2_with fail
      refine (makeLine gc _ HCc.out).mono ?_
      rintro e w2 ⟨s3, rfl, hs3, hC2, hg3⟩
      have hwv := hg3.size
      have hB2 := HBk.out.grown hg3 (fun e => by injection e; omega)
      have hZ2 := HZv.out.grown hg3 (fun e => by injection e; omega)
      have hG2 := grownBy_trans HGw.out hg3
      have hl2 : g < w2.heap.size := hB2.lt
      have hgo : g < w2.heap.size := hl2
      have hs9 : s3.data.toList.length = s3.size := by simp
      have hwg2 : w.heap.size < w2.heap.size := by omega
      clear hg3 b0 b1 b2 b3 b4
      go_upto_region 9 with (first
        | (refine wpList_bytesB rfl _ rfl _ rfl Try.underlying9 Try.underlying22 Try.underlying5 (by unfold maxLen; omega) ?_; intro v4 w4 hown4 hb4 hz4; obtain ⟨A4, c4, rfl, _, hown4⟩ := hown4.form)
        | (refine wpList_pushB elBytes rfl rfl _ _ _ rfl rfl rfl w2.heap.size _ 10 s3.data.toList rfl (fun _ => rfl) (fun _ => rfl) hown4 (by omega) hb4.size ?_; intro q5 w6 w5 hown5 hb5 hg5
           have hl5 : (s3.data.toList ++ [10]).length = s3.size + 1 := by simp
           generalize s3.data.toList ++ [10] = l5 at hown5 hl5
           obtain ⟨A5, c5, rfl, _, hown5⟩ := hown5.form
           have hbb : Below w2.heap.size w2 w5 := hb4.trans hb5
           have HL : Hid (l5.length ≤ 1000000) := keep (by omega)
           have HD3 := keep hown5
           have HB3 := keep (hB2.below hbb hl2)
           have HZ3 := keep (hZ2.below hbb hwg2)
           have HC3 := keep (hC2.under hbb (by omega))
           have HG3 := keep (grownBy_trans hG2 (grownBy_of_below hbb _))
           clear hown4 hb4 hz4 hown5 hb5 hg5 hbb hB2 hZ2 hC2 hG2 hl5
           have hgs := grownBy_set (World.grownBy.refl w5 (some g)) 3 (.slice A5 l5.length c5)
           have hBz := HB3.out.set_ 3 (.slice A5 l5.length c5)
           have hZz := HZ3.out.grown hgs (fun e => by injection e; omega)
           have hCz := HC3.out.grown hgs hgg
           have hGz := grownBy_below HG3.out ((Below.refl w.heap.size w5).setCell (p := ⟨g, 3, none⟩) (Nat.le_of_lt hwg) (.slice A5 l5.length c5))
           have hDz := HD3.out.setCell (p := ⟨g, 3, none⟩) hgo (.slice A5 l5.length c5)
           have HBz : Hid (Blk (w5.setCell ⟨g, 3, none⟩ (.slice A5 l5.length c5)) g 46 #[.int .i64 2, .string s1, .string s2, .slice A5 l5.length c5, .int .i64 n]) := keep hBz
           have HZz := keep hZz
           have HCz := keep hCz
           have HGz := keep hGz
           have HDz := keep hDz
           clear hBz hZz hCz hGz hDz hgs
           obtain ⟨b0, b1, b2, b3, b4⟩ := HB3.out.cell5
           have f3 := HB3.out.frozen 3
        ))
      generalize w5.setCell ⟨g, 3, none⟩ (.slice A5 l5.length c5) = wz at *
      clear b0 b1 b2 b3 b4 f3
      go_wp2_with fail
      refine (drawNext gc 6 _ HCz.out (by omega) (by omega)).mono ?_
      rintro e wy ⟨r, rfl, r0, r1, _, hC7, hg7⟩
      have HB3' := keep (HBz.out.grown hg7 (fun e => by injection e; omega))
      have HZ3' := keep (HZz.out.grown hg7 (fun e => by injection e; omega))
      have HG3' := keep (grownBy_trans HGz.out hg7)
      have HC3' := keep hC7
      have HD3' := keep (HDz.out.grown hg7 (by omega))
      clear hC7 hg7 HB3 HZ3 HG3 HC3 HD3 HBz HZz HGz HCz HDz r1
      by_cases h5 : r = 5
      · subst h5
        clear HD3' HL
        go_wp2_with fail
        refine (makeText gc 2 _ HC3'.out (by omega) (by omega)).mono ?_
        rintro e w7 ⟨s7, rfl, hs7, hC7, hg7⟩
        have hwv7 := hg7.size
        have hB7 := HB3'.out.grown hg7 (fun e => by injection e; omega)
        have hZ7 := HZ3'.out.grown hg7 (fun e => by injection e; omega)
        have hG7 := grownBy_trans HG3'.out hg7
        have hl7 : g < w7.heap.size := hB7.lt
        have hgo : g < w7.heap.size := hl7
        have hs79 : s7.data.toList.length = s7.size := by simp
        clear hg7
        go_upto_region 11 with (first
          | (refine wpList_bytesB rfl _ rfl _ rfl Try.underlying9 Try.underlying22 Try.underlying5 (by unfold maxLen; omega) ?_; intro v8 w8 hown8 hb8 hz8
             generalize s7.data.toList = l7 at hown8 hs79
             obtain ⟨A8, c8, rfl, _, hown8⟩ := hown8.form
             have HL : Hid (l7.length ≤ 1000000) := keep (by omega)
             have HD3 := keep hown8
             have HB3 := keep (hB7.below hb8 hl7)
             have HZ3 := keep (hZ7.below hb8 (by omega))
             have HC3 := keep (hC7.under hb8 (by omega))
             have HG3 := keep (grownBy_trans hG7 (grownBy_of_below hb8 _))
             clear hown8 hb8 hz8 hB7 hZ7 hC7 hG7 hs79
             have hgs := grownBy_set (World.grownBy.refl w8 (some g)) 3 (.slice A8 l7.length c8)
             have hBz := HB3.out.set_ 3 (.slice A8 l7.length c8)
             have hZz := HZ3.out.grown hgs (fun e => by injection e; omega)
             have hCz := HC3.out.grown hgs hgg
             have hGz := grownBy_below HG3.out ((Below.refl w.heap.size w8).setCell (p := ⟨g, 3, none⟩) (Nat.le_of_lt hwg) (.slice A8 l7.length c8))
             have hDz := HD3.out.setCell (p := ⟨g, 3, none⟩) hgo (.slice A8 l7.length c8)
             have HBz : Hid (Blk (w8.setCell ⟨g, 3, none⟩ (.slice A8 l7.length c8)) g 46 #[.int .i64 2, .string s1, .string s2, .slice A8 l7.length c8, .int .i64 n]) := keep hBz
             have HZz := keep hZz
             have HCz := keep hCz
             have HGz := keep hGz
             have HDz := keep hDz
             clear hBz hZz hCz hGz hDz hgs
             obtain ⟨b0, b1, b2, b3, b4⟩ := HB3.out.cell5
             have f3 := HB3.out.frozen 3
          ))
        generalize w8.setCell ⟨g, 3, none⟩ (.slice A8 l7.length c8) = wz at *
        clear b0 b1 b2 b3 b4 f3
        have HDy := keep (HDz.out.base_ (show w.heap.size + 1 ≤ w7.heap.size by omega))
        obtain ⟨b0, b1, b2, b3, b4⟩ := HBz.out.cell5
        obtain ⟨z0, z1, z2, z3, z4⟩ := HZz.out.cell5
        obtain ⟨f0, f1, f2, f3, f4⟩ := HZz.out.froz5
        have hlz := HBz.out.lt
        go_wp2_with fail
        refine bodyPost_ret (results_cell_row rfl _ _ (w.heap.size) _ _ _ _ rfl (HZz.out.five _ _ _ _ _) Try.underlying46 rfl (by kernel_rfl)) rfl ?_
        have hbl := below_five (Below.refl w.heap.size wz) (Nat.le_refl _) (.int .i64 2) (.string s1) (.string s2) (.slice A8 l7.length c8) (.int .i64 n)
        have hd5 := (((((HDy.out.setCell (p := ⟨w.heap.size, 0, none⟩) (Nat.lt_succ_self _) (.int .i64 2)).setCell (p := ⟨w.heap.size, 1, none⟩) (Nat.lt_succ_self _) (.string s1)).setCell (p := ⟨w.heap.size, 2, none⟩) (Nat.lt_succ_self _) (.string s2)).setCell (p := ⟨w.heap.size, 3, none⟩) (Nat.lt_succ_self _) (.slice A8 l7.length c8)).setCell (p := ⟨w.heap.size, 4, none⟩) (Nat.lt_succ_self _) (.int .i64 n))
        exact ⟨⟨2, s1, s2, .slice A8 l7.length c8, l7, n⟩, rfl, ChG.of_own hd5 HL.out (by have := HN1.out; show n ≤ _; omega) (Nat.le_trans HT1.out (by decide)) (Nat.le_trans HT2.out (by decide)), HCz.out.under hbl hl, grownBy_below HGz.out hbl⟩
      · have h5' : (r == 5) = false := by simpa using h5
        have HDy := keep (HD3'.out.base_ (show w.heap.size + 1 ≤ w2.heap.size by omega))
        go_upto_region 11 with fail
        obtain ⟨b0, b1, b2, b3, b4⟩ := HB3'.out.cell5
        obtain ⟨z0, z1, z2, z3, z4⟩ := HZ3'.out.cell5
        obtain ⟨f0, f1, f2, f3, f4⟩ := HZ3'.out.froz5
        have hlz := HB3'.out.lt
        go_wp2_with fail
        refine bodyPost_ret (results_cell_row rfl _ _ (w.heap.size) _ _ _ _ rfl (HZ3'.out.five _ _ _ _ _) Try.underlying46 rfl (by kernel_rfl)) rfl ?_
        have hbl := below_five (Below.refl w.heap.size wy) (Nat.le_refl _) (.int .i64 2) (.string s1) (.string s2) (.slice A5 l5.length c5) (.int .i64 n)
        have hd5 := (((((HDy.out.setCell (p := ⟨w.heap.size, 0, none⟩) (Nat.lt_succ_self _) (.int .i64 2)).setCell (p := ⟨w.heap.size, 1, none⟩) (Nat.lt_succ_self _) (.string s1)).setCell (p := ⟨w.heap.size, 2, none⟩) (Nat.lt_succ_self _) (.string s2)).setCell (p := ⟨w.heap.size, 3, none⟩) (Nat.lt_succ_self _) (.slice A5 l5.length c5)).setCell (p := ⟨w.heap.size, 4, none⟩) (Nat.lt_succ_self _) (.int .i64 n))
        exact ⟨⟨2, s1, s2, .slice A5 l5.length c5, l5, n⟩, rfl, ChG.of_own hd5 HL.out (by have := HN1.out; show n ≤ _; omega) (Nat.le_trans HT1.out (by decide)) (Nat.le_trans HT2.out (by decide)), HC3'.out.under hbl hl, grownBy_below HG3'.out hbl⟩
    · have HDy := keep (OwnB.nil wv (w.heap.size + 1))
      have HL : Hid (([] : List UInt8).length ≤ 1000000) := keep (by simp)
      obtain ⟨b0, b1, b2, b3, b4⟩ := HBk.out.cell5
      go_upto_region 11 with fail
      clear b0 b1 b2 b3 b4
      obtain ⟨b0, b1, b2, b3, b4⟩ := HBk.out.cell5
      obtain ⟨z0, z1, z2, z3, z4⟩ := HZv.out.cell5
      obtain ⟨f0, f1, f2, f3, f4⟩ := HZv.out.froz5
      have hlz := HBk.out.lt
      go_wp2_with fail
      refine bodyPost_ret (results_cell_row rfl _ _ (w.heap.size) _ _ _ _ rfl (HZv.out.five _ _ _ _ _) Try.underlying46 rfl (by kernel_rfl)) rfl ?_
      have hbl := below_five (Below.refl w.heap.size wv) (Nat.le_refl _) (.int .i64 k) (.string s1) (.string s2) (.slice none 0 0) (.int .i64 n)
      have hd5 := (((((HDy.out.setCell (p := ⟨w.heap.size, 0, none⟩) (Nat.lt_succ_self _) (.int .i64 k)).setCell (p := ⟨w.heap.size, 1, none⟩) (Nat.lt_succ_self _) (.string s1)).setCell (p := ⟨w.heap.size, 2, none⟩) (Nat.lt_succ_self _) (.string s2)).setCell (p := ⟨w.heap.size, 3, none⟩) (Nat.lt_succ_self _) (.slice none 0 0)).setCell (p := ⟨w.heap.size, 4, none⟩) (Nat.lt_succ_self _) (.int .i64 n))
      exact ⟨⟨k, s1, s2, .slice none 0 0, [], n⟩, rfl, ChG.of_own hd5 HL.out (by have := HN1.out; show n ≤ _; omega) (Nat.le_trans HT1.out (by decide)) (Nat.le_trans HT2.out (by decide)), HCc.out.under hbl hl, grownBy_below HGw.out hbl⟩
end Go.Proofs.Ytgegmefnbkcdkaa
namespace Go.Proofs.Ytgegmefnbkcdkaa
open Go.RowKit
end Go.Proofs.Ytgegmefnbkcdkaa
