/- FramingLines: the walk of the statement. -/
import Derived.Test.YtimldjlegbdldaaAwake
import Derived.Test.YtimldjlegbdldaaMakeData
namespace Go.Proofs.Ytimldjlegbdldaa
open Go.RowKit

theorem frV_any (l : List UInt8) (d : Nat) (lim : Int) (p : Nat × Nat) : ∃ (g q r : Nat) (s : ByteArray) (b : Bool), frV l d lim p = [.int .i64 (g : Int), .int .i64 (q : Int), .string s, .int .i64 r, .bool b] := by
  obtain ⟨g, q, r, s, b, _, _, h⟩ := frV_form l d lim p
  exact ⟨g, q, r, s, b, h⟩
theorem sl_frame {w : World} {B : Nat} {v : Value} {l : List UInt8} {off lim : Int} (h : w.ownsRow B 41 5 v (frSp l off).length (frL l off lim)) : Sl w (lt w.heap.size) 5 v (frSp l off).length ((frSp l off).flatMap (frV l off.toNat lim)) := Sl.of_own h

/-- Two slices in a literal of two. -/
structure Duo (w : World) (g : Nat) : Prop where
  h : ∀ k, k < 2 → ∃ (v : Value) (l : List UInt8), w.cell? ⟨g, k, none⟩ = some v ∧ BSl w (lt w.heap.size) v l ∧ l.length ≤ 2000000

/-- Three pairs of numbers in a literal. -/
structure Tri (w : World) (g : Nat) : Prop where
  h : ∀ j, j < 3 → ∃ x y : Int, w.cell? ⟨g, j * 2, none⟩ = some (.int .i64 x) ∧ w.cell? ⟨g, j * 2 + 1, none⟩ = some (.int .i64 y)
theorem Tri.new (w : World) (a b c d e f : Int) : Tri (w.alloc (.cells #[.int .i64 a, .int .i64 b, .int .i64 c, .int .i64 d, .int .i64 e, .int .i64 f] 31)) w.heap.size := by
  have hb := Blk.new w 31 #[.int .i64 a, .int .i64 b, .int .i64 c, .int .i64 d, .int .i64 e, .int .i64 f]
  refine ⟨fun j hj => ?_⟩
  rcases (show j = 0 ∨ j = 1 ∨ j = 2 by omega) with rfl | rfl | rfl
  · exact ⟨a, b, by rw [hb.cell]; rfl, by rw [hb.cell]; rfl⟩
  · exact ⟨c, d, by rw [hb.cell]; rfl, by rw [hb.cell]; rfl⟩
  · exact ⟨e, f, by rw [hb.cell]; rfl, by rw [hb.cell]; rfl⟩
/-- The reference's Frame, behind the program's; then Same says yes. -/
def RefAfter (m : List UInt8) (x : Int) (v1 : Value) (w : World) (e : Ending) (w' : World) : Prop :=
  ∃ v2, e = .returned (.tuple #[v2, .int .i64 (frEnd m x)]) ∧ Below w.heap.size w w' ∧ Calls Try.prog 15 #[v1, v2] w' fun e w'' => e = .returned (.bool true) ∧ Below w'.heap.size w' w''
theorem frame_ref (m : List UInt8) (x y : Int) (v1 v : Value) (w w0 : World) (hv : BSl w (lt w.heap.size) v m) (hm : m.length ≤ 1000000000) (hr : w.ownsRow w0.heap.size 41 5 v1 (frSp m x).length (frL m x y)) :
    Calls Try.prog 14 #[v, .int .i64 x, .int .i64 y] w (RefAfter m x v1 w) := by
  refine (frameRef_any v m x y w hv hm).mono ?_
  rintro e w' ⟨v2, rfl, hr2, hb⟩
  exact ⟨v2, rfl, hb, same_any (frSp m x) (frV m x.toNat y) (fun p _ => frV_any _ _ _ _) v1 v2 _ _ w' ((sl_frame hr).below hb (Nat.le_refl _)) (sl_frame hr2) (Nat.le_trans (frSp_len m x) hm)⟩
set_option maxRecDepth 100000 in
set_option maxHeartbeats 4000000 in
theorem law_lines (v vc : Value) (l : List UInt8) (off lim : Int) (cs : List Int) (w : World) (h : BSl w (lt w.heap.size) v l) (hm : l.length ≤ 2000000) (hs : Sl w (lt w.heap.size) 1 vc cs.length (cs.map (.int .u8))) (hr : ∀ x ∈ cs, 0 ≤ x ∧ x ≤ 255) (hcm : cs.length ≤ maxLen) :
    Calls Try.prog 3 #[v, .int .i64 off, .int .i64 lim, vc] w fun e w' => e = .returned (.bool true) ∧ Below w.heap.size w w' := by
  obtain ⟨A, c, rfl, hc, h⟩ := h.forms
  go_enter Try.func3, Try.ntmps3
  go_wp2_with fail
  refine (awake_any _).mono ?_
  rintro e w1 ⟨rfl, hb1⟩
  go_wp2_with fail
  refine (drawNew _ cs 100 _ ((hs.below hb1 (Nat.le_refl _)).more hb1.size) hr (by omega) hcm).mono ?_
  rintro e w2 ⟨gc, rfl, hgc, hC, hb2⟩
  go_wp2_with fail
  refine (drawNext gc 256 _ hC (by omega) (by omega)).mono ?_
  rintro e w3 ⟨r, rfl, hr0, hr1, _, hC3, hg3⟩
  go_wp2_with fail
  refine (makeData gc r 5 _ hC3 (by omega) (by omega)).mono ?_
  rintro e w4 ⟨vD, lD, rfl, hD, hD1, hD2, hC4, hg4⟩
  have hb4 : Below w1.heap.size w1 w4 := (hb2.grown hg3 hb2.size (fun k hk => by injection hk with hk; omega)).grown hg4 (Nat.le_trans hb2.size hg3.size) (fun k hk => by injection hk with hk; omega)
  obtain ⟨AD, cD, rfl, hcD, hD⟩ := hD.form
  have hl4 : BSl w4 (lt w4.heap.size) (.slice A l.length c) l := ((h.below hb1 (Nat.le_refl _)).up hb1.size |>.below hb4 (Nat.le_refl _)).up hb4.size
  have hduo : Duo (w4.alloc (.cells #[.slice A l.length c, .slice AD lD.length cD] 22)) w4.heap.size := by
    have hk : ∀ {v : Value} {m : List UInt8}, BSl w4 (lt w4.heap.size) v m → BSl (w4.alloc (.cells #[.slice A l.length c, .slice AD lD.length cD] 22)) (lt (w4.alloc (.cells #[.slice A l.length c, .slice AD lD.length cD] 22)).heap.size) v m := fun {v m} hv =>
      (hv.below ((Below.refl _ w4).alloc (Nat.le_refl _) _) (Nat.le_refl _)).up (by simp)
    refine ⟨fun k hk2 => ?_⟩
    rcases (show k = 0 ∨ k = 1 by omega) with rfl | rfl
    · exact ⟨_, l, by rw [(Blk.new w4 22 _).cell]; rfl, hk hl4, hm⟩
    · exact ⟨_, lD, by rw [(Blk.new w4 22 _).cell]; rfl, hk hD.slt, by omega⟩
  have hb5 : Below w.heap.size w (w4.alloc (.cells #[.slice A l.length c, .slice AD lD.length cD] 22)) := (hb1.trans (hb4.mono hb1.size)).alloc (Nat.le_trans hb1.size hb4.size) _
  obtain ⟨W5, hW5⟩ : ∃ W5, w4.alloc (.cells #[.slice A l.length c, .slice AD lD.length cD] 22) = W5 := ⟨_, rfl⟩
  rw [hW5] at hduo hb5
  have HW5 := keep hW5
  clear hW5
  go_wp2_with fail
  rw [HW5.out]
  obtain ⟨g5, hg5⟩ : ∃ g5, w4.heap.size = g5 := ⟨_, rfl⟩
  rw [hg5] at hduo ⊢
  have hg5l : g5 < W5.heap.size := by rw [← HW5.out, ← hg5]; simp
  clear hg5 HW5 hl4 hD hC hC3 hC4 hg3 hg4 hb4 hb2 hb1 hs h
  go_loopw [11, 12, 13, 14, 15, 17, 18, 19, 20, 21, 33] (fun _ _ _ _ _ _ _ _ _ _ i wr => ∃ k : Nat, i = .int .i64 k ∧ k ≤ 2 ∧ Below W5.heap.size W5 wr) (fun _ _ _ _ _ _ _ _ _ _ i _ => 2 - (intOf i).toNat)
  case atStart => exact ⟨0, rfl, by omega, Below.refl _ _⟩
  case round =>
    obtain ⟨k, rfl, hk, hb⟩ := hrel
    by_cases hlt : k < 2
    · obtain ⟨v, m, hcell, hv, hml⟩ := hduo.h k hlt
      have hcell' := (hb.cell (p := ⟨g5, k, none⟩) hg5l).trans hcell
      have hv' : BSl wr (lt wr.heap.size) v m := (hv.below hb (Nat.le_refl _)).up hb.size
      obtain ⟨Am, cm, rfl, hcm2, hv'⟩ := hv'.forms
      have k0 : (0 : Int) ≤ (k : Int) := by omega
      have k1 : (k : Int) < (2 : Int) := by omega
      clear hcell hv
      go_wp2_with fail
      refine (text_any _ m _ hv' (by omega)).mono ?_
      rintro e w6 ⟨rfl, hb6⟩
      have hv6 := (hv'.below hb6 (Nat.le_refl _)).up hb6.size
      obtain ⟨r1, hr1'⟩ : ∃ r1, (rep (stripB m)).1 = r1 := ⟨_, rfl⟩
      obtain ⟨r2, hr2'⟩ : ∃ r2, (rep (stripB m)).2 = r2 := ⟨_, rfl⟩
      have HR := keep (And.intro hr1' hr2')
      rw [hr1', hr2']
      clear hr1' hr2'
      go_wp2_with fail
      refine (textRef_any _ m _ hv6 (by omega)).mono ?_
      rintro e w7 ⟨rfl, hb7⟩
      rw [HR.out.1, HR.out.2]
      have hv7 := (hv6.below hb7 (Nat.le_refl _)).up hb7.size
      have e2 : ((r2 : Int) != (r2 : Int)) = false := by simp
      have hb7' : Below W5.heap.size W5 w7 := (hb.trans (hb6.mono hb.size)).trans (hb7.mono (Nat.le_trans hb.size hb6.size))
      go_wp2_with fail
      refine (makeMod off _ _ (by omega)).mono ?_
      rintro e w8 ⟨o1, rfl, -, -, rfl⟩
      go_wp2_with fail
      refine (makeMod lim 40 _ (by omega)).mono ?_
      rintro e w8 ⟨o2, rfl, -, -, rfl⟩
      have htri : Tri (w7.alloc (.cells #[.int .i64 off, .int .i64 lim, .int .i64 o1, .int .i64 o2, .int .i64 0, .int .i64 2000] 31)) w7.heap.size := Tri.new w7 _ _ _ _ _ _
      have hb8 : Below W5.heap.size W5 (w7.alloc (.cells #[.int .i64 off, .int .i64 lim, .int .i64 o1, .int .i64 o2, .int .i64 0, .int .i64 2000] 31)) := hb7'.alloc hb7'.size _
      have hv8 : BSl (w7.alloc (.cells #[.int .i64 off, .int .i64 lim, .int .i64 o1, .int .i64 o2, .int .i64 0, .int .i64 2000] 31)) (lt (w7.alloc (.cells #[.int .i64 off, .int .i64 lim, .int .i64 o1, .int .i64 o2, .int .i64 0, .int .i64 2000] 31)).heap.size) (.slice Am m.length cm) m := (hv7.below ((Below.refl _ w7).alloc (Nat.le_refl _) _) (Nat.le_refl _)).up (by simp)
      obtain ⟨W8, hW8⟩ : ∃ W8, w7.alloc (.cells #[.int .i64 off, .int .i64 lim, .int .i64 o1, .int .i64 o2, .int .i64 0, .int .i64 2000] 31) = W8 := ⟨_, rfl⟩
      have hg8l : w7.heap.size < W8.heap.size := by rw [← hW8]; simp
      rw [hW8] at htri hb8 hv8
      have HW8 := keep hW8
      clear hW8
      go_wp2_with fail
      rw [HW8.out]
      obtain ⟨g8, hg8⟩ : ∃ g8, w7.heap.size = g8 := ⟨_, rfl⟩
      rw [hg8] at htri hg8l ⊢
      clear hg8 HW8 hb7' hv7 hb7 hv6 hb6 hv' hcell'
      go_loopw [17, 18, 19, 20, 21, 69] (fun _ _ _ _ _ i wr => ∃ j : Nat, i = .int .i64 j ∧ j ≤ 3 ∧ Below W8.heap.size W8 wr) (fun _ _ _ _ _ i _ => 3 - (intOf i).toNat)
      case atStart => exact ⟨0, rfl, by omega, Below.refl _ _⟩
      case round =>
        obtain ⟨j, rfl, hj, hbi⟩ := hrel
        by_cases hjt : j < 3
        · obtain ⟨x, y, hx, hy⟩ := htri.h j hjt
          have hx' := (hbi.cell (p := ⟨g8, j * 2, none⟩) hg8l).trans hx
          have hy' := (hbi.cell (p := ⟨g8, j * 2 + 1, none⟩) hg8l).trans hy
          have hvA : ∀ ob, BSl (wr.alloc ob) (lt (wr.alloc ob).heap.size) (.slice Am m.length cm) m := fun ob => (hv8.below (hbi.trans (((Below.refl _ wr).alloc (Nat.le_refl _) ob).mono hbi.size)) (Nat.le_refl _)).up (by have := hbi.size; simp; omega)
          have hbA : ∀ ob, Below W8.heap.size W8 (wr.alloc ob) := fun ob => hbi.alloc hbi.size _
          have j0 : (0 : Int) ≤ (j : Int) := by omega
          have j1 : (j : Int) < (3 : Int) := by omega
          have HBA := keep hbA
          have HVA := keep hvA
          clear hx hy hbA hvA
          go_wp2_with fail
          refine (frame_any _ m x y _ (HVA.out _) (by omega)).mono ?_
          rintro e w9 ⟨v1, rfl, hrow1, hb9⟩
          have hz1 : (w9.cell? ⟨wr.heap.size, 0, none⟩ = some (.int .i64 x)) ∧ (w9.cell? ⟨wr.heap.size, 1, none⟩ = some (.int .i64 y)) := by
            have hbk := (Blk.new wr 31 #[.int .i64 x, .int .i64 y]).below hb9 (by simp)
            exact ⟨by rw [hbk.cell]; rfl, by rw [hbk.cell]; rfl⟩
          obtain ⟨z0, z1⟩ := hz1
          have hv9 := ((HVA.out (.cells #[.int .i64 x, .int .i64 y] 31)).below hb9 (Nat.le_refl _)).up hb9.size
          obtain ⟨n, hn⟩ : ∃ n, frEnd m x = n := ⟨_, rfl⟩
          rw [hn]
          have HN := keep hn
          clear hn
          go_wp2_with fail
          refine (frame_ref m x y v1 _ _ _ hv9 (by omega) hrow1).mono ?_
          rintro e w10 ⟨v2, rfl, hb10, hS⟩
          rw [HN.out]
          have e3 : ((n : Int) != (n : Int)) = false := by simp
          go_wp2_with fail
          refine hS.mono ?_
          rintro e w11 ⟨rfl, hb11⟩
          have hbf : Below W8.heap.size W8 w11 := ((HBA.out (.cells #[.int .i64 x, .int .i64 y] 31)).trans (hb9.mono (HBA.out _).size)).trans ((hb10.mono (Nat.le_trans (HBA.out _).size hb9.size)).trans (hb11.mono (Nat.le_trans (Nat.le_trans (HBA.out _).size hb9.size) hb10.size)))
          have HBF := keep hbf
          clear hbf hb9 hb10 hb11 hv9 hrow1 hS
          go_wp2_with fail
          go_roundw
          case rel => exact ⟨j + 1, by go_num, by omega, HBF.out⟩
          case measure => simp [intOf]; omega
        · obtain rfl : j = 3 := by omega
          go_wp2_with fail
          go_roundw
          case rel => exact ⟨k + 1, by go_num, by omega, hb8.trans (hbi.mono hb8.size)⟩
          case measure => simp [intOf]; omega
    · obtain rfl : k = 2 := by omega
      go_wp2_with fail
      go_ret
      exact ⟨rfl, hb5.trans (hb.mono hb5.size)⟩
end Go.Proofs.Ytimldjlegbdldaa
