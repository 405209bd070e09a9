/- Contracts of the making functions Fields and Lines: fields and lines of the call's own. -/
import Derived.Test.YtncmbdcicjolcaaDoorMakeText
namespace Go.Proofs.YtncmbdcicjolcaaDoor
open Go.RowKit

/-- The cells of a field, and of a line. -/
def fdV (p : ByteArray × ByteArray) : List Value := [.string p.1, .string p.2]
def lnV (p : Int × Int × ByteArray) : List Value := [.int .i64 p.1, .int .i64 p.2.1, .string p.2.2]
theorem elField : Elem Tryd.prog 46 76 2 32 (.agg #[.string ⟨#[]⟩, .string ⟨#[]⟩]) := ⟨Tryd.underlying46, by kernel_rfl, rfl, by decide⟩
theorem elLine : Elem Tryd.prog 45 73 3 32 (.agg #[.int .i64 0, .int .i64 0, .string ⟨#[]⟩]) := ⟨Tryd.underlying45, by kernel_rfl, rfl, by decide⟩
theorem own_grownG {w w' : World} {base e size n g : Nat} {v : Value} {xs : List Value} (h : w.ownsRow base e size v n xs) (hg : w.grownBy w' (some g)) (hgb : g < base) : w'.ownsRow base e size v n xs := own_grown h hg hgb

theorem own_cellsK {w : World} {B e size k : Nat} {v : Value} {xs : List Value} (h : w.ownsRow B e size v k xs) : ∀ i, v.ownBlock = some i → ∃ cur, w.heap[i]? = some (.cells cur e (0, 0)) := by
  intro i hi
  rcases h.2 with ⟨rfl, _⟩ | ⟨g, cap, cur, rfl, _, hg, _⟩
  · cases hi
  · obtain rfl : g = i := by simpa [Value.ownBlock] using hi
    exact ⟨cur, hg⟩
theorem blk_apart {w : World} {b t B e size k : Nat} {cs : Array Value} {v : Value} {xs : List Value} (ht : t ≠ e) (hB : Blk w b t cs) (h : w.ownsRow B e size v k xs) : some b ≠ v.ownBlock := by
  intro he
  obtain ⟨cur, hc⟩ := own_cellsK h b he.symm
  rw [show w.heap[b]? = _ from hB] at hc
  injection hc with hc
  injection hc with _ h2 _
  exact ht h2
def FieldsRes (w : World) (gc : Nat) (e : Ending) (w' : World) : Prop :=
  ∃ (v : Value) (F : List (ByteArray × ByteArray)), e = .returned v ∧ w'.ownsRow w.heap.size 76 2 v F.length (F.flatMap fdV) ∧ F.length ≤ 4 ∧ Codes w' gc ∧ w.grownBy w' (some gc)
def strAt : Option Value → Bool
  | some (.string _) => true
  | _ => false
theorem strAt_ex {v : Option Value} (h : strAt v = true) : ∃ s : ByteArray, v = some (.string s) := by
  match v, h with
  | some (.string s), _ => exact ⟨s, rfl⟩
theorem fd_push {w : World} {B : Nat} {v : Value} (F : List (ByteArray × ByteArray)) (s t : ByteArray) (h : w.ownsRow B 76 2 v (F.length + 1) (F.flatMap fdV ++ [.string s, .string t])) :
    w.ownsRow B 76 2 v (F ++ [(s, t)]).length ((F ++ [(s, t)]).flatMap fdV) := by
  rw [List.length_append, List.flatMap_append]; exact h
theorem ln_push {w : World} {B : Nat} {v : Value} (F : List (Int × Int × ByteArray)) (a b : Int) (t : ByteArray) (h : w.ownsRow B 73 3 v (F.length + 1) (F.flatMap lnV ++ [.int .i64 a, .int .i64 b, .string t])) :
    w.ownsRow B 73 3 v (F ++ [(a, b, t)]).length ((F ++ [(a, b, t)]).flatMap lnV) := by
  rw [List.length_append, List.flatMap_append]; exact h

set_option maxHeartbeats 2000000 in
theorem makeFields (gc : Nat) (w : World) (h : Codes w gc) :
    Calls Tryd.prog 40 #[.pointer (some ⟨gc, 0, none⟩)] w (FieldsRes w gc) := by
  have hl := h.lt_
  go_enter Tryd.func40, Tryd.ntmps40
  go_wp2_with fail
  obtain ⟨cs, hcs⟩ : ∃ cs : Array Value, cs = #[.string ⟨#[97]⟩, .string ⟨#[105, 100]⟩, .string ⟨#[108, 101, 118, 101, 108]⟩, .string ⟨#[117, 115, 101, 114]⟩] := ⟨_, rfl⟩
  have hall : ((List.range 4).all fun i => strAt cs[i]?) = true := by rw [hcs]; rfl
  have hbk := Blk.new w 9 cs
  rw [← hcs]
  have HCS := keep hcs
  clear hcs
  go_loopw [3, 5, 8] (fun v _ i wr => ∃ (k : Nat) (F : List (ByteArray × ByteArray)), i = .int .i64 k ∧ k ≤ 4 ∧ F.length ≤ k ∧ wr.ownsRow w.heap.size 76 2 v F.length (F.flatMap fdV) ∧ Codes wr gc ∧ w.grownBy wr (some gc) ∧ Blk wr w.heap.size 9 cs)
    (fun _ _ i _ => 4 - (intOf i).toNat)
  case atStart => exact ⟨0, [], rfl, by omega, by simp, World.ownsRow_nil _ _ _ _, h.alloc _, World.grownBy_alloc _ _ _, hbk⟩
  case round =>
    obtain ⟨k, F, rfl, hk, hF, hown, hC, hG, hB⟩ := hrel
    have hzz := hG.size
    have hbl := hB.lt
    by_cases hlt : k < 4
    · obtain ⟨s, hs⟩ := strAt_ex (List.all_eq_true.1 hall k (by simpa using hlt))
      have hcell : wr.cell? ⟨w.heap.size, k, none⟩ = some (.string s) := (hB.cell k).trans hs
      have k0 : (0 : Int) ≤ (k : Int) := by omega
      have k1 : (k : Int) < (4 : Int) := by omega
      clear hs
      go_wp2_with fail
      refine (drawNext gc 3 _ hC (by omega) (by omega)).mono ?_
      rintro e w1 ⟨r, rfl, r0, r1, _, hC1, hg1⟩
      have hown1 := own_grown hown hg1 hl
      have hG1 := grownBy_trans hG hg1
      have hB1 := hB.grown hg1 (fun e => by injection e; omega)
      clear hC hown hB hcell r1 hG hg1
      by_cases hr : 0 < r
      · have dr : decide (0 < r) = true := by simpa using hr
        go_wp2_with fail
        refine (pick_lit gc _ _ _ hC1 (by rfl) (by omega) (by omega)).mono ?_
        rintro e w2 ⟨s2, rfl, hs2, hC2, hg2⟩
        have hown2 := own_grown hown1 hg2 hl
        have hG2 := grownBy_trans hG1 hg2
        have hB2 := hB1.grown hg2 (fun e => by injection e; omega)
        have hbd : F.length + 1 ≤ maxLen := by unfold maxLen; omega
        have hz2 : w.heap.size ≤ w2.heap.size := hG2.size
        clear hown1 hB1 hC1
        go_wp2_with (refine wpList_push elField rfl rfl _ _ 21 rfl rfl rfl w.heap.size u3 (.agg #[.string s, .string s2]) F.length _ rfl (fun _ => rfl) (fun _ => rfl) hown2 rfl (by intro c hc; simp [Value.cells] at hc; rcases hc with rfl | rfl <;> rfl) (by decide) hbd (by omega) hz2 ?_; intro g9 cap9 w9 hown9 hb9 hg9 _ _; have hC9 := hC2.under hb9 hl; have hG9 := grownBy_below hG2 hb9; have hB9 := hB2.grown hg9 (blk_apart (by decide) hB2 hown2))
        go_roundw
        case rel => exact ⟨k + 1, F ++ [(s, s2)], by go_num, by omega, by rw [List.length_append]; simp; omega, fd_push F s s2 hown9, hC9, hG9, hB9⟩
        case measure => simp [intOf]; omega
      · have dr : decide (0 < r) = false := by simpa using hr
        go_wp2_with fail
        go_roundw
        case rel => exact ⟨k + 1, F, by go_num, by omega, by omega, hown1, hC1, hG1, hB1⟩
        case measure => simp [intOf]; omega
    · obtain rfl : k = 4 := by omega
      go_wp2_with fail
      go_ret
      exact ⟨_, F, rfl, hown, hF, hC, hG⟩

def LinesMRes (w : World) (gc most : Nat) (e : Ending) (w' : World) : Prop :=
  ∃ (v : Value) (L : List (Int × Int × ByteArray)), e = .returned v ∧ w'.ownsRow w.heap.size 73 3 v L.length (L.flatMap lnV) ∧ 1 ≤ L.length ∧ L.length ≤ most ∧ (∀ p ∈ L, 0 ≤ p.1 ∧ p.1 ≤ 1000000 ∧ 0 ≤ p.2.1 ∧ p.2.1 ≤ 20) ∧ Codes w' gc ∧ w.grownBy w' (some gc)
theorem own_set {w : World} {base e size n g : Nat} {v : Value} {xs : List Value} (h : w.ownsRow base e size v n xs) (hne : v.ownBlock ≠ some g) (i : Nat) (u : Value) : (w.setCell ⟨g, i, none⟩ u).ownsRow base e size v n xs :=
  h.kept (row := some g) (grownBy_set (World.grownBy.refl w (some g)) i _) (.inr hne)
set_option maxHeartbeats 2000000 in
theorem makeLinesM (gc : Nat) (from_ : Int) (most : Nat) (w : World) (h : Codes w gc) (h0 : 0 ≤ from_) (h1 : from_ ≤ 100000) (hm : most ≤ 100) (hm1 : 1 ≤ most) :
    Calls Tryd.prog 41 #[.pointer (some ⟨gc, 0, none⟩), .int .i64 from_, .int .i64 most, .bool true] w (LinesMRes w gc most) := by
  have hl := h.lt_
  go_enter Tryd.func41, Tryd.ntmps41
  go_wp2_with fail
  refine (drawNext gc _ _ h (by omega) (by omega)).mono ?_
  rintro e w1 ⟨r, rfl, r0, r1, _, hC1, hg1⟩
  have r2 := r1 (by omega)
  clear r1
  go_wp2_with fail
  go_loopw [1, 9, 10, 11] (fun f v n _ wr => ∃ (j : Nat) (x : Int) (L : List (Int × Int × ByteArray)), n = .int .i64 j ∧ Hid ((j : Int) + L.length = 1 + r ∧ 0 ≤ x ∧ x ≤ 100000 + 20 * L.length) ∧ f = .int .i64 x ∧ (∀ p ∈ L, 0 ≤ p.1 ∧ p.1 ≤ 1000000 ∧ 0 ≤ p.2.1 ∧ p.2.1 ≤ 20) ∧
      wr.ownsRow w.heap.size 73 3 v L.length (L.flatMap lnV) ∧ Codes wr gc ∧ w.grownBy wr (some gc)) (fun _ _ n _ _ => (intOf n).toNat)
  case atStart =>
    obtain ⟨q, rfl⟩ := Int.eq_ofNat_of_zero_le r0
    exact ⟨1 + q, from_, [], by go_num, keep ⟨by simp, h0, by simp; omega⟩, rfl, fun p hp => by simp at hp, World.ownsRow_nil _ _ _ _, hC1, hg1⟩
  case round =>
    obtain ⟨j, x, L, rfl, hI, rfl, hall, hown, hC, hG⟩ := hrel
    obtain ⟨i1, i2, i3⟩ := hI.out
    have hz := hG.size
    by_cases hj : 0 < j
    · have dj : decide (0 < (j : Int)) = true := by simpa using hj
      have dj' : decide (0 < j) = true := by simpa using hj
      have hLl : L.length ≤ 100 := by omega
      have HALL := keep hall
      clear hall
      go_wp2_with fail
      refine (drawNext gc 20 _ hC (by omega) (by omega)).mono ?_
      rintro e w2 ⟨q, rfl, q0, q1, _, hC2, hg2⟩
      have q2 := q1 (by omega)
      have hown2 := own_grown hown hg2 hl
      have hG2 := grownBy_trans hG hg2
      clear hown hC hG q1 hg2
      have hz2 := hG2.size
      have hx2 : Blk (w2.alloc (.cells #[.int .i64 x, .int .i64 (1 + q), .string ⟨#[]⟩] 73)) w2.heap.size 73 #[.int .i64 x, .int .i64 (1 + q), .string ⟨#[]⟩] := Blk.new _ _ _
      have hown3 := hown2.alloc (.cells #[.int .i64 x, .int .i64 (1 + q), .string ⟨#[]⟩] 73)
      have hne : u9.ownBlock ≠ some w2.heap.size := fun e => by have := (hown2.lt _ e).2; omega
      have hC3 := hC2.alloc (.cells #[.int .i64 x, .int .i64 (1 + q), .string ⟨#[]⟩] 73)
      have hG3 := grownBy_trans hG2 (World.grownBy_alloc w2 (.cells #[.int .i64 x, .int .i64 (1 + q), .string ⟨#[]⟩] 73) (some gc))
      obtain ⟨W3, hW3⟩ : ∃ W3, w2.alloc (.cells #[.int .i64 x, .int .i64 (1 + q), .string ⟨#[]⟩] 73) = W3 := ⟨_, rfl⟩
      rw [hW3] at hx2 hown3 hC3 hG3
      have HW3 := keep hW3
      obtain ⟨gx, hgx⟩ : ∃ gx, w2.heap.size = gx := ⟨_, rfl⟩
      clear hW3
      go_wp2_with fail
      rw [HW3.out]
      rw [hgx] at hx2 hne hz2
      clear HW3 hgx hown2 hC2 hG2
      refine (makeLine gc _ hC3).mono ?_
      rintro e w4 ⟨s, rfl, hs, hC4, hg4⟩
      have hgl : gc < w.heap.size := hl
      have hx4 := hx2.grown hg4 (fun e => by injection e with e; omega)
      have hown4 := own_grown hown3 hg4 hl
      have hG4 := grownBy_trans hG3 hg4
      have y2 : w4.cell? ⟨gx, 2, none⟩ = some (.string ⟨#[]⟩) := by rw [hx4.cell]; rfl
      have f2 := hx4.frozen 2
      have hx5 : Blk (w4.setCell ⟨gx, 2, none⟩ (.string s)) gx 73 #[.int .i64 x, .int .i64 (1 + q), .string s] := by simpa using hx4.set_ 2 (.string s)
      have hown5 := own_set hown4 hne 2 (.string s)
      have hb5 : Below w.heap.size w4 (w4.setCell ⟨gx, 2, none⟩ (.string s)) := (Below.refl _ _).setCell (p := ⟨gx, 2, none⟩) hz2 _
      have hC5 := hC4.under hb5 hgl
      have hG5 := grownBy_below hG4 hb5
      obtain ⟨W5, hW5⟩ : ∃ W5, w4.setCell ⟨gx, 2, none⟩ (.string s) = W5 := ⟨_, rfl⟩
      rw [hW5] at hx5 hown5 hC5 hG5
      have z0 : W5.cell? ⟨gx, 0, none⟩ = some (.int .i64 x) := by rw [hx5.cell]; rfl
      have z1 : W5.cell? ⟨gx, 1, none⟩ = some (.int .i64 (1 + q)) := by rw [hx5.cell]; rfl
      have z2 : W5.cell? ⟨gx, 2, none⟩ = some (.string s) := by rw [hx5.cell]; rfl
      have hbd : L.length + 1 ≤ maxLen := by unfold maxLen; omega
      have hzG := hG5.size
      have HW5 := keep hW5
      clear hx2 hown3 hC3 hG3 hg4 hx4 hown4 hG4 hb5 hW5 hC4
      go_upto_region 8 with fail
      rw [HW5.out]
      clear HW5 y2 f2
      go_wp2_with (refine wpList_push elLine rfl rfl _ _ 31 rfl rfl rfl w.heap.size u9 (.agg #[.int .i64 x, .int .i64 (1 + q), .string s]) L.length _ rfl (fun _ => rfl) (fun _ => rfl) hown5 rfl (by intro c hc; simp [Value.cells] at hc; rcases hc with rfl | rfl | rfl <;> rfl) (by decide) hbd (by omega) hzG ?_; intro g9 cap9 w9 hown9 hb9 hg9 _ _; have hx9 := hx5.grown hg9 (fun e => hne e.symm); have t1 : w9.cell? ⟨gx, 1, none⟩ = some (.int .i64 (1 + q)) := (by rw [hx9.cell]; rfl); have hC9 := hC5.under hb9 hgl; have hG9 := grownBy_below hG5 hb9)
      obtain ⟨j', rfl⟩ : ∃ j', j = j' + 1 := ⟨j - 1, by omega⟩
      go_roundw
      case rel => exact ⟨j', x + (1 + q), L ++ [(x, 1 + q, s)], by first | rfl | go_num, keep ⟨by rw [List.length_append]; simp; omega, by omega, by rw [List.length_append]; simp; omega⟩, by first | rfl | go_num, fun p hp => by
          rcases List.mem_append.1 hp with hp | hp
          · exact HALL.out p hp
          · rw [List.mem_singleton.1 hp]; dsimp only; omega, ln_push L x (1 + q) s hown9, hC9, hG9⟩
      case measure => simp [intOf]
    · obtain rfl : j = 0 := by omega
      go_wp2_with fail
      go_ret
      exact ⟨_, L, rfl, hown, by omega, by omega, hall, hC, hG⟩
end Go.Proofs.YtncmbdcicjolcaaDoor
