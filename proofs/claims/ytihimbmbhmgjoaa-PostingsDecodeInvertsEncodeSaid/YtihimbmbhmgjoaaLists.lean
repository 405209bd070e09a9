/- The posting lists that the statements draw: strictly ascending, from 0 to 4095. -/
import Derived.Test.YtihimbmbhmgjoaaMerge
import Derived.Test.YtihimbmbhmgjoaaDraw
import Derived.Test.YtihimbmbhmgjoaaSameInts
namespace Go.Proofs.Ytihimbmbhmgjoaa
open Go.RowKit

def Post (l : List Int) : Prop := Asc l ∧ (∀ x ∈ l, 0 ≤ x ∧ x < 4096) ∧ l.length ≤ 100
def DrawRes (w : World) (gc : Nat) (e : Ending) (w' : World) : Prop :=
  ∃ (v : Value) (l : List Int), e = .returned v ∧ Post l ∧ w'.ownsRow w.heap.size 3 1 v l.length (l.map (.int .i64)) ∧ Codes w' gc ∧ w.grownBy w' (some gc)
theorem asc_snoc {l : List Int} {x y : Int} (h : Asc l) (hx : ∀ z ∈ l, z ≤ x) (hy : x < y) : Asc (l ++ [y]) := by
  unfold Asc at *
  rw [List.pairwise_append]
  exact ⟨h, by simp, fun a ha b hb => by simp at hb; subst hb; have := hx a ha; omega⟩

set_option maxHeartbeats 1000000 in
theorem draw_any (gc : Nat) (w : World) (h : Codes w gc) : Calls Try.prog 33 #[.pointer (some ⟨gc, 0, none⟩)] w (DrawRes w gc) := by
  have hl := h.lt_
  go_enter Try.func33, Try.ntmps33
  go_wp2_with fail
  refine (drawNext gc _ _ h (by omega) (by omega)).mono ?_
  rintro e w1 ⟨r, rfl, r0, r1, _, hC1, hg1⟩
  have r2 := r1 (by omega)
  clear r1
  go_wp2_with fail
  refine (drawNext gc _ _ hC1 (by omega) (by omega)).mono ?_
  rintro e w2 ⟨q, rfl, q0, q1, _, hC2, hg2⟩
  have q2 := q1 (by omega)
  clear q1
  go_wp2_with fail
  go_loopw [3, 4, 5] (fun v x n wr => ∃ (l : List Int) (xi m : Int), x = .int .i64 xi ∧ n = .int .i64 m ∧ 0 ≤ m ∧ (l.length : Int) + m ≤ q ∧ xi + 2000 * m ≤ 200020 ∧ -1 ≤ xi ∧ Asc l ∧ (∀ z ∈ l, 0 ≤ z ∧ z < 4096) ∧ (∀ z ∈ l, z ≤ xi) ∧
      wr.ownsRow w.heap.size 3 1 v l.length (l.map (.int .i64)) ∧ Codes wr gc ∧ w.grownBy wr (some gc))
    (fun _ _ n _ => (intOf n).toNat)
  case atStart => exact ⟨[], _, q, rfl, rfl, q0, by simp, by omega, by omega, by simp [Asc], by simp, by simp, World.ownsRow_nil _ _ _ _, hC2, grownBy_trans hg1 hg2⟩
  case round =>
    obtain ⟨l, xi, m, rfl, rfl, hm0, hlm, hxm, hx1, hasc, hrng, hle, hown, hC, hg⟩ := hrel
    have hRng := keep hrng
    have hLe := keep hle
    clear hrng hle hC1 hC2 hg1 hg2
    by_cases hp : 0 < m
    · have hd : decide (0 < m) = true := by simpa using hp
      go_wp2_with fail
      refine (drawNext gc _ _ hC (by omega) (by omega)).mono ?_
      rintro e w3 ⟨s, rfl, s0, s1, _, hC3, hg3⟩
      have s2 := s1 (by omega)
      clear s1
      go_wp2_with fail
      refine (drawNext gc _ _ hC3 (by omega) (by omega)).mono ?_
      rintro e w4 ⟨t, rfl, t0, t1, _, hC4, hg4⟩
      clear t1
      have hown4 := own_grown (own_grown hown hg3 hl) hg4 hl
      have hgw4 := grownBy_trans (grownBy_trans hg hg3) hg4
      clear hC hC3 hg hg3 hg4 hown
      by_cases h19 : t = 19
      · have d19 : (t == 19) = true := by simpa using h19
        clear h19
        go_wp2_with fail
        refine (drawNext gc _ _ hC4 (by omega) (by omega)).mono ?_
        rintro e w5 ⟨u, rfl, u0, u1, _, hC5, hg5⟩
        have u2 := u1 (by omega)
        have hown5 := own_grown hown4 hg5 hl
        have hgw5 := grownBy_trans hgw4 hg5
        clear u1 hC4 hg5 hown4 hgw4
        by_cases hin : xi + (1 + s) + u * 4 < 4096
        · have hn1 : decide (xi + (1 + s) + u * 4 < 4096) = true := by simpa using hin
          have hn2 : decide (0 ≤ xi + (1 + s) + u * 4) = true := by simp; omega
          go_wp2_with (refine wpList_push1 el26 rfl rfl _ _ _ rfl rfl rfl w.heap.size _ _ _ _ rfl (fun _ => rfl) (fun _ => rfl) hown5 rfl (by unfold maxLen; omega) (by omega) hgw5.size ?_; intro g cap w6 hown6 hb6 _ _ _)
          go_roundw
          case rel =>
            refine ⟨l ++ [xi + (1 + s) + u * 4], _, m - 1, rfl, by go_num, by omega, by simp; omega, by omega, by omega, asc_snoc hasc hLe.out (by omega), ?_, ?_, own_snoc (Value.int .i64) l _ hown6, hC5.under hb6 hl, grownBy_below hgw5 hb6⟩
            · intro z hz; rcases List.mem_append.1 hz with hz | hz
              · exact hRng.out z hz
              · simp at hz; subst hz; omega
            · intro z hz; rcases List.mem_append.1 hz with hz | hz
              · have := hLe.out z hz; omega
              · simp at hz; omega
          case measure => simp [intOf]; omega
        · have hn1 : decide (xi + (1 + s) + u * 4 < 4096) = false := by simpa using hin
          go_wp2_with fail
          go_roundw
          case rel => exact ⟨l, _, m - 1, rfl, by go_num, by omega, by omega, by omega, by omega, hasc, hRng.out, fun z hz => by have := hLe.out z hz; omega, hown5, hC5, hgw5⟩
          case measure => simp [intOf]; omega
      · have d19 : (t == 19) = false := by simpa using h19
        clear h19
        by_cases hin : xi + (1 + s) < 4096
        · have hn1 : decide (xi + (1 + s) < 4096) = true := by simpa using hin
          have hn2 : decide (0 ≤ xi + (1 + s)) = true := by simp; omega
          go_wp2_with (refine wpList_push1 el26 rfl rfl _ _ _ rfl rfl rfl w.heap.size _ _ _ _ rfl (fun _ => rfl) (fun _ => rfl) hown4 rfl (by unfold maxLen; omega) (by omega) hgw4.size ?_; intro g cap w6 hown6 hb6 _ _ _)
          go_roundw
          case rel =>
            refine ⟨l ++ [xi + (1 + s)], _, m - 1, rfl, by go_num, by omega, by simp; omega, by omega, by omega, asc_snoc hasc hLe.out (by omega), ?_, ?_, own_snoc (Value.int .i64) l _ hown6, hC4.under hb6 hl, grownBy_below hgw4 hb6⟩
            · intro z hz; rcases List.mem_append.1 hz with hz | hz
              · exact hRng.out z hz
              · simp at hz; subst hz; omega
            · intro z hz; rcases List.mem_append.1 hz with hz | hz
              · have := hLe.out z hz; omega
              · simp at hz; omega
          case measure => simp [intOf]; omega
        · have hn1 : decide (xi + (1 + s) < 4096) = false := by simpa using hin
          go_wp2_with fail
          go_roundw
          case rel => exact ⟨l, _, m - 1, rfl, by go_num, by omega, by omega, by omega, by omega, hasc, hRng.out, fun z hz => by have := hLe.out z hz; omega, hown4, hC4, hgw4⟩
          case measure => simp [intOf]; omega
    · have hd : decide (0 < m) = false := by simpa using hp
      go_wp2_with fail
      go_ret
      exact ⟨_, l, rfl, ⟨hasc, hRng.out, by omega⟩, hown, hC, hg⟩

theorem el24 : Elem Try.prog 24 26 1 24 (.slice none 0 0) := ⟨Try.underlying24, by kernel_rfl, rfl, by decide⟩

/-- Slice values that read as posting lists, one by one. -/
def Each (w : World) (S : Nat → Prop) : List Value → List (List Int) → Prop
  | [], [] => True
  | v :: vs, l :: ls => (∃ A c, v = .slice A l.length c) ∧ Sl w S 1 v l.length (l.map (.int .i64)) ∧ Post l ∧ Each w S vs ls
  | _, _ => False
theorem Each.imp {w w' : World} {S S' : Nat → Prop} : ∀ {vs : List Value} {ls : List (List Int)}, Each w S vs ls → (∀ (v : Value) (n : Nat) (xs : List Value), Sl w S 1 v n xs → Sl w' S' 1 v n xs) → Each w' S' vs ls
  | [], [], _, _ => trivial
  | _ :: _, _ :: _, ⟨h0, h1, h2, h3⟩, hi => ⟨h0, hi _ _ _ h1, h2, h3.imp hi⟩
theorem Each.snoc {w : World} {S : Nat → Prop} {v : Value} {l : List Int} (hv : ∃ A c, v = .slice A l.length c) (hs : Sl w S 1 v l.length (l.map (.int .i64))) (hp : Post l) :
    ∀ {vs : List Value} {ls : List (List Int)}, Each w S vs ls → Each w S (vs ++ [v]) (ls ++ [l])
  | [], [], _ => ⟨hv, hs, hp, trivial⟩
  | _ :: _, _ :: _, ⟨h0, h1, h2, h3⟩ => ⟨h0, h1, h2, h3.snoc hv hs hp⟩
theorem Each.len {w : World} {S : Nat → Prop} : ∀ {vs : List Value} {ls : List (List Int)}, Each w S vs ls → vs.length = ls.length
  | [], [], _ => rfl
  | _ :: _, _ :: _, ⟨_, _, _, h3⟩ => by simp [h3.len]

/-- A new slice of posting lists. -/
def ListsRes (w : World) (n : Nat) (e : Ending) (w' : World) : Prop :=
  ∃ (v : Value) (vs : List Value) (ls : List (List Int)), e = .returned v ∧ vs.length = n ∧ Each w' (btw w.heap.size w'.heap.size) vs ls ∧ w'.ownsRow w.heap.size 26 1 v n vs ∧ Below w.heap.size w w'

theorem lists_any (vc : Value) (bs : List Int) (n : Nat) (w : World) (hs : Sl w (lt w.heap.size) 1 vc bs.length (bs.map (.int .u8))) (hr : ∀ x ∈ bs, 0 ≤ x ∧ x ≤ 255) (hm : bs.length ≤ maxLen) (hn : n ≤ 1000) :
    Calls Try.prog 11 #[vc, .int .i64 n] w (ListsRes w n) := by
  go_enter Try.func11, Try.ntmps11
  go_wp2_with fail
  refine (drawNew vc bs 400 _ hs hr (by omega) hm).mono ?_
  rintro e w1 ⟨gc, rfl, hgc, hC1, hb1⟩
  have hgl := hC1.lt_
  go_wp2_with fail
  go_loopw [1, 6] (fun m v wr => ∃ (k : Nat) (vs : List Value) (ls : List (List Int)), m = .int .i64 ((n : Int) - k) ∧ k ≤ n ∧ vs.length = k ∧ Each wr (fun b => w1.heap.size ≤ b ∧ b < wr.heap.size ∧ some b ≠ v.ownBlock) vs ls ∧ wr.ownsRow w1.heap.size 26 1 v k vs ∧ Codes wr gc ∧ w1.grownBy wr (some gc))
    (fun m _ _ => (intOf m).toNat)
  case atStart => exact ⟨0, [], [], by simp, Nat.zero_le _, rfl, trivial, World.ownsRow_nil _ _ _ _, hC1, World.grownBy.refl _ _⟩
  case round =>
    obtain ⟨k, vs, ls, rfl, hk, hvk, hE, hown, hC, hg⟩ := hrel
    have hVK := keep hvk
    clear hvk
    have hz := hg.size
    by_cases hlt : k < n
    · have hd : decide (0 < (n : Int) - k) = true := by simp; omega
      have hd' : 0 < (n : Int) - k := by omega
      go_wp2_with fail
      refine (draw_any gc _ hC).mono ?_
      rintro e w2 ⟨v2, l2, rfl, hP2, hown2, hC2, hg2⟩
      have hz2 := hg2.size
      have hS2 := Sl.of_own_btw hown2
      obtain ⟨A2, c2, rfl, _, hS2⟩ := hS2.form
      have hownk := own_grown hown hg2 hgl
      have hol := fun k (e : u6.ownBlock = some k) => (hown.lt k e).2
      have hgk := grownBy_trans hg hg2
      have hE2 := hE.imp (w' := w2) (S' := fun b => w1.heap.size ≤ b ∧ b < wr.heap.size ∧ some b ≠ u6.ownBlock) (fun v n xs h => h.grown hg2 (fun b hb => ⟨hb.2.1, fun e => by have := hb.1; injection e; omega⟩))
      clear hown hg hE hown2 hg2 hC
      go_wp2_with (refine wpList_push1 el24 rfl rfl _ _ _ rfl rfl rfl w1.heap.size _ _ _ _ rfl (fun _ => rfl) (fun _ => rfl) hownk rfl (by unfold maxLen; omega) (by omega) hgk.size ?_; intro g cap w3 hown3 hb3 hg3 hor hgl3)
      go_roundw
      case rel =>
        have hz3 := hg3.size
        refine ⟨k + 1, _, ls ++ [l2], by go_num, by omega, by simp; exact hVK.out, ?_, hown3, hC2.under hb3 hgl, grownBy_below hgk hb3⟩
        refine Each.snoc ⟨A2, c2, rfl⟩ ?_ hP2 (hE2.imp (fun v n xs h => (h.grown hg3 (fun b hb => ⟨by have := hb.2.1; omega, hb.2.2⟩)).mono (fun b hb => ?_)))
        · refine (hS2.grown hg3 (fun b hb => ⟨hb.2, fun e => ?_⟩)).mono (fun b hb => ⟨by have := hb.1; omega, by have := hb.2; omega, fun e => ?_⟩)
          · have := hol b e.symm; have := hb.1; omega
          · have he : b = g := by simpa [Value.ownBlock] using e
            subst he
            have h1 := hb.1
            have h2 := hb.2
            rcases hor with h | h
            · have := hol b h; omega
            · omega
        · refine ⟨hb.1, by have := hb.2.1; omega, fun e => ?_⟩
          have he : b = g := by simpa [Value.ownBlock] using e
          subst he
          rcases hor with h | h
          · exact hb.2.2 h.symm
          · have := hb.2.1; omega
      case measure => simp [intOf]; omega
    · obtain rfl : k = n := by omega
      have hd : decide (0 < (k : Int) - k) = false := by simp
      go_wp2_with fail
      go_ret
      exact ⟨_, vs, ls, rfl, hVK.out, hE.imp (fun v n xs h => h.mono (fun b hb => ⟨by have := hb.1; have := hb1.size; omega, hb.2.1⟩)), own_base hown hb1.size, below_grown hb1 hg hb1.size hgc⟩
end Go.Proofs.Ytihimbmbhmgjoaa
