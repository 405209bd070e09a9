/- The contract of the making function Event. Its first statement draws the order of 26 operations: printed by wip/gen/event.py. -/
import Derived.Test.YtncmbdcicjolcaaDoorFields
import Derived.Test.YtncmbdcicjolcaaDoorSlots
namespace Go.Proofs.YtncmbdcicjolcaaDoor
open Go.RowKit

/-- An event's ten cells. -/
structure Ev where
  ho : Int
  fi : Int
  fr : Int
  to_ : Int
  ln : Value
  ti : Int
  wt : Int
  tr : ByteArray
  st : ByteArray
  fd : Value
def Ev.vals (e : Ev) : List Value := [.int .i64 e.ho, .int .i64 e.fi, .int .i64 e.fr, .int .i64 e.to_, e.ln, .int .i64 e.ti, .int .i64 e.wt, .string e.tr, .string e.st, e.fd]
/-- .. as the first statement makes it. -/
structure EvB (e : Ev) : Prop where
  fr : 0 ≤ e.fr ∧ e.fr ≤ 50
  to_ : e.to_ = 0
  ln : e.ln = .slice none 0 0
  wt : e.wt = 1 ∨ e.wt = 2 ∨ e.wt = 5040
  tr : e.tr.size ≤ 36
  st : e.st.size ≤ 36
/-- Pick at a list of strings in a block. -/
theorem pick_blk (gc g n : Nat) (cs : Array Value) (w : World) (h : Codes w gc) (hb : Blk w g 9 cs) (hne : g ≠ gc) (hall : ((List.range n).all fun i => shortStr cs[i]?) = true) (hn : 0 < n) (hn2 : n ≤ 1000) :
    Calls Tryd.prog 13 #[.pointer (some ⟨gc, 0, none⟩), .slice (some ⟨g, 0, none⟩) n n] w (WordRes w gc 36) := by
  go_enter Tryd.func13, Tryd.ntmps13
  go_wp2_with fail
  refine (drawNext gc _ _ h (by omega) (by omega)).mono ?_
  rintro e w2 ⟨r, rfl, r0, r1, _, hC2, hg2⟩
  obtain ⟨k, rfl⟩ := Int.eq_ofNat_of_zero_le r0
  have hk : k < n := by have := r1 (by omega); omega
  obtain ⟨s, hs, hsl⟩ := shortStr_get (List.all_eq_true.1 hall k (by simpa using hk))
  have hc : w2.cell? ⟨g, k, none⟩ = some (.string s) := ((hb.grown hg2 (fun e => hne (by injection e))).cell k).trans hs
  have hk' : (k : Int) < (n : Int) := by omega
  clear r1 hs
  go_wp2
  go_ret
  exact ⟨s, rfl, by omega, hC2, hg2⟩

theorem grownBy_setNew {a w : World} {g : Nat} {row : Option Nat} (h : a.grownBy w row) (hg : a.heap.size ≤ g) (i : Nat) (u : Value) : a.grownBy (w.setCell ⟨g, i, none⟩ u) row :=
  World.grownBy.andThen h (grownBy_set (World.grownBy.refl w (some g)) i u) (fun j hj => .inl (by injection hj with hj; omega))
/-- A block of ten cells stored over. -/
theorem ten_sets {w : World} {g : Nat} {t : TypeId} {b0 b1 b2 b3 b4 b5 b6 b7 b8 b9 : Value} (hb : Blk w g t #[b0, b1, b2, b3, b4, b5, b6, b7, b8, b9]) (v0 v1 v2 v3 v4 v5 v6 v7 v8 v9 : Value) :
    Blk ((((((((((w.setCell ⟨g, 0, none⟩ v0).setCell ⟨g, 1, none⟩ v1).setCell ⟨g, 2, none⟩ v2).setCell ⟨g, 3, none⟩ v3).setCell ⟨g, 4, none⟩ v4).setCell ⟨g, 5, none⟩ v5).setCell ⟨g, 6, none⟩ v6).setCell ⟨g, 7, none⟩ v7).setCell ⟨g, 8, none⟩ v8).setCell ⟨g, 9, none⟩ v9) g t #[v0, v1, v2, v3, v4, v5, v6, v7, v8, v9] ∧ w.grownBy ((((((((((w.setCell ⟨g, 0, none⟩ v0).setCell ⟨g, 1, none⟩ v1).setCell ⟨g, 2, none⟩ v2).setCell ⟨g, 3, none⟩ v3).setCell ⟨g, 4, none⟩ v4).setCell ⟨g, 5, none⟩ v5).setCell ⟨g, 6, none⟩ v6).setCell ⟨g, 7, none⟩ v7).setCell ⟨g, 8, none⟩ v8).setCell ⟨g, 9, none⟩ v9) (some g) := by
  have g0 := World.grownBy.refl w (some g)
  have s0 : Blk (w.setCell ⟨g, 0, none⟩ v0) g t #[v0, b1, b2, b3, b4, b5, b6, b7, b8, b9] := Blk.set_ hb 0 v0
  have g1 := grownBy_set g0 0 v0
  generalize w.setCell ⟨g, 0, none⟩ v0 = w0 at s0 g1 ⊢
  have s1 : Blk (w0.setCell ⟨g, 1, none⟩ v1) g t #[v0, v1, b2, b3, b4, b5, b6, b7, b8, b9] := Blk.set_ s0 1 v1
  have g2 := grownBy_set g1 1 v1
  generalize w0.setCell ⟨g, 1, none⟩ v1 = w1 at s1 g2 ⊢
  have s2 : Blk (w1.setCell ⟨g, 2, none⟩ v2) g t #[v0, v1, v2, b3, b4, b5, b6, b7, b8, b9] := Blk.set_ s1 2 v2
  have g3 := grownBy_set g2 2 v2
  generalize w1.setCell ⟨g, 2, none⟩ v2 = w2 at s2 g3 ⊢
  have s3 : Blk (w2.setCell ⟨g, 3, none⟩ v3) g t #[v0, v1, v2, v3, b4, b5, b6, b7, b8, b9] := Blk.set_ s2 3 v3
  have g4 := grownBy_set g3 3 v3
  generalize w2.setCell ⟨g, 3, none⟩ v3 = w3 at s3 g4 ⊢
  have s4 : Blk (w3.setCell ⟨g, 4, none⟩ v4) g t #[v0, v1, v2, v3, v4, b5, b6, b7, b8, b9] := Blk.set_ s3 4 v4
  have g5 := grownBy_set g4 4 v4
  generalize w3.setCell ⟨g, 4, none⟩ v4 = w4 at s4 g5 ⊢
  have s5 : Blk (w4.setCell ⟨g, 5, none⟩ v5) g t #[v0, v1, v2, v3, v4, v5, b6, b7, b8, b9] := Blk.set_ s4 5 v5
  have g6 := grownBy_set g5 5 v5
  generalize w4.setCell ⟨g, 5, none⟩ v5 = w5 at s5 g6 ⊢
  have s6 : Blk (w5.setCell ⟨g, 6, none⟩ v6) g t #[v0, v1, v2, v3, v4, v5, v6, b7, b8, b9] := Blk.set_ s5 6 v6
  have g7 := grownBy_set g6 6 v6
  generalize w5.setCell ⟨g, 6, none⟩ v6 = w6 at s6 g7 ⊢
  have s7 : Blk (w6.setCell ⟨g, 7, none⟩ v7) g t #[v0, v1, v2, v3, v4, v5, v6, v7, b8, b9] := Blk.set_ s6 7 v7
  have g8 := grownBy_set g7 7 v7
  generalize w6.setCell ⟨g, 7, none⟩ v7 = w7 at s7 g8 ⊢
  have s8 : Blk (w7.setCell ⟨g, 8, none⟩ v8) g t #[v0, v1, v2, v3, v4, v5, v6, v7, v8, b9] := Blk.set_ s7 8 v8
  have g9 := grownBy_set g8 8 v8
  generalize w7.setCell ⟨g, 8, none⟩ v8 = w8 at s8 g9 ⊢
  have s9 : Blk (w8.setCell ⟨g, 9, none⟩ v9) g t #[v0, v1, v2, v3, v4, v5, v6, v7, v8, v9] := Blk.set_ s8 9 v9
  have g10 := grownBy_set g9 9 v9
  exact ⟨s9, g10⟩
theorem own_some {w : World} {B e size k : Nat} {v : Value} {xs : List Value} (h : w.ownsRow B e size v k xs) (hk : 0 < k) : ∃ g c, v = .slice (some ⟨g, 0, none⟩) k c ∧ B ≤ g ∧ g < w.heap.size := by
  rcases h.2 with ⟨_, h0, _⟩ | ⟨g, c, cur, hv, hB, hg, _⟩
  · omega
  · exact ⟨g, c, hv, hB, (Array.getElem?_eq_some_iff.1 hg).1⟩
theorem flat_ln_len (L : List (Int × Int × ByteArray)) : (L.flatMap lnV).length = L.length * 3 := by
  induction L with
  | nil => rfl
  | cons a l ih => rw [List.flatMap_cons, List.length_append, ih, List.length_cons, show (lnV a).length = 3 from rfl]; omega
theorem flat_ln_last (L : List (Int × Int × ByteArray)) (p : Int × Int × ByteArray) (i : Nat) (hi : i < 3) : ((L ++ [p]).flatMap lnV)[L.length * 3 + i]? = (lnV p)[i]? := by
  have hl : (L.flatMap lnV).length = L.length * 3 := flat_ln_len L
  rw [List.flatMap_append, List.getElem?_append_right (by omega), hl, Nat.add_sub_cancel_left]
  simp
theorem own_slice {w : World} {B e size k : Nat} {v : Value} {xs : List Value} (h : w.ownsRow B e size v k xs) : ∃ A c, v = .slice A k c := by
  rcases h.2 with ⟨rfl, rfl, _⟩ | ⟨g, cap, cur, rfl, _⟩
  · exact ⟨_, _, rfl⟩
  · exact ⟨_, _, rfl⟩
def evT (x : Nat → Value) : Array Value := #[x 0, x 1, x 2, x 3, x 4, x 5, x 6, x 7, x 8, x 9, x 10, x 11, x 12, x 13, x 14, x 15, x 16, x 17, x 18, x 19, x 20, x 21, x 22, x 23, x 24, x 25, x 26, x 27, x 28, x 29, x 30, x 31, x 32, x 33, x 34, x 35, x 36, x 37, x 38, x 39, x 40, x 41, x 42, x 43, x 44, x 45, x 46, x 47, x 48]
def evPr (w0 : World) (gc : Nat) (i : Nat) (v : Value) (w : World) : Prop := match i with
  | 0 => v = .pointer (some ⟨gc, 0, none⟩)
  | 1 => ∃ r : Int, v = .int .i64 r ∧ 0 ≤ r ∧ r < 3
  | 2 => v = .pointer (some ⟨gc, 0, none⟩)
  | 3 => ∃ r : Int, v = .int .i64 r ∧ 0 ≤ r ∧ r < 3
  | 4 => v = .pointer (some ⟨gc, 0, none⟩)
  | 5 => ∃ r : Int, v = .int .i64 r ∧ 0 ≤ r ∧ r < 6
  | 6 => ∃ r : Int, v = .int .i64 r ∧ 0 ≤ r ∧ r ≤ 50
  | 7 => v = .pointer (some ⟨gc, 0, none⟩)
  | 8 => ∃ r : Int, v = .int .i64 r ∧ 0 ≤ r ∧ r < 256
  | 9 => ∃ r : Int, v = .int .i64 r ∧ 0 ≤ r ∧ r ≤ 255000
  | 10 => ∃ g, v = .slice (some ⟨g, 0, none⟩) 4 4 ∧ Blk w g 3 #[.int .i64 1, .int .i64 1, .int .i64 2, .int .i64 5040] ∧ w0.heap.size ≤ g
  | 11 => v = .pointer (some ⟨gc, 0, none⟩)
  | 12 => ∃ r : Int, v = .int .i64 r ∧ 0 ≤ r ∧ r < 4
  | 13 => ∃ g k : Nat, v = .pointer (some ⟨g, k, none⟩) ∧ k < 4 ∧ Blk w g 3 #[.int .i64 1, .int .i64 1, .int .i64 2, .int .i64 5040] ∧ w0.heap.size ≤ g
  | 14 => ∃ r : Int, v = .int .i64 r ∧ (r = 1 ∨ r = 2 ∨ r = 5040)
  | 15 => v = .pointer (some ⟨gc, 0, none⟩)
  | 16 => ∃ g, v = .slice (some ⟨g, 0, none⟩) 4 4 ∧ Blk w g 9 #[.string ⟨#[]⟩, .string ⟨#[116, 49]⟩, .string ⟨#[116, 50]⟩, .string ⟨#[105, 100]⟩] ∧ w0.heap.size ≤ g
  | 17 => ∃ s : ByteArray, v = .string s ∧ s.size ≤ 36
  | 18 => v = .pointer (some ⟨gc, 0, none⟩)
  | 19 => ∃ g, v = .slice (some ⟨g, 0, none⟩) 2 2 ∧ Blk w g 9 #[.string ⟨#[109, 97, 105, 110]⟩, .string ⟨#[97, 117, 100, 105, 116]⟩] ∧ w0.heap.size ≤ g
  | 20 => ∃ s : ByteArray, v = .string s ∧ s.size ≤ 36
  | 21 => v = .pointer (some ⟨gc, 0, none⟩)
  | 22 => ∃ (F : List (ByteArray × ByteArray)) (A : Option Addr) (c : Nat), v = .slice A F.length c ∧ w.ownsRow w0.heap.size 76 2 v F.length (F.flatMap fdV) ∧ F.length ≤ 4
  | 23 => ∃ (e : Ev) (F : List (ByteArray × ByteArray)), v = .agg e.vals.toArray ∧ EvB e ∧ w.ownsRow w0.heap.size 76 2 e.fd F.length (F.flatMap fdV) ∧ F.length ≤ 4
  | 24 => ∃ g, v = .pointer (some ⟨g, 0, none⟩) ∧ Blk w g 48 #[.int .i64 0, .int .i64 0, .int .i64 0, .int .i64 0, .slice none 0 0, .int .i64 0, .int .i64 0, .string ⟨#[]⟩, .string ⟨#[]⟩, .slice none 0 0] ∧ w0.heap.size ≤ g
  | _ => True
def evWk (w0 : World) (gc : Nat) (w : World) : Prop := Codes w gc ∧ w0.grownBy w (some gc)
def evFin (w0 : World) (gc : Nat) (x : Nat → Value) (w : World) : Prop := ∃ (g : Nat) (e : Ev) (F : List (ByteArray × ByteArray)), x 3 = .pointer (some ⟨g, 0, none⟩) ∧ Blk w g 48 e.vals.toArray ∧ EvB e ∧ w.ownsRow w0.heap.size 76 2 e.fd F.length (F.flatMap fdV) ∧ F.length ≤ 4 ∧ w0.heap.size ≤ g ∧ Codes w gc ∧ w0.grownBy w (some gc)
theorem evPr_mono {w0 : World} {gc : Nat} (hgc : gc < w0.heap.size) (j : Nat) (v : Value) (w w' : World) (hg : w.grownBy w' (some gc)) (h : evPr w0 gc j v w) : evPr w0 gc j v w' := by
  unfold evPr at h ⊢
  have nb : ∀ {g : Nat}, w0.heap.size ≤ g → some g ≠ some gc := fun hg e => by injection e; omega
  split at h
  all_goals first
    | exact h
    | (obtain ⟨g, h1, h2, h3⟩ := h; exact ⟨g, h1, h2.grown hg (nb h3), h3⟩)
    | (obtain ⟨g, k, h1, hk, h2, h3⟩ := h; exact ⟨g, k, h1, hk, h2.grown hg (nb h3), h3⟩)
    | (obtain ⟨F, A, c, h0, h1, h2⟩ := h; exact ⟨F, A, c, h0, own_grown h1 hg hgc, h2⟩)
    | (obtain ⟨e, F, h0, hb, h1, h2⟩ := h; exact ⟨e, F, h0, hb, own_grown h1 hg hgc, h2⟩)

/-- An event whose lines and fields lie in rows of their own behind B. -/
structure EvOk (B : Nat) (e : Ev) (L : List (Int × Int × ByteArray)) (F : List (ByteArray × ByteArray)) (w : World) : Prop where
  ln : w.ownsRow B 73 3 e.ln L.length (L.flatMap lnV)
  fd : w.ownsRow B 76 2 e.fd F.length (F.flatMap fdV)
  l1 : 1 ≤ L.length
  l3 : L.length ≤ 3
  lp : ∀ p ∈ L, 0 ≤ p.1 ∧ p.1 ≤ 1000000 ∧ 0 ≤ p.2.1 ∧ p.2.1 ≤ 20
  fl : F.length ≤ 4
  wt : e.wt = 1 ∨ e.wt = 2 ∨ e.wt = 5040
  tr : e.tr.size ≤ 36
  st : e.st.size ≤ 36
def EvRes (w : World) (gc : Nat) (x : Ending) (w' : World) : Prop :=
  ∃ (e : Ev) (L : List (Int × Int × ByteArray)) (F : List (ByteArray × ByteArray)), x = .returned (.agg e.vals.toArray) ∧ EvOk w.heap.size e L F w' ∧ Codes w' gc ∧ w.grownBy w' (some gc)
/-- The slots ahead of the first statement. -/
def ev0 (gc n : Nat) : Nat → Value
  | 0 => .pointer (some ⟨gc, 0, none⟩)
  | 2 => .pointer (some ⟨n, 0, none⟩)
  | _ => undef
set_option maxRecDepth 100000 in
set_option maxHeartbeats 8000000 in
/-- Event. -/
theorem makeEvent (gc : Nat) (w : World) (h : Codes w gc) :
    Calls Tryd.prog 31 #[.pointer (some ⟨gc, 0, none⟩)] w (EvRes w gc) := by
  go_enter Tryd.func31, Tryd.ntmps31
  go_wp2_with fail
  rename_i K' hK'
  have hn : w.heap.size < (w.alloc (.cells #[.int .i64 0, .int .i64 0, .int .i64 0, .int .i64 0, .slice none 0 0, .int .i64 0, .int .i64 0, .string ⟨#[]⟩, .string ⟨#[]⟩, .slice none 0 0] 48 (0, 0))).heap.size := by go_simp
  have hB0 : Blk (w.alloc (.cells #[.int .i64 0, .int .i64 0, .int .i64 0, .int .i64 0, .slice none 0 0, .int .i64 0, .int .i64 0, .string ⟨#[]⟩, .string ⟨#[]⟩, .slice none 0 0] 48 (0, 0))) w.heap.size 48 #[.int .i64 0, .int .i64 0, .int .i64 0, .int .i64 0, .slice none 0 0, .int .i64 0, .int .i64 0, .string ⟨#[]⟩, .string ⟨#[]⟩, .slice none 0 0] := Blk.new _ _ _
  have hC0 : Codes (w.alloc (.cells #[.int .i64 0, .int .i64 0, .int .i64 0, .int .i64 0, .slice none 0 0, .int .i64 0, .int .i64 0, .string ⟨#[]⟩, .string ⟨#[]⟩, .slice none 0 0] 48 (0, 0))) gc := h.alloc _
  have hG0 : w.grownBy (w.alloc (.cells #[.int .i64 0, .int .i64 0, .int .i64 0, .int .i64 0, .slice none 0 0, .int .i64 0, .int .i64 0, .string ⟨#[]⟩, .string ⟨#[]⟩, .slice none 0 0] 48 (0, 0))) (some gc) := World.grownBy_alloc _ _ _
  revert hn hB0 hC0 hG0
  generalize (w.alloc (.cells #[.int .i64 0, .int .i64 0, .int .i64 0, .int .i64 0, .slice none 0 0, .int .i64 0, .int .i64 0, .string ⟨#[]⟩, .string ⟨#[]⟩, .slice none 0 0] 48 (0, 0))) = w0
  intro hn hB0 hC0 hG0
  change Code.wp _ (Code.region 1 _ true) _ { tmps := evT (ev0 gc w.heap.size), defers := [] } w0
  have hx : ev0 gc w.heap.size 0 = .pointer (some ⟨gc, 0, none⟩) := rfl
  have hx2 : ev0 gc w.heap.size 2 = .pointer (some ⟨w.heap.size, 0, none⟩) := rfl
  generalize ev0 gc w.heap.size = x0 at hx hx2 ⊢
  have hgc := hC0.lt_
  refine wp_region_slots (by kernel_rfl) (by kernel_rfl) (by decide) evT x0 (evWk w0 gc) (fun a b => a.grownBy b (some gc)) (evPr w0 gc) (evFin w0 gc) (fun j v a b hab hp => evPr_mono hgc j v a b hab hp) ⟨hC0.drewN 1, grownBy_drewN (World.grownBy.refl _ _) 1⟩ ?step ?last ?done
  case done =>
    intro x w1 ho hF
    have h0 := (ho 0 (by decide)).trans hx
    have h2 := (ho 2 (by decide)).trans hx2
    obtain ⟨g, ⟨vho, vfi, vfr, vto, vln, vti, vwt, vtr, vst, vfd⟩, F, hx3, hb, hEB, hFd, hFl, hgz, hC1, hG1⟩ := hF
    have hEln := hEB.ln
    have hEto := hEB.to_
    have hEfr := hEB.fr
    simp only at hEln hEto hEfr hFd
    subst hEln
    subst hEto
    obtain ⟨AF, cF, rfl⟩ := own_slice hFd
    unfold Ev.vals at hb
    have hR := hB0.grown hG1 (fun e => by injection e; have := h.lt_; omega)
    refine hK' _ _ ?_
    unfold evT
    rw [h0, h2, hx3]
    clear hK' ho hx hx2 h0 h2 hx3
    have c2 : w1.cell? ⟨g, 2, none⟩ = some (.int .i64 vfr) := by rw [hb.cell]; rfl
    go_wp2_with fail
    refine (makeLinesM gc vfr 3 w1 hC1 (by omega) (by omega) (by omega) (by omega)).mono ?_
    rintro e w2 ⟨vl, L, rfl, hL, hL1, hL3, hLp, hC2, hG2⟩
    obtain ⟨L0, p, rfl⟩ : ∃ L0 p, L = L0 ++ [p] := ⟨L.dropLast, L.getLast (by rintro rfl; simp at hL1), (List.dropLast_concat_getLast _).symm⟩
    obtain ⟨gL, cL, rfl, hgL, hgL2⟩ := own_some hL hL1
    have hb2 := hb.grown hG2 (fun e => by injection e; have := hC0.lt_; omega)
    have hgz2 := hG2.size
    have hlen : (L0 ++ [p]).length = L0.length + 1 := by simp
    have l0 : w2.cell? ⟨gL, L0.length * 3, none⟩ = some (.int .i64 p.1) := (hL.cellAt _ (by omega)).trans ((flat_ln_last L0 p 0 (by omega)).trans rfl)
    have l1 : w2.cell? ⟨gL, L0.length * 3 + 1, none⟩ = some (.int .i64 p.2.1) := (hL.cellAt _ (by omega)).trans ((flat_ln_last L0 p 1 (by omega)).trans rfl)
    have l2 : w2.cell? ⟨gL, L0.length * 3 + 2, none⟩ = some (.string p.2.2) := (hL.cellAt _ (by omega)).trans ((flat_ln_last L0 p 2 (by omega)).trans rfl)
    have hR2 := hR.grown hG2 (fun e => by injection e; have := h.lt_; omega)
    have hrg : ¬ w.heap.size = g := by omega
    have hgr : ¬ g = w.heap.size := by omega
    have hgn : ¬ g = w2.heap.size := by have := hb2.lt; omega
    have hrn : ¬ w.heap.size = w2.heap.size := by have := hR2.lt; omega
    have hpw : IntKind.i64.wrap (p.1 + p.2.1) = p.1 + p.2.1 := IntWalk.i64_in _ (by have := hLp p (by simp); omega)
    have c2 : w2.cell? ⟨g, 2, none⟩ = some (.int .i64 vfr) := by rw [hb2.cell]; rfl
    have f2 := hb2.frozen 2
    have c4 : w2.cell? ⟨g, 4, none⟩ = some (.slice none 0 0) := by rw [hb2.cell]; rfl
    have f4 := hb2.frozen 4
    have hb5 : Blk ((w2.setCell ⟨g, 4, none⟩ (.slice (some ⟨gL, 0, none⟩) (L0.length + 1) cL)).alloc (.cells #[.int .i64 p.1, .int .i64 p.2.1, .string p.2.2] 73)) g 48 #[.int .i64 vho, .int .i64 vfi, .int .i64 vfr, .int .i64 0, .slice (some ⟨gL, 0, none⟩) (L0.length + 1) cL, .int .i64 vti, .int .i64 vwt, .string vtr, .string vst, .slice AF F.length cF] := (hb2.set_ 4 (.slice (some ⟨gL, 0, none⟩) (L0.length + 1) cL)).alloc _
    have hR5 : Blk ((w2.setCell ⟨g, 4, none⟩ (.slice (some ⟨gL, 0, none⟩) (L0.length + 1) cL)).alloc (.cells #[.int .i64 p.1, .int .i64 p.2.1, .string p.2.2] 73)) w.heap.size 48 #[.int .i64 0, .int .i64 0, .int .i64 0, .int .i64 0, .slice none 0 0, .int .i64 0, .int .i64 0, .string ⟨#[]⟩, .string ⟨#[]⟩, .slice none 0 0] := (hR2.far hrg _).alloc _
    have d0 : ((w2.setCell ⟨g, 4, none⟩ (.slice (some ⟨gL, 0, none⟩) (L0.length + 1) cL)).alloc (.cells #[.int .i64 p.1, .int .i64 p.2.1, .string p.2.2] 73)).cell? ⟨g, 0, none⟩ = some (.int .i64 vho) := by rw [hb5.cell]; rfl
    have e0 := hb5.frozen 0
    have r0 : ((w2.setCell ⟨g, 4, none⟩ (.slice (some ⟨gL, 0, none⟩) (L0.length + 1) cL)).alloc (.cells #[.int .i64 p.1, .int .i64 p.2.1, .string p.2.2] 73)).cell? ⟨w.heap.size, 0, none⟩ = some (.int .i64 0) := by rw [hR5.cell]; rfl
    have q0 := hR5.frozen 0
    have d1 : ((w2.setCell ⟨g, 4, none⟩ (.slice (some ⟨gL, 0, none⟩) (L0.length + 1) cL)).alloc (.cells #[.int .i64 p.1, .int .i64 p.2.1, .string p.2.2] 73)).cell? ⟨g, 1, none⟩ = some (.int .i64 vfi) := by rw [hb5.cell]; rfl
    have e1 := hb5.frozen 1
    have r1 : ((w2.setCell ⟨g, 4, none⟩ (.slice (some ⟨gL, 0, none⟩) (L0.length + 1) cL)).alloc (.cells #[.int .i64 p.1, .int .i64 p.2.1, .string p.2.2] 73)).cell? ⟨w.heap.size, 1, none⟩ = some (.int .i64 0) := by rw [hR5.cell]; rfl
    have q1 := hR5.frozen 1
    have d2 : ((w2.setCell ⟨g, 4, none⟩ (.slice (some ⟨gL, 0, none⟩) (L0.length + 1) cL)).alloc (.cells #[.int .i64 p.1, .int .i64 p.2.1, .string p.2.2] 73)).cell? ⟨g, 2, none⟩ = some (.int .i64 vfr) := by rw [hb5.cell]; rfl
    have e2 := hb5.frozen 2
    have r2 : ((w2.setCell ⟨g, 4, none⟩ (.slice (some ⟨gL, 0, none⟩) (L0.length + 1) cL)).alloc (.cells #[.int .i64 p.1, .int .i64 p.2.1, .string p.2.2] 73)).cell? ⟨w.heap.size, 2, none⟩ = some (.int .i64 0) := by rw [hR5.cell]; rfl
    have q2 := hR5.frozen 2
    have d3 : ((w2.setCell ⟨g, 4, none⟩ (.slice (some ⟨gL, 0, none⟩) (L0.length + 1) cL)).alloc (.cells #[.int .i64 p.1, .int .i64 p.2.1, .string p.2.2] 73)).cell? ⟨g, 3, none⟩ = some (.int .i64 0) := by rw [hb5.cell]; rfl
    have e3 := hb5.frozen 3
    have r3 : ((w2.setCell ⟨g, 4, none⟩ (.slice (some ⟨gL, 0, none⟩) (L0.length + 1) cL)).alloc (.cells #[.int .i64 p.1, .int .i64 p.2.1, .string p.2.2] 73)).cell? ⟨w.heap.size, 3, none⟩ = some (.int .i64 0) := by rw [hR5.cell]; rfl
    have q3 := hR5.frozen 3
    have d4 : ((w2.setCell ⟨g, 4, none⟩ (.slice (some ⟨gL, 0, none⟩) (L0.length + 1) cL)).alloc (.cells #[.int .i64 p.1, .int .i64 p.2.1, .string p.2.2] 73)).cell? ⟨g, 4, none⟩ = some (.slice (some ⟨gL, 0, none⟩) (L0.length + 1) cL) := by rw [hb5.cell]; rfl
    have e4 := hb5.frozen 4
    have r4 : ((w2.setCell ⟨g, 4, none⟩ (.slice (some ⟨gL, 0, none⟩) (L0.length + 1) cL)).alloc (.cells #[.int .i64 p.1, .int .i64 p.2.1, .string p.2.2] 73)).cell? ⟨w.heap.size, 4, none⟩ = some (.slice none 0 0) := by rw [hR5.cell]; rfl
    have q4 := hR5.frozen 4
    have d5 : ((w2.setCell ⟨g, 4, none⟩ (.slice (some ⟨gL, 0, none⟩) (L0.length + 1) cL)).alloc (.cells #[.int .i64 p.1, .int .i64 p.2.1, .string p.2.2] 73)).cell? ⟨g, 5, none⟩ = some (.int .i64 vti) := by rw [hb5.cell]; rfl
    have e5 := hb5.frozen 5
    have r5 : ((w2.setCell ⟨g, 4, none⟩ (.slice (some ⟨gL, 0, none⟩) (L0.length + 1) cL)).alloc (.cells #[.int .i64 p.1, .int .i64 p.2.1, .string p.2.2] 73)).cell? ⟨w.heap.size, 5, none⟩ = some (.int .i64 0) := by rw [hR5.cell]; rfl
    have q5 := hR5.frozen 5
    have d6 : ((w2.setCell ⟨g, 4, none⟩ (.slice (some ⟨gL, 0, none⟩) (L0.length + 1) cL)).alloc (.cells #[.int .i64 p.1, .int .i64 p.2.1, .string p.2.2] 73)).cell? ⟨g, 6, none⟩ = some (.int .i64 vwt) := by rw [hb5.cell]; rfl
    have e6 := hb5.frozen 6
    have r6 : ((w2.setCell ⟨g, 4, none⟩ (.slice (some ⟨gL, 0, none⟩) (L0.length + 1) cL)).alloc (.cells #[.int .i64 p.1, .int .i64 p.2.1, .string p.2.2] 73)).cell? ⟨w.heap.size, 6, none⟩ = some (.int .i64 0) := by rw [hR5.cell]; rfl
    have q6 := hR5.frozen 6
    have d7 : ((w2.setCell ⟨g, 4, none⟩ (.slice (some ⟨gL, 0, none⟩) (L0.length + 1) cL)).alloc (.cells #[.int .i64 p.1, .int .i64 p.2.1, .string p.2.2] 73)).cell? ⟨g, 7, none⟩ = some (.string vtr) := by rw [hb5.cell]; rfl
    have e7 := hb5.frozen 7
    have r7 : ((w2.setCell ⟨g, 4, none⟩ (.slice (some ⟨gL, 0, none⟩) (L0.length + 1) cL)).alloc (.cells #[.int .i64 p.1, .int .i64 p.2.1, .string p.2.2] 73)).cell? ⟨w.heap.size, 7, none⟩ = some (.string ⟨#[]⟩) := by rw [hR5.cell]; rfl
    have q7 := hR5.frozen 7
    have d8 : ((w2.setCell ⟨g, 4, none⟩ (.slice (some ⟨gL, 0, none⟩) (L0.length + 1) cL)).alloc (.cells #[.int .i64 p.1, .int .i64 p.2.1, .string p.2.2] 73)).cell? ⟨g, 8, none⟩ = some (.string vst) := by rw [hb5.cell]; rfl
    have e8 := hb5.frozen 8
    have r8 : ((w2.setCell ⟨g, 4, none⟩ (.slice (some ⟨gL, 0, none⟩) (L0.length + 1) cL)).alloc (.cells #[.int .i64 p.1, .int .i64 p.2.1, .string p.2.2] 73)).cell? ⟨w.heap.size, 8, none⟩ = some (.string ⟨#[]⟩) := by rw [hR5.cell]; rfl
    have q8 := hR5.frozen 8
    have d9 : ((w2.setCell ⟨g, 4, none⟩ (.slice (some ⟨gL, 0, none⟩) (L0.length + 1) cL)).alloc (.cells #[.int .i64 p.1, .int .i64 p.2.1, .string p.2.2] 73)).cell? ⟨g, 9, none⟩ = some (.slice AF F.length cF) := by rw [hb5.cell]; rfl
    have e9 := hb5.frozen 9
    have r9 : ((w2.setCell ⟨g, 4, none⟩ (.slice (some ⟨gL, 0, none⟩) (L0.length + 1) cL)).alloc (.cells #[.int .i64 p.1, .int .i64 p.2.1, .string p.2.2] 73)).cell? ⟨w.heap.size, 9, none⟩ = some (.slice none 0 0) := by rw [hR5.cell]; rfl
    have q9 := hR5.frozen 9
    have hne : ¬ g = gL := by have := hb.lt; omega
    have hne' : ¬ gL = g := fun e => hne e.symm
    generalize hlg : (L0 ++ [p]).length = m at hL hL1 hL3 hlen ⊢
    subst hlen
    clear hb5 hR5
    have hne1 := blk_apart (by decide) hb2 hL
    have hF2 := own_grown hFd hG2 hgc
    have hne2 := blk_apart (by decide) hb2 hF2
    go_wp2_with fail
    have hW6 := grownBy_set (grownBy_trans (grownBy_set (World.grownBy.refl w2 (some g)) 4 (.slice (some ⟨gL, 0, none⟩) (L0.length + 1) cL)) (World.grownBy_alloc _ (.cells #[.int .i64 p.1, .int .i64 p.2.1, .string p.2.2] 73) (some g))) 3 (.int .i64 (p.1 + p.2.1))
    have hW7 := grownBy_setNew (grownBy_trans (grownBy_setNew (grownBy_trans (grownBy_trans hG0 hG1) hG2) (g := g) (by omega) 4 (.slice (some ⟨gL, 0, none⟩) (L0.length + 1) cL)) (World.grownBy_alloc _ (.cells #[.int .i64 p.1, .int .i64 p.2.1, .string p.2.2] 73) (some gc))) (g := g) (by omega) 3 (.int .i64 (p.1 + p.2.1))
    have hR6 := hR2.grown hW6 (fun e => hrg (by injection e))
    generalize (((w2.setCell ⟨g, 4, none⟩ (.slice (some ⟨gL, 0, none⟩) (L0.length + 1) cL)).alloc (.cells #[.int .i64 p.1, .int .i64 p.2.1, .string p.2.2] 73)).setCell ⟨g, 3, none⟩ (.int .i64 (p.1 + p.2.1))) = W6 at hW6 hW7 hR6 ⊢
    obtain ⟨hb', hg'⟩ := ten_sets hR6 (.int .i64 vho) (.int .i64 vfi) (.int .i64 vfr) (.int .i64 (p.1 + p.2.1)) (.slice (some ⟨gL, 0, none⟩) (L0.length + 1) cL) (.int .i64 vti) (.int .i64 vwt) (.string vtr) (.string vst) (.slice AF F.length cF)
    generalize ((((((((((W6.setCell ⟨w.heap.size, 0, none⟩ (.int .i64 vho)).setCell ⟨w.heap.size, 1, none⟩ (.int .i64 vfi)).setCell ⟨w.heap.size, 2, none⟩ (.int .i64 vfr)).setCell ⟨w.heap.size, 3, none⟩ (.int .i64 (p.1 + p.2.1))).setCell ⟨w.heap.size, 4, none⟩ (.slice (some ⟨gL, 0, none⟩) (L0.length + 1) cL)).setCell ⟨w.heap.size, 5, none⟩ (.int .i64 vti)).setCell ⟨w.heap.size, 6, none⟩ (.int .i64 vwt)).setCell ⟨w.heap.size, 7, none⟩ (.string vtr)).setCell ⟨w.heap.size, 8, none⟩ (.string vst)).setCell ⟨w.heap.size, 9, none⟩ (.slice AF F.length cF)) = W7 at hb' hg' ⊢
    have hL6 := hL.kept hW6 (.inr (fun e => hne1 e.symm))
    have hF6 := hF2.kept hW6 (.inr (fun e => hne2 e.symm))
    have hL7 := hL6.kept hg' (.inr (fun e => blk_apart (by decide) hR6 hL6 e.symm))
    have hF7 := hF6.kept hg' (.inr (fun e => blk_apart (by decide) hR6 hF6 e.symm))
    have hC7 := (hC2.grown hW6 (by have := hC0.lt_; omega)).grown hg' h.lt_
    have hz1 := hG1.size
    refine bodyPost_ret (results_cell_row rfl _ _ _ _ _ _ _ rfl hb' Tryd.underlying48 rfl (by kernel_rfl)) rfl ?_
    exact ⟨⟨vho, vfi, vfr, p.1 + p.2.1, .slice (some ⟨gL, 0, none⟩) (L0.length + 1) cL, vti, vwt, vtr, vst, .slice AF F.length cF⟩, L0 ++ [p], F, rfl,
      ⟨by rw [hlg]; exact own_base hL7 (by omega), own_base hF7 (by omega), by omega, by omega, hLp, hFl, hEB.wt, hEB.tr, hEB.st⟩, hC7, World.grownBy.andThen hW7 hg' (fun j hj => .inl (by injection hj with hj; omega))⟩
  case step =>
    clear hK'
    intro i o d hi ho hd x w K hW hout hdep hK
    obtain ⟨hC, hG⟩ := hW
    have hx0 : x 0 = .pointer (some ⟨gc, 0, none⟩) := (hout 0 (by decide)).trans hx
    have hzz := hG.size
    have hKalloc : ∀ v ob, evPr w0 gc i v (w.alloc ob) → K { tmps := evT (upd x d v), defers := [] } (w.alloc ob) := fun v ob hp => hK v _ ⟨hC.alloc _, grownBy_trans hG (World.grownBy_alloc _ _ _)⟩ (World.grownBy_alloc _ _ _) hp
    have hKsame : ∀ v, evPr w0 gc i v w → K { tmps := evT (upd x d v), defers := [] } w := fun v hp => hK v w ⟨hC, hG⟩ (World.grownBy.refl _ _) hp
    have hKgrow : ∀ v w', Codes w' gc → w.grownBy w' (some gc) → evPr w0 gc i v w' → K { tmps := evT (upd x d v), defers := [] } w' := fun v w' hc hg hp => hK v w' ⟨hc, grownBy_trans hG hg⟩ hg hp
    clear hK hout
    have hcase : i = 0 ∨ i = 1 ∨ i = 2 ∨ i = 3 ∨ i = 4 ∨ i = 5 ∨ i = 6 ∨ i = 7 ∨ i = 8 ∨ i = 9 ∨ i = 10 ∨ i = 11 ∨ i = 12 ∨ i = 13 ∨ i = 14 ∨ i = 15 ∨ i = 16 ∨ i = 17 ∨ i = 18 ∨ i = 19 ∨ i = 20 ∨ i = 21 ∨ i = 22 ∨ i = 23 ∨ i = 24 := by
      have : i < 25 := hi
      omega
    clear hi
    rcases hcase with rfl | rfl | rfl | rfl | rfl | rfl | rfl | rfl | rfl | rfl | rfl | rfl | rfl | rfl | rfl | rfl | rfl | rfl | rfl | rfl | rfl | rfl | rfl | rfl | rfl
    · -- operation 0
      simp only [List.getElem?_toArray, List.getElem?_cons_zero, Option.some.injEq] at ho
      subst ho
      simp only [Option.some.injEq] at hd
      subst hd
      clear hdep hKalloc hKgrow
      unfold evT
      rw [hx0]
      go_simp
      have hk : K { tmps := #[x 0, x 1, x 2, x 3, x 4, .pointer (some ⟨gc, 0, none⟩), x 6, x 7, x 8, x 9, x 10, x 11, x 12, x 13, x 14, x 15, x 16, x 17, x 18, x 19, x 20, x 21, x 22, x 23, x 24, x 25, x 26, x 27, x 28, x 29, x 30, x 31, x 32, x 33, x 34, x 35, x 36, x 37, x 38, x 39, x 40, x 41, x 42, x 43, x 44, x 45, x 46, x 47, x 48], defers := [] } w := hKsame _ rfl
      rw [hx0] at hk
      exact hk
    · -- operation 1
      simp only [List.getElem?_toArray, List.getElem?_cons_succ, List.getElem?_cons_zero, Option.some.injEq] at ho
      subst ho
      simp only [Option.some.injEq] at hd
      subst hd
      have p0 : evPr w0 gc 0 (x 5) w := hdep ⟨0, .data⟩ (by simp) (by rfl)
      replace p0 : x 5 = .pointer (some ⟨gc, 0, none⟩) := p0
      clear hdep hKalloc hKsame
      unfold evT
      rw [p0]
      go_simp
      refine (drawNext gc 3 _ hC (by omega) (by omega)).mono ?_
      rintro e w2 ⟨r, rfl, r0, r1, _, hC2, hg2⟩
      have hk : K { tmps := #[x 0, x 1, x 2, x 3, x 4, x 5, .int .i64 r, x 7, x 8, x 9, x 10, x 11, x 12, x 13, x 14, x 15, x 16, x 17, x 18, x 19, x 20, x 21, x 22, x 23, x 24, x 25, x 26, x 27, x 28, x 29, x 30, x 31, x 32, x 33, x 34, x 35, x 36, x 37, x 38, x 39, x 40, x 41, x 42, x 43, x 44, x 45, x 46, x 47, x 48], defers := [] } w2 := hKgrow _ _ hC2 hg2 ⟨r, rfl, r0, r1 (by omega)⟩
      rw [hx0, p0] at hk
      exact hk
    · -- operation 2
      simp only [List.getElem?_toArray, List.getElem?_cons_succ, List.getElem?_cons_zero, Option.some.injEq] at ho
      subst ho
      simp only [Option.some.injEq] at hd
      subst hd
      clear hdep hKalloc hKgrow
      unfold evT
      rw [hx0]
      go_simp
      have hk : K { tmps := #[x 0, x 1, x 2, x 3, x 4, x 5, x 6, .pointer (some ⟨gc, 0, none⟩), x 8, x 9, x 10, x 11, x 12, x 13, x 14, x 15, x 16, x 17, x 18, x 19, x 20, x 21, x 22, x 23, x 24, x 25, x 26, x 27, x 28, x 29, x 30, x 31, x 32, x 33, x 34, x 35, x 36, x 37, x 38, x 39, x 40, x 41, x 42, x 43, x 44, x 45, x 46, x 47, x 48], defers := [] } w := hKsame _ rfl
      rw [hx0] at hk
      exact hk
    · -- operation 3
      simp only [List.getElem?_toArray, List.getElem?_cons_succ, List.getElem?_cons_zero, Option.some.injEq] at ho
      subst ho
      simp only [Option.some.injEq] at hd
      subst hd
      have p0 : evPr w0 gc 2 (x 7) w := hdep ⟨2, .data⟩ (by simp) (by rfl)
      replace p0 : x 7 = .pointer (some ⟨gc, 0, none⟩) := p0
      clear hdep hKalloc hKsame
      unfold evT
      rw [p0]
      go_simp
      refine (drawNext gc 3 _ hC (by omega) (by omega)).mono ?_
      rintro e w2 ⟨r, rfl, r0, r1, _, hC2, hg2⟩
      have hk : K { tmps := #[x 0, x 1, x 2, x 3, x 4, x 5, x 6, x 7, .int .i64 r, x 9, x 10, x 11, x 12, x 13, x 14, x 15, x 16, x 17, x 18, x 19, x 20, x 21, x 22, x 23, x 24, x 25, x 26, x 27, x 28, x 29, x 30, x 31, x 32, x 33, x 34, x 35, x 36, x 37, x 38, x 39, x 40, x 41, x 42, x 43, x 44, x 45, x 46, x 47, x 48], defers := [] } w2 := hKgrow _ _ hC2 hg2 ⟨r, rfl, r0, r1 (by omega)⟩
      rw [hx0, p0] at hk
      exact hk
    · -- operation 4
      simp only [List.getElem?_toArray, List.getElem?_cons_succ, List.getElem?_cons_zero, Option.some.injEq] at ho
      subst ho
      simp only [Option.some.injEq] at hd
      subst hd
      clear hdep hKalloc hKgrow
      unfold evT
      rw [hx0]
      go_simp
      have hk : K { tmps := #[x 0, x 1, x 2, x 3, x 4, x 5, x 6, x 7, x 8, .pointer (some ⟨gc, 0, none⟩), x 10, x 11, x 12, x 13, x 14, x 15, x 16, x 17, x 18, x 19, x 20, x 21, x 22, x 23, x 24, x 25, x 26, x 27, x 28, x 29, x 30, x 31, x 32, x 33, x 34, x 35, x 36, x 37, x 38, x 39, x 40, x 41, x 42, x 43, x 44, x 45, x 46, x 47, x 48], defers := [] } w := hKsame _ rfl
      rw [hx0] at hk
      exact hk
    · -- operation 5
      simp only [List.getElem?_toArray, List.getElem?_cons_succ, List.getElem?_cons_zero, Option.some.injEq] at ho
      subst ho
      simp only [Option.some.injEq] at hd
      subst hd
      have p0 : evPr w0 gc 4 (x 9) w := hdep ⟨4, .data⟩ (by simp) (by rfl)
      replace p0 : x 9 = .pointer (some ⟨gc, 0, none⟩) := p0
      clear hdep hKalloc hKsame
      unfold evT
      rw [p0]
      go_simp
      refine (drawNext gc 6 _ hC (by omega) (by omega)).mono ?_
      rintro e w2 ⟨r, rfl, r0, r1, _, hC2, hg2⟩
      have hk : K { tmps := #[x 0, x 1, x 2, x 3, x 4, x 5, x 6, x 7, x 8, x 9, .int .i64 r, x 11, x 12, x 13, x 14, x 15, x 16, x 17, x 18, x 19, x 20, x 21, x 22, x 23, x 24, x 25, x 26, x 27, x 28, x 29, x 30, x 31, x 32, x 33, x 34, x 35, x 36, x 37, x 38, x 39, x 40, x 41, x 42, x 43, x 44, x 45, x 46, x 47, x 48], defers := [] } w2 := hKgrow _ _ hC2 hg2 ⟨r, rfl, r0, r1 (by omega)⟩
      rw [hx0, p0] at hk
      exact hk
    · -- operation 6
      simp only [List.getElem?_toArray, List.getElem?_cons_succ, List.getElem?_cons_zero, Option.some.injEq] at ho
      subst ho
      simp only [Option.some.injEq] at hd
      subst hd
      have p0 : evPr w0 gc 5 (x 10) w := hdep ⟨5, .data⟩ (by simp) (by rfl)
      obtain ⟨r, hr, r0, r1⟩ := p0
      clear hdep hKalloc hKgrow
      unfold evT
      rw [hr]
      have hwr : IntKind.i64.wrap (10 * r) = 10 * r := IntWalk.i64_in _ (by omega)
      go_simp
      have hk : K { tmps := #[x 0, x 1, x 2, x 3, x 4, x 5, x 6, x 7, x 8, x 9, x 10, .int .i64 (10 * r), x 12, x 13, x 14, x 15, x 16, x 17, x 18, x 19, x 20, x 21, x 22, x 23, x 24, x 25, x 26, x 27, x 28, x 29, x 30, x 31, x 32, x 33, x 34, x 35, x 36, x 37, x 38, x 39, x 40, x 41, x 42, x 43, x 44, x 45, x 46, x 47, x 48], defers := [] } w := hKsame _ ⟨_, rfl, by omega, by omega⟩
      rw [hx0, hr] at hk
      exact hk
    · -- operation 7
      simp only [List.getElem?_toArray, List.getElem?_cons_succ, List.getElem?_cons_zero, Option.some.injEq] at ho
      subst ho
      simp only [Option.some.injEq] at hd
      subst hd
      clear hdep hKalloc hKgrow
      unfold evT
      rw [hx0]
      go_simp
      have hk : K { tmps := #[x 0, x 1, x 2, x 3, x 4, x 5, x 6, x 7, x 8, x 9, x 10, x 11, .pointer (some ⟨gc, 0, none⟩), x 13, x 14, x 15, x 16, x 17, x 18, x 19, x 20, x 21, x 22, x 23, x 24, x 25, x 26, x 27, x 28, x 29, x 30, x 31, x 32, x 33, x 34, x 35, x 36, x 37, x 38, x 39, x 40, x 41, x 42, x 43, x 44, x 45, x 46, x 47, x 48], defers := [] } w := hKsame _ rfl
      rw [hx0] at hk
      exact hk
    · -- operation 8
      simp only [List.getElem?_toArray, List.getElem?_cons_succ, List.getElem?_cons_zero, Option.some.injEq] at ho
      subst ho
      simp only [Option.some.injEq] at hd
      subst hd
      have p0 : evPr w0 gc 7 (x 12) w := hdep ⟨7, .data⟩ (by simp) (by rfl)
      replace p0 : x 12 = .pointer (some ⟨gc, 0, none⟩) := p0
      clear hdep hKalloc hKsame
      unfold evT
      rw [p0]
      go_simp
      refine (drawNext gc 256 _ hC (by omega) (by omega)).mono ?_
      rintro e w2 ⟨r, rfl, r0, r1, _, hC2, hg2⟩
      have hk : K { tmps := #[x 0, x 1, x 2, x 3, x 4, x 5, x 6, x 7, x 8, x 9, x 10, x 11, x 12, .int .i64 r, x 14, x 15, x 16, x 17, x 18, x 19, x 20, x 21, x 22, x 23, x 24, x 25, x 26, x 27, x 28, x 29, x 30, x 31, x 32, x 33, x 34, x 35, x 36, x 37, x 38, x 39, x 40, x 41, x 42, x 43, x 44, x 45, x 46, x 47, x 48], defers := [] } w2 := hKgrow _ _ hC2 hg2 ⟨r, rfl, r0, r1 (by omega)⟩
      rw [hx0, p0] at hk
      exact hk
    · -- operation 9
      simp only [List.getElem?_toArray, List.getElem?_cons_succ, List.getElem?_cons_zero, Option.some.injEq] at ho
      subst ho
      simp only [Option.some.injEq] at hd
      subst hd
      have p0 : evPr w0 gc 8 (x 13) w := hdep ⟨8, .data⟩ (by simp) (by rfl)
      obtain ⟨r, hr, r0, r1⟩ := p0
      clear hdep hKalloc hKgrow
      unfold evT
      rw [hr]
      have hwr : IntKind.i64.wrap (1000 * r) = 1000 * r := IntWalk.i64_in _ (by omega)
      go_simp
      have hk : K { tmps := #[x 0, x 1, x 2, x 3, x 4, x 5, x 6, x 7, x 8, x 9, x 10, x 11, x 12, x 13, .int .i64 (1000 * r), x 15, x 16, x 17, x 18, x 19, x 20, x 21, x 22, x 23, x 24, x 25, x 26, x 27, x 28, x 29, x 30, x 31, x 32, x 33, x 34, x 35, x 36, x 37, x 38, x 39, x 40, x 41, x 42, x 43, x 44, x 45, x 46, x 47, x 48], defers := [] } w := hKsame _ ⟨_, rfl, by omega, by omega⟩
      rw [hx0, hr] at hk
      exact hk
    · -- operation 10
      simp only [List.getElem?_toArray, List.getElem?_cons_succ, List.getElem?_cons_zero, Option.some.injEq] at ho
      subst ho
      simp only [Option.some.injEq] at hd
      subst hd
      clear hdep hKsame hKgrow
      unfold evT
      go_simp
      have hk : K { tmps := #[x 0, x 1, x 2, x 3, x 4, x 5, x 6, x 7, x 8, x 9, x 10, x 11, x 12, x 13, x 14, .slice (some ⟨w.heap.size, 0, none⟩) 4 4, x 16, x 17, x 18, x 19, x 20, x 21, x 22, x 23, x 24, x 25, x 26, x 27, x 28, x 29, x 30, x 31, x 32, x 33, x 34, x 35, x 36, x 37, x 38, x 39, x 40, x 41, x 42, x 43, x 44, x 45, x 46, x 47, x 48], defers := [] } (w.alloc (.cells #[.int .i64 1, .int .i64 1, .int .i64 2, .int .i64 5040] 3 (0, 0))) := hKalloc _ _ ⟨w.heap.size, rfl, Blk.new _ _ _, hzz⟩
      rw [hx0] at hk
      exact hk
    · -- operation 11
      simp only [List.getElem?_toArray, List.getElem?_cons_succ, List.getElem?_cons_zero, Option.some.injEq] at ho
      subst ho
      simp only [Option.some.injEq] at hd
      subst hd
      clear hdep hKalloc hKgrow
      unfold evT
      rw [hx0]
      go_simp
      have hk : K { tmps := #[x 0, x 1, x 2, x 3, x 4, x 5, x 6, x 7, x 8, x 9, x 10, x 11, x 12, x 13, x 14, x 15, .pointer (some ⟨gc, 0, none⟩), x 17, x 18, x 19, x 20, x 21, x 22, x 23, x 24, x 25, x 26, x 27, x 28, x 29, x 30, x 31, x 32, x 33, x 34, x 35, x 36, x 37, x 38, x 39, x 40, x 41, x 42, x 43, x 44, x 45, x 46, x 47, x 48], defers := [] } w := hKsame _ rfl
      rw [hx0] at hk
      exact hk
    · -- operation 12
      simp only [List.getElem?_toArray, List.getElem?_cons_succ, List.getElem?_cons_zero, Option.some.injEq] at ho
      subst ho
      simp only [Option.some.injEq] at hd
      subst hd
      have p0 : evPr w0 gc 11 (x 16) w := hdep ⟨11, .data⟩ (by simp) (by rfl)
      replace p0 : x 16 = .pointer (some ⟨gc, 0, none⟩) := p0
      clear hdep hKalloc hKsame
      unfold evT
      rw [p0]
      go_simp
      refine (drawNext gc 4 _ hC (by omega) (by omega)).mono ?_
      rintro e w2 ⟨r, rfl, r0, r1, _, hC2, hg2⟩
      have hk : K { tmps := #[x 0, x 1, x 2, x 3, x 4, x 5, x 6, x 7, x 8, x 9, x 10, x 11, x 12, x 13, x 14, x 15, x 16, .int .i64 r, x 18, x 19, x 20, x 21, x 22, x 23, x 24, x 25, x 26, x 27, x 28, x 29, x 30, x 31, x 32, x 33, x 34, x 35, x 36, x 37, x 38, x 39, x 40, x 41, x 42, x 43, x 44, x 45, x 46, x 47, x 48], defers := [] } w2 := hKgrow _ _ hC2 hg2 ⟨r, rfl, r0, r1 (by omega)⟩
      rw [hx0, p0] at hk
      exact hk
    · -- operation 13
      simp only [List.getElem?_toArray, List.getElem?_cons_succ, List.getElem?_cons_zero, Option.some.injEq] at ho
      subst ho
      simp only [Option.some.injEq] at hd
      subst hd
      have p0 : evPr w0 gc 10 (x 15) w := hdep ⟨10, .data⟩ (by simp) (by rfl)
      have p1 : evPr w0 gc 12 (x 17) w := hdep ⟨12, .data⟩ (by simp) (by rfl)
      obtain ⟨g, hg, hb, hgz⟩ := p0
      obtain ⟨r, hr, r0, r1⟩ := p1
      obtain ⟨k, rfl⟩ := Int.eq_ofNat_of_zero_le r0
      clear hdep hKalloc hKgrow
      unfold evT
      rw [hg, hr]
      go_simp
      have hk : K { tmps := #[x 0, x 1, x 2, x 3, x 4, x 5, x 6, x 7, x 8, x 9, x 10, x 11, x 12, x 13, x 14, x 15, x 16, x 17, .pointer (some ⟨g, k, none⟩), x 19, x 20, x 21, x 22, x 23, x 24, x 25, x 26, x 27, x 28, x 29, x 30, x 31, x 32, x 33, x 34, x 35, x 36, x 37, x 38, x 39, x 40, x 41, x 42, x 43, x 44, x 45, x 46, x 47, x 48], defers := [] } w := hKsame _ ⟨g, k, rfl, by omega, hb, hgz⟩
      rw [hx0, hg, hr] at hk
      exact hk
    · -- operation 14
      simp only [List.getElem?_toArray, List.getElem?_cons_succ, List.getElem?_cons_zero, Option.some.injEq] at ho
      subst ho
      simp only [Option.some.injEq] at hd
      subst hd
      have p0 : evPr w0 gc 13 (x 18) w := hdep ⟨13, .data⟩ (by simp) (by rfl)
      obtain ⟨g, k, hg, hk, hb, hgz⟩ := p0
      obtain ⟨u, hu, hcell⟩ : ∃ u : Int, (u = 1 ∨ u = 2 ∨ u = 5040) ∧ w.cell? ⟨g, k, none⟩ = some (.int .i64 u) := by
        rw [hb.cell]
        rcases (show k = 0 ∨ k = 1 ∨ k = 2 ∨ k = 3 by omega) with rfl | rfl | rfl | rfl
        · exact ⟨1, .inl rfl, rfl⟩
        · exact ⟨1, .inl rfl, rfl⟩
        · exact ⟨2, .inr (.inl rfl), rfl⟩
        · exact ⟨5040, .inr (.inr rfl), rfl⟩
      clear hdep hKalloc hKgrow
      unfold evT
      rw [hg]
      go_simp
      have hk : K { tmps := #[x 0, x 1, x 2, x 3, x 4, x 5, x 6, x 7, x 8, x 9, x 10, x 11, x 12, x 13, x 14, x 15, x 16, x 17, x 18, .int .i64 u, x 20, x 21, x 22, x 23, x 24, x 25, x 26, x 27, x 28, x 29, x 30, x 31, x 32, x 33, x 34, x 35, x 36, x 37, x 38, x 39, x 40, x 41, x 42, x 43, x 44, x 45, x 46, x 47, x 48], defers := [] } w := hKsame _ ⟨u, rfl, hu⟩
      rw [hx0, hg] at hk
      exact hk
    · -- operation 15
      simp only [List.getElem?_toArray, List.getElem?_cons_succ, List.getElem?_cons_zero, Option.some.injEq] at ho
      subst ho
      simp only [Option.some.injEq] at hd
      subst hd
      clear hdep hKalloc hKgrow
      unfold evT
      rw [hx0]
      go_simp
      have hk : K { tmps := #[x 0, x 1, x 2, x 3, x 4, x 5, x 6, x 7, x 8, x 9, x 10, x 11, x 12, x 13, x 14, x 15, x 16, x 17, x 18, x 19, .pointer (some ⟨gc, 0, none⟩), x 21, x 22, x 23, x 24, x 25, x 26, x 27, x 28, x 29, x 30, x 31, x 32, x 33, x 34, x 35, x 36, x 37, x 38, x 39, x 40, x 41, x 42, x 43, x 44, x 45, x 46, x 47, x 48], defers := [] } w := hKsame _ rfl
      rw [hx0] at hk
      exact hk
    · -- operation 16
      simp only [List.getElem?_toArray, List.getElem?_cons_succ, List.getElem?_cons_zero, Option.some.injEq] at ho
      subst ho
      simp only [Option.some.injEq] at hd
      subst hd
      clear hdep hKsame hKgrow
      unfold evT
      go_simp
      have hk : K { tmps := #[x 0, x 1, x 2, x 3, x 4, x 5, x 6, x 7, x 8, x 9, x 10, x 11, x 12, x 13, x 14, x 15, x 16, x 17, x 18, x 19, x 20, .slice (some ⟨w.heap.size, 0, none⟩) 4 4, x 22, x 23, x 24, x 25, x 26, x 27, x 28, x 29, x 30, x 31, x 32, x 33, x 34, x 35, x 36, x 37, x 38, x 39, x 40, x 41, x 42, x 43, x 44, x 45, x 46, x 47, x 48], defers := [] } (w.alloc (.cells #[.string ⟨#[]⟩, .string ⟨#[116, 49]⟩, .string ⟨#[116, 50]⟩, .string ⟨#[105, 100]⟩] 9 (0, 0))) := hKalloc _ _ ⟨w.heap.size, rfl, Blk.new _ _ _, hzz⟩
      rw [hx0] at hk
      exact hk
    · -- operation 17
      simp only [List.getElem?_toArray, List.getElem?_cons_succ, List.getElem?_cons_zero, Option.some.injEq] at ho
      subst ho
      simp only [Option.some.injEq] at hd
      subst hd
      have p0 : evPr w0 gc 15 (x 20) w := hdep ⟨15, .data⟩ (by simp) (by rfl)
      have p1 : evPr w0 gc 16 (x 21) w := hdep ⟨16, .data⟩ (by simp) (by rfl)
      replace p0 : x 20 = .pointer (some ⟨gc, 0, none⟩) := p0
      obtain ⟨g, hg, hb, hgz⟩ := p1
      clear hdep hKalloc hKsame
      unfold evT
      rw [p0, hg]
      go_simp
      refine (pick_blk gc g 4 _ _ hC hb (by omega) (by rfl) (by omega) (by omega)).mono ?_
      rintro e w2 ⟨s, rfl, hs, hC2, hg2⟩
      have hk : K { tmps := #[x 0, x 1, x 2, x 3, x 4, x 5, x 6, x 7, x 8, x 9, x 10, x 11, x 12, x 13, x 14, x 15, x 16, x 17, x 18, x 19, x 20, x 21, .string s, x 23, x 24, x 25, x 26, x 27, x 28, x 29, x 30, x 31, x 32, x 33, x 34, x 35, x 36, x 37, x 38, x 39, x 40, x 41, x 42, x 43, x 44, x 45, x 46, x 47, x 48], defers := [] } w2 := hKgrow _ _ hC2 hg2 ⟨s, rfl, by omega⟩
      rw [hx0, p0, hg] at hk
      exact hk
    · -- operation 18
      simp only [List.getElem?_toArray, List.getElem?_cons_succ, List.getElem?_cons_zero, Option.some.injEq] at ho
      subst ho
      simp only [Option.some.injEq] at hd
      subst hd
      clear hdep hKalloc hKgrow
      unfold evT
      rw [hx0]
      go_simp
      have hk : K { tmps := #[x 0, x 1, x 2, x 3, x 4, x 5, x 6, x 7, x 8, x 9, x 10, x 11, x 12, x 13, x 14, x 15, x 16, x 17, x 18, x 19, x 20, x 21, x 22, .pointer (some ⟨gc, 0, none⟩), x 24, x 25, x 26, x 27, x 28, x 29, x 30, x 31, x 32, x 33, x 34, x 35, x 36, x 37, x 38, x 39, x 40, x 41, x 42, x 43, x 44, x 45, x 46, x 47, x 48], defers := [] } w := hKsame _ rfl
      rw [hx0] at hk
      exact hk
    · -- operation 19
      simp only [List.getElem?_toArray, List.getElem?_cons_succ, List.getElem?_cons_zero, Option.some.injEq] at ho
      subst ho
      simp only [Option.some.injEq] at hd
      subst hd
      clear hdep hKsame hKgrow
      unfold evT
      go_simp
      have hk : K { tmps := #[x 0, x 1, x 2, x 3, x 4, x 5, x 6, x 7, x 8, x 9, x 10, x 11, x 12, x 13, x 14, x 15, x 16, x 17, x 18, x 19, x 20, x 21, x 22, x 23, .slice (some ⟨w.heap.size, 0, none⟩) 2 2, x 25, x 26, x 27, x 28, x 29, x 30, x 31, x 32, x 33, x 34, x 35, x 36, x 37, x 38, x 39, x 40, x 41, x 42, x 43, x 44, x 45, x 46, x 47, x 48], defers := [] } (w.alloc (.cells #[.string ⟨#[109, 97, 105, 110]⟩, .string ⟨#[97, 117, 100, 105, 116]⟩] 9 (0, 0))) := hKalloc _ _ ⟨w.heap.size, rfl, Blk.new _ _ _, hzz⟩
      rw [hx0] at hk
      exact hk
    · -- operation 20
      simp only [List.getElem?_toArray, List.getElem?_cons_succ, List.getElem?_cons_zero, Option.some.injEq] at ho
      subst ho
      simp only [Option.some.injEq] at hd
      subst hd
      have p0 : evPr w0 gc 18 (x 23) w := hdep ⟨18, .data⟩ (by simp) (by rfl)
      have p1 : evPr w0 gc 19 (x 24) w := hdep ⟨19, .data⟩ (by simp) (by rfl)
      replace p0 : x 23 = .pointer (some ⟨gc, 0, none⟩) := p0
      obtain ⟨g, hg, hb, hgz⟩ := p1
      clear hdep hKalloc hKsame
      unfold evT
      rw [p0, hg]
      go_simp
      refine (pick_blk gc g 2 _ _ hC hb (by omega) (by rfl) (by omega) (by omega)).mono ?_
      rintro e w2 ⟨s, rfl, hs, hC2, hg2⟩
      have hk : K { tmps := #[x 0, x 1, x 2, x 3, x 4, x 5, x 6, x 7, x 8, x 9, x 10, x 11, x 12, x 13, x 14, x 15, x 16, x 17, x 18, x 19, x 20, x 21, x 22, x 23, x 24, .string s, x 26, x 27, x 28, x 29, x 30, x 31, x 32, x 33, x 34, x 35, x 36, x 37, x 38, x 39, x 40, x 41, x 42, x 43, x 44, x 45, x 46, x 47, x 48], defers := [] } w2 := hKgrow _ _ hC2 hg2 ⟨s, rfl, by omega⟩
      rw [hx0, p0, hg] at hk
      exact hk
    · -- operation 21
      simp only [List.getElem?_toArray, List.getElem?_cons_succ, List.getElem?_cons_zero, Option.some.injEq] at ho
      subst ho
      simp only [Option.some.injEq] at hd
      subst hd
      clear hdep hKalloc hKgrow
      unfold evT
      rw [hx0]
      go_simp
      have hk : K { tmps := #[x 0, x 1, x 2, x 3, x 4, x 5, x 6, x 7, x 8, x 9, x 10, x 11, x 12, x 13, x 14, x 15, x 16, x 17, x 18, x 19, x 20, x 21, x 22, x 23, x 24, x 25, .pointer (some ⟨gc, 0, none⟩), x 27, x 28, x 29, x 30, x 31, x 32, x 33, x 34, x 35, x 36, x 37, x 38, x 39, x 40, x 41, x 42, x 43, x 44, x 45, x 46, x 47, x 48], defers := [] } w := hKsame _ rfl
      rw [hx0] at hk
      exact hk
    · -- operation 22
      simp only [List.getElem?_toArray, List.getElem?_cons_succ, List.getElem?_cons_zero, Option.some.injEq] at ho
      subst ho
      simp only [Option.some.injEq] at hd
      subst hd
      have p0 : evPr w0 gc 21 (x 26) w := hdep ⟨21, .data⟩ (by simp) (by rfl)
      replace p0 : x 26 = .pointer (some ⟨gc, 0, none⟩) := p0
      clear hdep hKalloc hKsame
      unfold evT
      rw [p0]
      go_simp
      refine (makeFields gc _ hC).mono ?_
      rintro e w2 ⟨vf, F, rfl, hF, hFl, hC2, hg2⟩
      obtain ⟨A, c, hA⟩ := own_slice hF
      have hk : K { tmps := #[x 0, x 1, x 2, x 3, x 4, x 5, x 6, x 7, x 8, x 9, x 10, x 11, x 12, x 13, x 14, x 15, x 16, x 17, x 18, x 19, x 20, x 21, x 22, x 23, x 24, x 25, x 26, vf, x 28, x 29, x 30, x 31, x 32, x 33, x 34, x 35, x 36, x 37, x 38, x 39, x 40, x 41, x 42, x 43, x 44, x 45, x 46, x 47, x 48], defers := [] } w2 := hKgrow _ _ hC2 hg2 ⟨F, A, c, hA, own_base hF hzz, hFl⟩
      rw [hx0, p0] at hk
      exact hk
    · -- operation 23
      simp only [List.getElem?_toArray, List.getElem?_cons_succ, List.getElem?_cons_zero, Option.some.injEq] at ho
      subst ho
      simp only [Option.some.injEq] at hd
      subst hd
      have a1 : evPr w0 gc 1 (x 6) w := hdep ⟨1, .data⟩ (by simp) (by rfl)
      have a3 : evPr w0 gc 3 (x 8) w := hdep ⟨3, .data⟩ (by simp) (by rfl)
      have a6 : evPr w0 gc 6 (x 11) w := hdep ⟨6, .data⟩ (by simp) (by rfl)
      have a9 : evPr w0 gc 9 (x 14) w := hdep ⟨9, .data⟩ (by simp) (by rfl)
      have a14 : evPr w0 gc 14 (x 19) w := hdep ⟨14, .data⟩ (by simp) (by rfl)
      have a17 : evPr w0 gc 17 (x 22) w := hdep ⟨17, .data⟩ (by simp) (by rfl)
      have a20 : evPr w0 gc 20 (x 25) w := hdep ⟨20, .data⟩ (by simp) (by rfl)
      have a22 : evPr w0 gc 22 (x 27) w := hdep ⟨22, .data⟩ (by simp) (by rfl)
      obtain ⟨r1, e1, _, _⟩ := a1
      obtain ⟨r3, e3, _, _⟩ := a3
      obtain ⟨r6, e6, l6, u6⟩ := a6
      obtain ⟨r9, e9, _, _⟩ := a9
      obtain ⟨r14, e14, h14⟩ := a14
      obtain ⟨s17, e17, h17⟩ := a17
      obtain ⟨s20, e20, h20⟩ := a20
      obtain ⟨F, AA, cc, e22, hF, hFl⟩ := a22
      clear hdep hKalloc hKgrow
      unfold evT
      rw [e22] at hF
      rw [e1, e3, e6, e9, e14, e17, e20, e22]
      go_simp
      have hk : K { tmps := #[x 0, x 1, x 2, x 3, x 4, x 5, x 6, x 7, x 8, x 9, x 10, x 11, x 12, x 13, x 14, x 15, x 16, x 17, x 18, x 19, x 20, x 21, x 22, x 23, x 24, x 25, x 26, x 27, .agg #[.int .i64 r1, .int .i64 r3, .int .i64 r6, .int .i64 0, .slice none 0 0, .int .i64 r9, .int .i64 r14, .string s17, .string s20, .slice AA F.length cc], x 29, x 30, x 31, x 32, x 33, x 34, x 35, x 36, x 37, x 38, x 39, x 40, x 41, x 42, x 43, x 44, x 45, x 46, x 47, x 48], defers := [] } w := hKsame _ ⟨⟨r1, r3, r6, 0, .slice none 0 0, r9, r14, s17, s20, .slice AA F.length cc⟩, F, rfl, ⟨⟨l6, u6⟩, rfl, rfl, h14, h17, h20⟩, hF, hFl⟩
      rw [hx0, e1, e3, e6, e9, e14, e17, e20, e22] at hk
      exact hk
    · -- operation 24
      simp only [List.getElem?_toArray, List.getElem?_cons_succ, List.getElem?_cons_zero, Option.some.injEq] at ho
      subst ho
      simp only [Option.some.injEq] at hd
      subst hd
      clear hdep hKsame hKgrow
      unfold evT
      go_simp
      have hk : K { tmps := #[x 0, x 1, x 2, .pointer (some ⟨w.heap.size, 0, none⟩), x 4, x 5, x 6, x 7, x 8, x 9, x 10, x 11, x 12, x 13, x 14, x 15, x 16, x 17, x 18, x 19, x 20, x 21, x 22, x 23, x 24, x 25, x 26, x 27, x 28, x 29, x 30, x 31, x 32, x 33, x 34, x 35, x 36, x 37, x 38, x 39, x 40, x 41, x 42, x 43, x 44, x 45, x 46, x 47, x 48], defers := [] } (w.alloc (.cells #[.int .i64 0, .int .i64 0, .int .i64 0, .int .i64 0, .slice none 0 0, .int .i64 0, .int .i64 0, .string ⟨#[]⟩, .string ⟨#[]⟩, .slice none 0 0] 48 (0, 0))) := hKalloc _ _ ⟨w.heap.size, rfl, Blk.new _ _ _, hzz⟩
      rw [hx0] at hk
      exact hk
  case last =>
    intro o ho x w K hW hout hall hK
    obtain ⟨hC, hG⟩ := hW
    have ho' := ho
    clear ho
    change ((#[_, _, _, _, _, _, _, _, _, _, _, _, _, _, _, _, _, _, _, _, _, _, _, _, _, _] : Array Oper)[25]?) = some o at ho'
    simp only [List.getElem?_toArray, List.getElem?_cons_succ, List.getElem?_cons_zero, Option.some.injEq] at ho'
    subst ho'
    have p23 : evPr w0 gc 23 (x 28) w := hall 23 (by decide)
    have p24 : evPr w0 gc 24 (x 3) w := hall 24 (by decide)
    clear hall
    obtain ⟨⟨vho, vfi, vfr, vto, vln, vti, vwt, vtr, vst, vfd⟩, F, hv, hEB, hF, hFl⟩ := p23
    obtain ⟨g, hg, hb, hgz⟩ := p24
    unfold Ev.vals at hv
    have hEln := hEB.ln
    simp only at hv hEln hF
    subst hEln
    obtain ⟨AA, cc, rfl⟩ := own_slice hF
    have hne := blk_apart (by decide) hb hF
    have hgc' : gc < g := by have := hC.lt_; have := hC0.lt_; omega
    have c0 : w.cell? ⟨g, 0, none⟩ = some (.int .i64 0) := by rw [hb.cell]; rfl
    have f0 := hb.frozen 0
    have c1 : w.cell? ⟨g, 1, none⟩ = some (.int .i64 0) := by rw [hb.cell]; rfl
    have f1 := hb.frozen 1
    have c2 : w.cell? ⟨g, 2, none⟩ = some (.int .i64 0) := by rw [hb.cell]; rfl
    have f2 := hb.frozen 2
    have c3 : w.cell? ⟨g, 3, none⟩ = some (.int .i64 0) := by rw [hb.cell]; rfl
    have f3 := hb.frozen 3
    have c4 : w.cell? ⟨g, 4, none⟩ = some (.slice none 0 0) := by rw [hb.cell]; rfl
    have f4 := hb.frozen 4
    have c5 : w.cell? ⟨g, 5, none⟩ = some (.int .i64 0) := by rw [hb.cell]; rfl
    have f5 := hb.frozen 5
    have c6 : w.cell? ⟨g, 6, none⟩ = some (.int .i64 0) := by rw [hb.cell]; rfl
    have f6 := hb.frozen 6
    have c7 : w.cell? ⟨g, 7, none⟩ = some (.string ⟨#[]⟩) := by rw [hb.cell]; rfl
    have f7 := hb.frozen 7
    have c8 : w.cell? ⟨g, 8, none⟩ = some (.string ⟨#[]⟩) := by rw [hb.cell]; rfl
    have f8 := hb.frozen 8
    have c9 : w.cell? ⟨g, 9, none⟩ = some (.slice none 0 0) := by rw [hb.cell]; rfl
    have f9 := hb.frozen 9
    unfold evT
    rw [hv, hg]
    go_simp
    obtain ⟨hb', hg'⟩ := ten_sets hb (.int .i64 vho) (.int .i64 vfi) (.int .i64 vfr) (.int .i64 vto) (.slice none 0 0) (.int .i64 vti) (.int .i64 vwt) (.string vtr) (.string vst) (.slice AA F.length cc)
    have hk := hK _ (⟨g, ⟨vho, vfi, vfr, vto, .slice none 0 0, vti, vwt, vtr, vst, .slice AA F.length cc⟩, F, hg, hb', hEB, hF.kept hg' (.inr (fun e => hne e.symm)), hFl, hgz, hC.grown hg' hgc', World.grownBy.andThen hG hg' (fun j hj => .inl (by injection hj with hj; omega))⟩)
    unfold evT at hk
    rw [hv, hg] at hk
    exact hk
end Go.Proofs.YtncmbdcicjolcaaDoor
