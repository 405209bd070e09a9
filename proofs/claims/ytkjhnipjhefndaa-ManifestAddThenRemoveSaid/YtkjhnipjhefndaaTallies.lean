/- The contract of the drawing package's Tallies. -/
import Derived.Test.YtkjhnipjhefndaaAdd28
import Derived.Test.YtkjhnipjhefndaaDraws
namespace Go.Proofs.Ytkjhnipjhefndaa
open Go.RowKit

theorem Codes.alloc {w : World} {gc : Nat} (h : Codes w gc) (o : Obj) : Codes (w.alloc o) gc := h.under ((Below.refl _ w).alloc (Nat.le_refl _) o) h.lt_
theorem Codes.drew {w : World} {gc : Nat} (h : Codes w gc) : Codes w.drew gc := h.under (Below.refl _ w).drew h.lt_
def tstrs : List ByteArray := [⟨#[]⟩, ⟨#[42]⟩, ⟨#[100, 114, 111, 112]⟩, ⟨#[115, 97, 109, 112, 108, 101]⟩]
def strAt (k : Nat) : ByteArray := tstrs.getD k ⟨#[]⟩
theorem strAt_size (k : Nat) : (strAt k).size ≤ 32 := by
  match k with
  | 0 => decide
  | 1 => decide
  | 2 => decide
  | 3 => decide
  | k + 4 => exact Nat.zero_le _
theorem strAt_lit (k : Nat) (h : k < 4) : (#[Value.string ⟨#[]⟩, .string ⟨#[42]⟩, .string ⟨#[100, 114, 111, 112]⟩, .string ⟨#[115, 97, 109, 112, 108, 101]⟩])[k]? = some (.string (strAt k)) := by
  rcases (by omega : k = 0 ∨ k = 1 ∨ k = 2 ∨ k = 3) with rfl | rfl | rfl | rfl <;> rfl
theorem strAt_list (k : Nat) (h : k < 4) : ([Value.string ⟨#[]⟩, .string ⟨#[42]⟩, .string ⟨#[100, 114, 111, 112]⟩, .string ⟨#[115, 97, 109, 112, 108, 101]⟩])[k]? = some (.string (strAt k)) := by
  rcases (by omega : k = 0 ∨ k = 1 ∨ k = 2 ∨ k = 3) with rfl | rfl | rfl | rfl <;> rfl
theorem strAt_get (k : Nat) (h : k < ([Value.string ⟨#[]⟩, .string ⟨#[42]⟩, .string ⟨#[100, 114, 111, 112]⟩, .string ⟨#[115, 97, 109, 112, 108, 101]⟩]).length) : ([Value.string ⟨#[]⟩, .string ⟨#[42]⟩, .string ⟨#[100, 114, 111, 112]⟩, .string ⟨#[115, 97, 109, 112, 108, 101]⟩])[k] = .string (strAt k) := by
  have h4 : k < 4 := h
  rcases (by omega : k = 0 ∨ k = 1 ∨ k = 2 ∨ k = 3) with rfl | rfl | rfl | rfl <;> rfl
theorem codes_below {w w' : World} {gc : Nat} (h : Codes w gc) (hb : Below w.heap.size w w') : Codes w' gc := h.under hb h.lt_
def strLit : Obj := .cells #[Value.string ⟨#[]⟩, .string ⟨#[42]⟩, .string ⟨#[100, 114, 111, 112]⟩, .string ⟨#[115, 97, 109, 112, 108, 101]⟩] 9
/-- Blocks that are there, but for one. -/
abbrev But (w : World) (gc : Nat) : Nat → Prop := fun b => b < w.heap.size ∧ b ≠ gc
theorem sl_but {w w' : World} {gc size n : Nat} {v : Value} {xs : List Value} (h : Sl w (But w gc) size v n xs) (hg : w.grownBy w' (some gc)) : Sl w' (But w' gc) size v n xs :=
  (h.grown hg (fun b hb => ⟨hb.1, fun e => by injection e with e; exact hb.2 e⟩)).mono (fun b hb => ⟨Nat.lt_of_lt_of_le hb.1 hg.size, hb.2⟩)
theorem sl_but_below {w w' : World} {gc size n : Nat} {v : Value} {xs : List Value} (h : Sl w (But w gc) size v n xs) (hb : Below w.heap.size w w') : Sl w' (But w' gc) size v n xs :=
  (h.under hb (fun _ hb => hb.1)).mono (fun _ hx => ⟨Nat.lt_of_lt_of_le hx.1 hb.size, hx.2⟩)
theorem gcell {w w' : World} {gc : Nat} (hg : w.grownBy w' (some gc)) : ∀ b o, b < w.heap.size → ¬ b = gc → w'.cell? ⟨b, o, none⟩ = w.cell? ⟨b, o, none⟩ :=
  fun b _ hb hne => World.cell?_of_block (hg.block b hb (fun e => hne (by injection e)))
theorem galloc {a w w' : World} {o : Obj} {r : Option Nat} (h : a.grownBy w r) (hg : (w.alloc o).grownBy w' r) : a.grownBy w' r := grownBy_trans h (grownBy_trans (World.grownBy_alloc _ _ _) hg)
theorem sl_new {w w' : World} {gc size n : Nat} {v : Value} {xs : List Value} (hC : Codes w gc) (h : Sl w' (btw w.heap.size w'.heap.size) size v n xs) : Sl w' (But w' gc) size v n xs :=
  h.mono (fun _ hb => ⟨hb.2, by have := hC.lt_; have := hb.1; omega⟩)
theorem gsz {w w' : World} {o : Obj} {r : Option Nat} (hg : ((w.alloc o).drew).grownBy w' r) : w.heap.size < w'.heap.size := by
  have h1 := hg.size
  have h2 : ((w.alloc o).drew).heap.size = w.heap.size + 1 := by simp
  omega
theorem gdrew {a w w' : World} {o : Obj} {r : Option Nat} (h : a.grownBy w r) (hg : ((w.alloc o).drew).grownBy w' r) : a.grownBy w' r :=
  grownBy_trans h (grownBy_trans (grownBy_drew (World.grownBy_alloc _ _ _)) hg)
theorem gcell2 {w w' : World} {o : Obj} {gc : Nat} (hg : ((w.alloc o).drew).grownBy w' (some gc)) : ∀ b i, b < w.heap.size + 1 → ¬ b = gc → w'.cell? ⟨b, i, none⟩ = (w.alloc o).cell? ⟨b, i, none⟩ :=
  fun b _ hb hne => World.cell?_of_block (hg.block b (by simpa using hb) (fun e => hne (by injection e)))
theorem sl_from {w w' : World} {gc B size n : Nat} {v : Value} {xs : List Value} (h : Sl w (btw B w.heap.size) size v n xs) (hg : w.grownBy w' (some gc)) (hB : gc < B) : Sl w' (btw B w'.heap.size) size v n xs :=
  (h.grown hg (fun b hb => ⟨hb.2, fun e => by injection e with e; have := hb.1; omega⟩)).mono (fun _ hb => ⟨hb.1, Nat.lt_of_lt_of_le hb.2 hg.size⟩)
theorem sl_newer {a w w' : World} {r : Option Nat} {size n : Nat} {v : Value} {xs : List Value} (hG : a.grownBy w r) (h : Sl w' (btw w.heap.size w'.heap.size) size v n xs) : Sl w' (btw a.heap.size w'.heap.size) size v n xs :=
  h.mono (fun _ hb => ⟨Nat.le_trans hG.size hb.1, hb.2⟩)
def TalsRes (w : World) (gc : Nat) (e : Ending) (w' : World) : Prop :=
  ∃ v l, e = .returned v ∧ Sl w' (btw w.heap.size w'.heap.size) 3 v l.length (l.flatMap Tl.vals) ∧ asc tlLess l = true ∧ l.length ≤ 4 ∧ (∀ t ∈ l, TlOk 40 t) ∧ Codes w' gc ∧ w.grownBy w' (some gc)

set_option maxHeartbeats 2000000 in
set_option maxRecDepth 100000 in
theorem drawTallies (gc : Nat) (w : World) (h : Codes w gc) : Calls Try.prog 34 #[.pointer (some ⟨gc, 0, none⟩)] w (TalsRes w gc) := by
  have hgc := h.lt_
  go_enter Try.func34, Try.ntmps34
  go_wp2_with fail
  refine (drawNext gc _ _ h (by omega) (by omega)).mono ?_
  rintro e w1 ⟨r, rfl, r0, r1, _, hC1, hg1⟩
  have r2 := r1 (by omega)
  clear r1
  go_wp2_with fail
  go_loopw [3, 4] (fun v n wr => ∃ (m : Int) (l : List Tl), n = .int .i64 m ∧ 0 ≤ m ∧ m + l.length ≤ r ∧ Sl wr (btw w.heap.size wr.heap.size) 3 v l.length (l.flatMap Tl.vals) ∧ Hid (asc tlLess l = true) ∧ Hid (∀ t ∈ l, TlOk (10 * (r - m)) t) ∧ Codes wr gc ∧ w.grownBy wr (some gc))
    (fun _ n _ => (intOf n).toNat)
  case atStart => exact ⟨r, [], rfl, r0, by simp, Sl.nil _ _ _ _ _, keep rfl, keep (by simp), hC1, hg1⟩
  case round =>
    clear hC1 hg1
    obtain ⟨m, l, rfl, hm0, hml, hS, HA, HO, hC, hG⟩ := hrel
    obtain ⟨wo, rfl⟩ : ∃ wo : World, wo = wr := ⟨_, rfl⟩
    by_cases hp : 0 < m
    · have hd : decide (0 < m) = true := by simpa using hp
      obtain ⟨A, c, rfl, hc, hS⟩ := hS.form
      have hCd := hC.drew
      have hld := hCd.lt_
      have hne0 : ¬ wo.heap.size = gc := by have := hC.lt_; omega
      have hG00 : wo.grownBy wo (some gc) := World.grownBy.refl _ _
      have hG0 : wo.grownBy wo.drew (some gc) := grownBy_drew (World.grownBy.refl _ _)
      have hlit := strAt_list
      have hget := strAt_get
      have hl4 : l.length ≤ 1000 := by omega
      have hB10 : (0 : Int) ≤ 10 * (r - m) ∧ 10 * (r - m) ≤ 1000000 := by omega
      have hst := strAt_size
      go_upto_region 5 with fail
      go_region_with (first
        | (go_at_call 31; (with_reducible refine (drawNext gc 2 _ ?_ (by omega) (by omega)).mono ?_); (first | assumption | (refine Codes.alloc ?_ _; assumption) | (refine Codes.drew (Codes.alloc ?_ _); assumption)); rintro e w' ⟨x, rfl, x0, x1, _, hC', hg'⟩; have x2 := x1 (by omega); obtain ⟨ka, rfl⟩ := Int.eq_ofNat_of_zero_le x0; clear x1; have hka : ka < 2 := (by omega); have ika : IntKind.i64.wrap (1 + (ka : Int)) = 1 + (ka : Int) := (by rw [IntWalk.i64_left]; exact IntWalk.wrap64_in _ (by omega)); clear x0 x2; (first | (have hcl' := gcell2 hg') | (have hcl' := gcell hg')); have hz' := hg'.size; have hne' : ¬ w'.heap.size = gc := (by have := hC'.lt_; omega); (try simp only [World.size_alloc] at hz'); (first | (have hzw : wo.heap.size < w'.heap.size := gsz hg') | (have hzw : wo.heap.size < w'.heap.size := hz') | (have hzw := Nat.lt_of_lt_of_le hzw hz') | skip); (first | (have hq := Nat.lt_of_succ_le hz') | skip); have hG' : wo.grownBy w' (some gc) := (by first | (refine grownBy_trans ?_ hg'; assumption) | (refine galloc ?_ hg'; assumption) | (refine gdrew ?_ hg'; assumption)))
        | (go_at_call 31; (with_reducible refine (drawNext gc 4 _ ?_ (by omega) (by omega)).mono ?_); (first | assumption | (refine Codes.alloc ?_ _; assumption) | (refine Codes.drew (Codes.alloc ?_ _); assumption)); rintro e w' ⟨x, rfl, x0, x1, _, hC', hg'⟩; have x2 := x1 (by omega); obtain ⟨kb, rfl⟩ := Int.eq_ofNat_of_zero_le x0; clear x1; have hkb : kb < 4 := (by omega); have ikb : IntKind.i64.wrap (1 + (kb : Int)) = 1 + (kb : Int) := (by rw [IntWalk.i64_left]; exact IntWalk.wrap64_in _ (by omega)); clear x0 x2; (first | (have hcl' := gcell2 hg') | (have hcl' := gcell hg')); have hz' := hg'.size; have hne' : ¬ w'.heap.size = gc := (by have := hC'.lt_; omega); (try simp only [World.size_alloc] at hz'); (first | (have hzw : wo.heap.size < w'.heap.size := gsz hg') | (have hzw : wo.heap.size < w'.heap.size := hz') | (have hzw := Nat.lt_of_lt_of_le hzw hz') | skip); (first | (have hq := Nat.lt_of_succ_le hz') | skip); have hG' : wo.grownBy w' (some gc) := (by first | (refine grownBy_trans ?_ hg'; assumption) | (refine galloc ?_ hg'; assumption) | (refine gdrew ?_ hg'; assumption)))
        | (go_at_call 31; (with_reducible refine (drawNext gc 9 _ ?_ (by omega) (by omega)).mono ?_); (first | assumption | (refine Codes.alloc ?_ _; assumption) | (refine Codes.drew (Codes.alloc ?_ _); assumption)); rintro e w' ⟨x, rfl, x0, x1, _, hC', hg'⟩; have x2 := x1 (by omega); obtain ⟨kc, rfl⟩ := Int.eq_ofNat_of_zero_le x0; clear x1; have hkc : kc < 9 := (by omega); have ikc : IntKind.i64.wrap (1 + (kc : Int)) = 1 + (kc : Int) := (by rw [IntWalk.i64_left]; exact IntWalk.wrap64_in _ (by omega)); clear x0 x2; (first | (have hcl' := gcell2 hg') | (have hcl' := gcell hg')); have hz' := hg'.size; have hne' : ¬ w'.heap.size = gc := (by have := hC'.lt_; omega); (try simp only [World.size_alloc] at hz'); (first | (have hzw : wo.heap.size < w'.heap.size := gsz hg') | (have hzw : wo.heap.size < w'.heap.size := hz') | (have hzw := Nat.lt_of_lt_of_le hzw hz') | skip); (first | (have hq := Nat.lt_of_succ_le hz') | skip); have hG' : wo.grownBy w' (some gc) := (by first | (refine grownBy_trans ?_ hg'; assumption) | (refine galloc ?_ hg'; assumption) | (refine gdrew ?_ hg'; assumption)))
        | (go_at_call 70; refine (add28_any _ l _ (strAt kb) _ (10 * (r - m)) _ ?_ hl4 hB10 HO.out HA.out (by omega) (hst kb) (by omega)).mono ?_; (refine Sl.mono (sl_from hS ?_ hgc) (fun _ h => h.2); first | assumption | (refine grownBy_trans ?_ (World.grownBy_alloc _ _ _); assumption)); rintro e w2 ⟨v2, l2, rfl, hS2, ha2, hl2, ho2, hb2⟩; have hC2 : Codes w2 gc := (by refine codes_below ?_ hb2; first | assumption | (refine Codes.alloc ?_ _; assumption)); have hG2 : wo.grownBy w2 (some gc) := (by refine grownBy_trans ?_ (grownBy_of_below hb2 _); first | assumption | (refine grownBy_trans ?_ (World.grownBy_alloc _ _ _); assumption)); have hSn : Sl w2 (btw w.heap.size w2.heap.size) 3 v2 l2.length (l2.flatMap Tl.vals) := (by refine sl_newer (grownBy_trans hG ?_) hS2; first | assumption | (refine grownBy_trans ?_ (World.grownBy_alloc _ _ _); assumption)); have HA2 := keep ha2; have HO2 := keep ho2; clear ha2 ho2))
      all_goals
        go_wp2_with fail
        go_roundw
        case rel =>
          exact ⟨m - 1, l2, by go_num, by omega, by omega, hSn, HA2, keep (fun t ht => (HO2.out t ht).more (by omega)), hC2, grownBy_trans hG hG2⟩
        case measure => simp [intOf]; omega
    · have hd : decide (0 < m) = false := by simpa using hp
      go_wp2_with fail
      go_ret
      exact ⟨_, l, rfl, hS, HA.out, by omega, fun t ht => (HO.out t ht).more (by omega), hC, hG⟩
end Go.Proofs.Ytkjhnipjhefndaa
