/- MinerMerges: the walk of the statement. -/
import Derived.Test.YtigogjlbemkhdaaAwake15
import Derived.Test.YtigogjlbemkhdaaMerge
namespace Go.Proofs.Ytigogjlbemkhdaa
open Go.RowKit

section
variable {w : World} {S : Nat → Prop} {A : Option Addr} {c n : Nat} {T : List ByteArray}
def CutAs (lo hi : Option Value) (A : Option Addr) (n c k : Nat) (x : Value) : Prop := (∀ wx, (Instr.slice 27 (.slice A n c) lo hi none).run Try.prog wx = .ok x wx) ∧ ∃ B m, x = .slice B k m
theorem size_str (wx : World) : (sizeOf (Program.elem Try.prog 27)).run Try.prog wx = .ok 1 wx := by
  rw [show Program.elem Try.prog 27 = 9 by kernel_rfl]; kernel_rfl
theorem und_strs : Try.prog.underlying 27 = some (.slice (Program.elem Try.prog 27)) := by kernel_rfl
theorem add_zero_addr (a : Addr) : a.add 0 = a := by
  unfold Addr.add; cases a; rename_i x; cases x <;> rfl
theorem cut_h (h : Sl w S 1 (.slice A T.length c) T.length (T.map .string)) (i : Nat) (hi : i ≤ T.length) :
    ∃ x, CutAs none (some (.int .i64 i)) A T.length c i x ∧ Sl w S 1 x i ((T.take i).map .string) := by
  obtain ⟨_, _, _, he, hc, _⟩ := id h
  injection he with _ _ he
  subst he
  have h2 := h.take hi
  refine ⟨.slice (if c = 0 then A else A.map (·.add (0 * 1))) i c, ⟨fun wx => ?_, _, _, rfl⟩, ?_⟩
  · rw [run_slice_h _ _ A _ c und_strs .i64 i (by omega) (by omega), size_str]
    simp [Result.andThen, sliced]
  · have e : (if c = 0 then A else A.map (·.add (0 * 1))) = A := by
      split
      · rfl
      · cases A with
        | none => rfl
        | some a => show some (a.add (0 * 1)) = some a; rw [Nat.zero_mul]; exact congrArg some (add_zero_addr a)
    rw [e]
    rw [Nat.mul_one, ← List.map_take] at h2; exact h2
theorem cut_l (h : Sl w S 1 (.slice A T.length c) T.length (T.map .string)) (k : Nat) (hk : k ≤ T.length) :
    ∃ x, CutAs (some (.int .i64 k)) none A T.length c (T.length - k) x ∧ Sl w S 1 x (T.length - k) ((T.drop k).map .string) := by
  obtain ⟨_, _, _, he, hc, _⟩ := id h
  injection he with _ _ he
  subst he
  have h2 := h.drop hk
  refine ⟨.slice (if c = k then A else A.map (·.add (k * 1))) (T.length - k) (c - k), ⟨fun wx => ?_, _, _, rfl⟩, ?_⟩
  · rw [run_slice_l _ _ A _ c und_strs .i64 k (by omega) (by omega), size_str]
    simp [Result.andThen, sliced]
  · rw [Nat.mul_one, ← List.map_drop] at h2; rw [Nat.mul_one]; exact h2
theorem cut_lh (h : Sl w S 1 (.slice A T.length c) T.length (T.map .string)) (i k : Nat) (hik : i ≤ k) (hk : k ≤ T.length) :
    ∃ x, CutAs (some (.int .i64 i)) (some (.int .i64 k)) A T.length c (k - i) x ∧ Sl w S 1 x (k - i) (((T.take k).drop i).map .string) := by
  obtain ⟨_, _, _, he, hc, _⟩ := id h
  injection he with _ _ he
  subst he
  have h2 := (h.take hk).drop hik
  refine ⟨.slice (if c = i then A else A.map (·.add (i * 1))) (k - i) (c - i), ⟨fun wx => ?_, _, _, rfl⟩, ?_⟩
  · rw [run_slice_lh _ _ A _ c und_strs .i64 .i64 i k (by omega) (by omega) (by omega), size_str]
    simp [Result.andThen, sliced]
  · rw [Nat.mul_one, Nat.mul_one, ← List.map_take, ← List.map_drop] at h2; rw [Nat.mul_one]; exact h2
end
/-- A state that lies apart from a block. -/
def PS (w : World) (g : Nat) (v : Value) (T : List ByteArray) : Prop := ∃ L : List Tm, Sl w (fun b => b < w.heap.size ∧ some b ≠ some g) 2 v L.length (tms L) ∧ (∀ t ∈ L, TkR w t) ∧ Good (st L) T.length ∧ ∀ U, cnt (st L) U = cntS T U
theorem blk_noStr {w : World} {g : Nat} {cs : Array Value} (h : Blk w g 38 cs) : ∀ b, strB w b → some b ≠ some g := by
  rintro b ⟨cur, f, hb⟩ e
  injection e with e
  subst e
  rw [show w.heap[b]? = _ from h] at hb
  injection hb with hb
  injection hb with _ hb _
  exact absurd hb (by decide)
theorem PS.grown {w w' : World} {g : Nat} {v : Value} {T : List ByteArray} (h : PS w g v T) (hg : w.grownBy w' (some g)) (hs : ∀ b, strB w b → some b ≠ some g) : PS w' g v T := by
  obtain ⟨L, h1, h2, h3, h4⟩ := h
  exact ⟨L, (h1.grown hg fun _ hb => hb).mono fun _ hb => ⟨Nat.lt_of_lt_of_le hb.1 hg.size, hb.2⟩, fun t ht => (h2 t ht).grown hg hs, h3, h4⟩
def Arr (w : World) (g : Nat) (D : Nat → List ByteArray) : Prop := ∃ v : Nat → Value, Blk w g 38 #[v 0, v 1, v 2] ∧ ∀ m, m < 3 → PS w g (v m) (D m)
theorem Arr.below {w w' : World} {g : Nat} {D : Nat → List ByteArray} (h : Arr w g D) (hb : Below w.heap.size w w') : Arr w' g D := by
  obtain ⟨v, h1, h2⟩ := h
  exact ⟨v, h1.below hb h1.lt, fun m hm => (h2 m hm).grown (grownBy_of_below hb _) (blk_noStr h1)⟩
theorem Arr.lt_ {w : World} {g : Nat} {D : Nat → List ByteArray} (h : Arr w g D) : g < w.heap.size := by
  obtain ⟨v, h1, h2⟩ := h
  exact h1.lt
theorem Arr.at_ {w : World} {g k : Nat} {D : Nat → List ByteArray} (h : Arr w g D) (hk : k < 3) : ∃ (L : List Tm) (A : Option Addr) (c : Nat), w.cell? ⟨g, k, none⟩ = some (.slice A L.length c) ∧ w.frozen? ⟨g, k, none⟩ = false ∧ MS w (.slice A L.length c) L ∧ Good (st L) (D k).length ∧ ∀ U, cnt (st L) U = cntS (D k) U := by
  obtain ⟨v, h1, h2⟩ := h
  obtain ⟨L, hs, ht, hG, hc⟩ := h2 k hk
  obtain ⟨A, c, hv, _⟩ := hs.form
  refine ⟨L, A, c, ?_, h1.frozen k, ⟨hv ▸ hs.mono fun _ hb => hb.1, ht⟩, hG, hc⟩
  rw [h1.cell, ← hv]
  match k, hk with
  | 0, _ => rfl
  | 1, _ => rfl
  | 2, _ => rfl
theorem Arr.set_ {w : World} {g k : Nat} {D D' : Nat → List ByteArray} {u : Value} (h : Arr w g D) (hk : k < 3) (hu : PS w g u (D' k)) (hD : ∀ m, m < 3 → m ≠ k → D' m = D m) : Arr (w.setCell ⟨g, k, none⟩ u) g D' := by
  obtain ⟨v, h1, h2⟩ := h
  have hg : w.grownBy (w.setCell ⟨g, k, none⟩ u) (some g) := grownBy_set (World.grownBy.refl w _) k u
  refine ⟨fun m => if m = k then u else v m, ?_, fun m hm => ?_⟩
  · have := h1.set_ k u
    match k, hk with
    | 0, _ => exact this
    | 1, _ => exact this
    | 2, _ => exact this
  · by_cases e : m = k
    · subst e
      simp only [if_pos]
      exact hu.grown hg (blk_noStr h1)
    · simp only [if_neg e]
      rw [hD m hm e]
      exact (h2 m hm).grown hg (blk_noStr h1)
theorem Arr.congr {w : World} {g : Nat} {D D' : Nat → List ByteArray} (h : Arr w g D) (hD : ∀ m, m < 3 → D' m = D m) : Arr w g D' := by
  obtain ⟨v, h1, h2⟩ := h
  exact ⟨v, h1, fun m hm => by rw [hD m hm]; exact h2 m hm⟩
theorem addStep_cnt {P P' : List TP} {s : ByteArray} {T : List ByteArray} (hG : Good P T.length) (hc : ∀ U, cnt P U = cntS T U) (h : AddStep P (toks s) P') : Good P' (T ++ [s]).length ∧ ∀ U, cnt P' U = cntS (T ++ [s]) U := by
  have ht := toks_eq s
  have hl : ((T ++ [s]).length : Int) = (T.length : Int) + 1 := by simp
  cases ho : toks s with
  | none =>
    rw [ho] at h ht
    obtain rfl : P' = P := h
    refine ⟨⟨hG.s, hG.p, by have := hG.b; omega⟩, fun U => ?_⟩
    rw [cntS_append, cntS, ← ht, hc]
    simp [cntS]
  | some W =>
    rw [ho] at h ht
    have h : Added P P' (strs W) 1 := h
    refine ⟨⟨h.s, h.p, by have := hG.b; have := h.t; omega⟩, fun U => ?_⟩
    rw [cntS_append, cntS, ← ht, h.c, hc]
    simp only [Option.map_some, Option.some.injEq, cntS]
    omega
/-- The three parts of the lines. -/
structure Parts (w : World) (g base : Nat) (S : List ByteArray) (Q : Nat → List ByteArray) (pv : Nat → Value) : Prop where
  blk : Blk w g 27 #[pv 0, pv 1, pv 2]
  sl : ∀ j, j < 3 → Sl w (lt base) 1 (pv j) (Q j).length ((Q j).map .string)
  cnt : ∀ U, cntS (Q 0) U + cntS (Q 1) U + cntS (Q 2) U = cntS S U
  len : (Q 0).length + (Q 1).length + (Q 2).length = S.length
  mem : ∀ j, j < 3 → ∀ s ∈ Q j, s ∈ S
theorem Parts.grown {w w' : World} {g base : Nat} {S : List ByteArray} {Q : Nat → List ByteArray} {pv : Nat → Value} (h : Parts w g base S Q pv) (hg : w.grownBy w' (some base)) (hne : g ≠ base) (hb : base ≤ w.heap.size) : Parts w' g base S Q pv :=
  ⟨h.blk.grown hg (by simp [hne]), fun j hj => (h.sl j hj).grown hg fun b hb' => ⟨Nat.lt_of_lt_of_le hb' hb, fun e => by injection e with e; subst e; exact absurd hb' (Nat.lt_irrefl _)⟩, h.cnt, h.len, h.mem⟩
theorem Parts.at_ {w : World} {g base k : Nat} {S : List ByteArray} {Q : Nat → List ByteArray} {pv : Nat → Value} (h : Parts w g base S Q pv) (hk : k < 3) : ∃ (A : Option Addr) (c : Nat), pv k = .slice A (Q k).length c ∧ w.cell? ⟨g, k, none⟩ = some (.slice A (Q k).length c) := by
  obtain ⟨A, c, hv, _⟩ := (h.sl k hk).form
  refine ⟨A, c, hv, ?_⟩
  rw [h.blk.cell, ← hv]
  match k, hk with
  | 0, _ => rfl
  | 1, _ => rfl
  | 2, _ => rfl
def DQ (Q : Nat → List ByteArray) (k y m : Nat) : List ByteArray := if m < k then Q m else if m = k then (Q k).take y else []
theorem srt_nil : Srt [] := by simp [Srt]
theorem parts_of {w3 W : World} {g i k : Nat} {S : List ByteArray} {x1 x2 x3 : Value} (hik : i ≤ k) (hkn : k ≤ S.length)
    (h1 : Sl w3 (strB w3) 1 x1 i ((S.take i).map .string)) (h2 : Sl w3 (strB w3) 1 x2 (k - i) (((S.take k).drop i).map .string)) (h3 : Sl w3 (strB w3) 1 x3 (S.length - k) ((S.drop k).map .string))
    (hB : Blk W g 27 #[x1, x2, x3]) (hb : Below w3.heap.size w3 W) : ∃ Q pv, Parts W g w3.heap.size S Q pv := by
  have e : S.take i ++ (S.take k).drop i = S.take k := by
    have := List.take_append_drop i (S.take k)
    rwa [List.take_take, Nat.min_eq_left hik] at this
  have e1 : (S.take i).length = i := by rw [List.length_take]; omega
  have e2 : ((S.take k).drop i).length = k - i := by rw [List.length_drop, List.length_take]; omega
  have e3 : (S.drop k).length = S.length - k := by rw [List.length_drop]
  refine ⟨fun | 0 => S.take i | 1 => (S.take k).drop i | _ => S.drop k, fun | 0 => x1 | 1 => x2 | _ => x3, hB, fun j hj => ?_, fun U => ?_, ?_, fun j hj s hs => ?_⟩
  · match j, hj with
    | 0, _ => show Sl W _ 1 x1 (S.take i).length _; rw [e1]; exact h1.str.below hb (Nat.le_refl _)
    | 1, _ => show Sl W _ 1 x2 ((S.take k).drop i).length _; rw [e2]; exact h2.str.below hb (Nat.le_refl _)
    | 2, _ => show Sl W _ 1 x3 (S.drop k).length _; rw [e3]; exact h3.str.below hb (Nat.le_refl _)
  · show cntS (S.take i) U + cntS ((S.take k).drop i) U + cntS (S.drop k) U = cntS S U
    rw [← cntS_append, e, ← cntS_append, List.take_append_drop]
  · show (S.take i).length + ((S.take k).drop i).length + (S.drop k).length = S.length
    omega
  · match j, hj with
    | 0, _ => exact List.mem_of_mem_take hs
    | 1, _ => exact List.mem_of_mem_take (List.mem_of_mem_drop hs)
    | 2, _ => exact List.mem_of_mem_drop hs
theorem dq_done {Q : Nat → List ByteArray} {k m : Nat} : DQ Q (k + 1) 0 m = DQ Q k (Q k).length m := by
  unfold DQ
  by_cases h1 : m < k
  · rw [if_pos h1, if_pos (by omega)]
  · by_cases h2 : m = k
    · subst h2; rw [if_pos (by omega), if_neg (by omega), if_pos rfl, List.take_length]
    · rw [if_neg (by omega), if_neg h1, if_neg h2]
      split
      · rfl
      · rfl
theorem dq_same {Q : Nat → List ByteArray} {k y m : Nat} (hne : m ≠ k) : DQ Q k (y + 1) m = DQ Q k y m := by
  unfold DQ
  rw [if_neg hne, if_neg hne]
theorem dq_at {Q : Nat → List ByteArray} {k y : Nat} : DQ Q k y k = (Q k).take y := by
  unfold DQ
  rw [if_neg (Nat.lt_irrefl _), if_pos rfl]
theorem dq_end {Q : Nat → List ByteArray} {m : Nat} (hm : m < 3) : Q m = DQ Q 3 0 m := by
  unfold DQ
  rw [if_pos hm]
theorem MS.held {w a : World} {v : Value} {L : List Tm} (h : MS w v L) (hh : Held w.heap.size w a) : MS a v L := h.up hh.2.2
theorem merged_good {P Q R : List TP} {n m : Nat} {N : Int} (h : Merged P Q R) (hP : Good P n) (hQ : Good Q m) (hN : (n : Int) + m ≤ N) : Good R N :=
  ⟨h.s, h.p, by have := h.t; have := hP.b; have := hQ.b; omega⟩
/-- Merging two whose numbers are small. -/
theorem merge_small (v1 v2 : Value) (L M : List Tm) (w : World) (h1 : MS w v1 L) (h2 : MS w v2 M) (g1 : Good (st L) 18) (g2 : Good (st M) 18) : Calls Try.prog 14 #[v1, v2] w (MergeRes (st L) (st M) w) :=
  merge_any v1 v2 L M w h1 h2 ⟨g1.s, g1.p, by have := g1.b; omega⟩ ⟨g2.s, g2.p, by have := g2.b; omega⟩
set_option maxHeartbeats 8000000 in
set_option maxRecDepth 100000 in
theorem law_merges (vc : Value) (bs : List Int) (a b : Int) (w : World) (ha0 : 0 ≤ a) (ha1 : a ≤ 255) (hb0 : 0 ≤ b) (hb1 : b ≤ 255)
    (hsc : Sl w (lt w.heap.size) 1 vc bs.length (bs.map (.int .u8))) (hr : ∀ x ∈ bs, 0 ≤ x ∧ x ≤ 255) (hm : bs.length ≤ maxLen) :
    Calls Try.prog 4 #[vc, .int .u8 a, .int .u8 b] w fun e w' => e = .returned (.bool true) ∧ Below w.heap.size w w' := by
  go_enter Try.func4, Try.ntmps4
  go_wp2_with fail
  refine (awake_true _).mono ?_
  rintro e w1 ⟨rfl, hb1'⟩
  have hS1 := hsc.upW hb1'
  clear hsc
  go_wp2_with fail
  refine (drawNew _ bs 200 _ hS1 hr (by omega) hm).mono ?_
  rintro e w2 ⟨gc, rfl, hgc, hC2, hb2⟩
  have hbw2 := bchain hb1' hb2
  have hgl := hC2.lt_
  have hz1 := hb1'.size
  clear hS1 hb1' hb2
  go_wp2_with fail
  refine (state_any gc 18 _ hC2 (by omega)).mono ?_
  rintro e w3 ⟨v, vl, L, S, rfl, hSl, hSz, hG, hK, hO, hT, hV, hC3, hg3⟩
  obtain ⟨A, c, rfl, _⟩ := own_sl hO
  obtain ⟨A2, c2, rfl, hc2⟩ := own_sl hV
  have hb3 : Below w.heap.size w w3 := below_grown hbw2 hg3 hbw2.size (by omega)
  have HO := keep hO
  have HT := keep hT
  have HG := keep hG
  have HK := keep hK
  have HV := keep hV
  have HSZ := keep hSz
  have HB3 := keep hb3
  clear hO hT hG hK hV hSz hg3 hb3 hC3 hC2 hbw2
  have ha2 : 0 ≤ a % ((S.length : Int) + 1) := Int.emod_nonneg _ (by omega)
  have ha3 : a % ((S.length : Int) + 1) < (S.length : Int) + 1 := Int.emod_lt_of_pos _ (by omega)
  obtain ⟨i, hi⟩ := Int.eq_ofNat_of_zero_le ha2
  rw [hi] at ha3
  have hb2' : 0 ≤ b % ((S.length : Int) - (i : Int) + 1) := Int.emod_nonneg _ (by omega)
  have hb3' : b % ((S.length : Int) - (i : Int) + 1) < (S.length : Int) - (i : Int) + 1 := Int.emod_lt_of_pos _ (by omega)
  obtain ⟨j, hj⟩ := Int.eq_ofNat_of_zero_le hb2'
  rw [hj] at hb3'
  obtain ⟨k, hk⟩ : ∃ k : Nat, (i : Int) + (j : Int) = (k : Int) := ⟨i + j, by omega⟩
  have hik : i ≤ k := by omega
  have hkn : k ≤ S.length := by omega
  have hj18 : (j : Int) ≤ 18 := by omega
  have hi18 : (i : Int) ≤ 18 := by omega
  have hSi : (S.length : Int) ≤ 18 := by omega
  have hiS : (i : Int) ≤ (S.length : Int) := by omega
  have d1 : ¬ ((S.length : Int) + 1 = 0) := by omega
  have d2 : ¬ ((S.length : Int) - (i : Int) + 1 = 0) := by omega
  clear ha2 ha3 hb2' hb3'
  have hVs := own_str HV.out
  obtain ⟨x1, ⟨hx1, B1, m1, rfl⟩, hs1⟩ := cut_h hVs i (by omega)
  obtain ⟨x2, ⟨hx2, B2, m2, rfl⟩, hs2⟩ := cut_lh hVs i k hik hkn
  obtain ⟨x3, ⟨hx3, B3, m3, rfl⟩, hs3⟩ := cut_l hVs k hkn
  have HS1 := keep hs1
  have HS2 := keep hs2
  have HS3 := keep hs3
  obtain ⟨gp, hgp⟩ : ∃ gp, gp = w3.heap.size := ⟨_, rfl⟩
  obtain ⟨W, hW⟩ : ∃ W, W = ((w3.alloc (Obj.cells #[Value.slice none 0 0, Value.slice none 0 0, Value.slice none 0 0] 38)).alloc (Obj.cells #[Value.slice B1 i m1, Value.slice B2 (k - i) m2, Value.slice B3 (S.length - k) m3] 27)).drew := ⟨_, rfl⟩
  have hbW : Below w3.heap.size w3 W := hW ▸ ((((Below.refl _ w3).alloc (Nat.le_refl _) _).alloc (by simp) _).drew)
  obtain ⟨Q, pv, hP⟩ := parts_of (w3 := w3) (W := W) (g := w3.heap.size + 1) hik hkn hs1 hs2 hs3 (by rw [hW]; have := Blk.new (w3.alloc (Obj.cells #[Value.slice none 0 0, Value.slice none 0 0, Value.slice none 0 0] 38)) 27 #[Value.slice B1 i m1, Value.slice B2 (k - i) m2, Value.slice B3 (S.length - k) m3]; simp at this; exact this) hbW
  have hA : Arr W w3.heap.size (DQ Q 0 0) := by
    refine ⟨fun _ => .slice none 0 0, ?_, fun m _ => ?_⟩
    · rw [hW]; exact (Blk.new w3 _ _).alloc _
    · refine ⟨[], Sl.nil _ _ _ _ _, by simp, ⟨?_, ?_, ?_⟩, fun U => ?_⟩
      · exact srt_nil
      · intro t ht; cases ht
      · simp [st, sumP]
      · have e : DQ Q 0 0 m = [] := by unfold DQ; split; · omega
                                       · split <;> rfl
        rw [e]; simp [st, cnt, cntS]
  have hMS : ∀ wr, W.grownBy wr (some w3.heap.size) → MS wr (.slice A L.length c) L := fun wr hg => by
    obtain ⟨_, hbk, _⟩ := hA
    have h1 := ((Sl.of_own HO.out).below hbW (Nat.le_refl _)).mono (S' := fun b => b < W.heap.size ∧ some b ≠ some w3.heap.size) fun b hb => ⟨Nat.lt_of_lt_of_le hb hbW.size, fun e => by injection e with e; subst e; exact absurd hb (Nat.lt_irrefl _)⟩
    exact ⟨(h1.grown hg fun _ hb => hb).mono fun _ hb => Nat.lt_of_lt_of_le hb.1 hg.size, fun t ht => ((HT.out t ht).up hbW).grown hg (blk_noStr hbk)⟩
  have HP := keep hP
  have HA := keep hA
  have HMS := keep hMS
  have HBW := keep hbW
  clear hP hA hMS hbW
  clear hVs hs1 hs2 hs3 hik hkn hc2
  go_wp2_with fail
  go_region
  rw [← hW, hi, hj]
  clear hW hi hj
  go_wp2_with fail
  go_loopw [12, 13, 54] (fun _ _ n wr => ∃ x : Nat, x ≤ 3 ∧ n = .int .i64 x ∧ Hid (W.grownBy wr (some w3.heap.size)) ∧ Hid (Arr wr w3.heap.size (DQ Q x 0))) (fun _ _ n _ => 3 - (intOf n).toNat)
  case atStart => exact ⟨0, by omega, rfl, keep (World.grownBy.refl _ _), HA⟩
  case round =>
    obtain ⟨x, hx, rfl, hg, hA⟩ := hrel
    obtain ⟨wo, rfl⟩ : ∃ wo : World, wo = wr := ⟨_, rfl⟩
    by_cases hlt : x < 3
    · obtain ⟨B, m, hpv, hcell⟩ := (HP.out.grown hg.out (by omega) (by have := HBW.out.size; omega)).at_ hlt
      have i1 : (x : Int) < 3 := by omega
      go_wp2_with fail
      go_loopw [15, 61] (fun _ y wr => ∃ z : Nat, z ≤ (Q x).length ∧ y = .int .i64 z ∧ Hid (W.grownBy wr (some w3.heap.size)) ∧ Hid (Arr wr w3.heap.size (DQ Q x z))) (fun _ y _ => (Q x).length - (intOf y).toNat)
      case atStart => exact ⟨0, by omega, rfl, hg, hA⟩
      case round =>
        obtain ⟨z, hz, rfl, hg2, hA2⟩ := hrel
        obtain ⟨wi, rfl⟩ : ∃ wi : World, wi = wr := ⟨_, rfl⟩
        by_cases hlt2 : z < (Q x).length
        · have hPi := HP.out.grown hg2.out (by omega) (by have := HBW.out.size; omega)
          have hsl := hPi.sl x hlt
          rw [hpv] at hsl
          obtain ⟨b1, o1, u1, rfl, _, hu1, hc1⟩ := hsl.at_ hlt2
          obtain ⟨t, ht, rfl⟩ : ∃ t, (Q x)[z] = t ∧ u1 = .string t := by
            rw [List.getElem?_map, List.getElem?_eq_getElem hlt2] at hu1
            exact ⟨_, rfl, (Option.some.inj hu1).symm⟩
          have htm : t ∈ S := hPi.mem x hlt t (ht ▸ List.getElem_mem hlt2)
          have hts : t.size ≤ 4294967296 := by have := HSZ.out t htm; omega
          have hlen := hPi.len
          have hQS : (Q x).length ≤ S.length := by
            match x, hlt with
            | 0, _ => omega
            | 1, _ => omega
            | 2, _ => omega
          obtain ⟨L2, A4, c4, hcA, hfA, hms, hGA, hcn⟩ := hA2.out.at_ hlt
          rw [dq_at] at hGA hcn
          have hadd := addLine _ L2 t wi hms ⟨hGA.s, hGA.p, by have := hGA.b; have := List.length_take_le z (Q x); omega⟩ hts
          have hstep := fun P' => addStep_cnt (P' := P') (s := t) (T := (Q x).take z) hGA hcn
          have htk : (Q x).take (z + 1) = (Q x).take z ++ [t] := by rw [List.take_succ_eq_append_getElem hlt2, ht]
          have HADD := keep hadd
          have HSTEP := keep hstep
          have HTK := keep htk
          have HMS2 := keep hms
          have i3 : (z : Int) < ((Q x).length : Int) := by omega
          have i4 : (z : Int) ≤ 18 := by omega
          clear hadd hstep htk hPi hsl hlen hms hGA hcn ht htm hts hu1
          go_wp2_with fail
          refine HADD.out.mono ?_
          rintro e w5 ⟨v5, L5, rfl, hn5, ha5⟩
          obtain ⟨hG5, hc5⟩ := HSTEP.out _ ha5
          obtain ⟨A5, c5, rfl, _⟩ := own_sl hn5.1
          have hA5 := hA2.out.below hn5.2.2
          have hgl5 := hA2.out.lt_
          have hps : PS w5 w3.heap.size (.slice A5 L5.length c5) (DQ Q x (z + 1) x) := by
            rw [dq_at, HTK.out]
            exact ⟨L5, (Sl.of_own_btw hn5.1).mono fun b hb => ⟨hb.2, fun e => by injection e with e; subst e; exact absurd hb.1 (by omega)⟩, hn5.2.1, hG5, hc5⟩
          have hset := hA5.set_ (D' := DQ Q x (z + 1)) hlt hps (fun m _ hne => dq_same hne)
          have hg5 := grownBy_set (grownBy_below hg2.out (hn5.2.2.mono hg2.out.size)) x (.slice A5 L5.length c5)
          obtain ⟨_, _, _, hcB, hfB, _⟩ := hA5.at_ hlt
          have HSET := keep hset
          have HG5 := keep hg5
          clear hset hg5 hA5 hps hG5 hc5 hn5 ha5
          go_wp2_with fail
          go_roundw
          case rel => exact ⟨z + 1, by omega, by go_num, HG5, HSET⟩
          case measure => simp [intOf]; omega
        · obtain rfl : z = (Q x).length := by omega
          have hA3 := hA2.out.congr (D' := DQ Q (x + 1) 0) (fun m _ => dq_done)
          have HA3 := keep hA3
          clear hA3
          go_wp2_with fail
          go_roundw
          case rel => exact ⟨x + 1, by omega, by go_num, hg2, HA3⟩
          case measure => simp [intOf]; omega
    · obtain rfl : x = 3 := by omega
      have hP3 := HP.out.grown hg.out (by omega) (by have := HBW.out.size; omega)
      have hlen := hP3.len
      have hsum := hP3.cnt
      have hA3 := hA.out.congr (D' := Q) (fun m hm => dq_end hm)
      have hlg := hA3.lt_
      obtain ⟨L0, A0, c0, hc0, hf0, hm0, hG0, hn0⟩ := hA3.at_ (k := 0) (by omega)
      obtain ⟨L1, A1, c1, hc1, hf1, hm1, hG1, hn1⟩ := hA3.at_ (k := 1) (by omega)
      obtain ⟨L2, A3, c3, hc2, hf2, hm2, hG2, hn2⟩ := hA3.at_ (k := 2) (by omega)
      have hM01 := fun a (h : Held wo.heap.size wo a) => merge_small _ _ L0 L1 a (hm0.held h) (hm1.held h) ⟨hG0.s, hG0.p, by have := hG0.b; omega⟩ ⟨hG1.s, hG1.p, by have := hG1.b; omega⟩
      have hM21 := fun a (h : Held wo.heap.size wo a) => merge_small _ _ L2 L1 a (hm2.held h) (hm1.held h) ⟨hG2.s, hG2.p, by have := hG2.b; omega⟩ ⟨hG1.s, hG1.p, by have := hG1.b; omega⟩
      have hMx2 := fun a v5 L5 (h : Held wo.heap.size wo a) (h5 : MS a v5 L5) (hm : Merged (st L0) (st L1) (st L5)) => merge_small v5 _ L5 L2 a h5 (hm2.held h) (merged_good hm hG0 hG1 (by omega)) ⟨hG2.s, hG2.p, by have := hG2.b; omega⟩
      have hM0y := fun a v5 L5 (h : Held wo.heap.size wo a) (h5 : MS a v5 L5) (hm : Merged (st L2) (st L1) (st L5)) => merge_small _ v5 L0 L5 a (hm0.held h) h5 ⟨hG0.s, hG0.p, by have := hG0.b; omega⟩ (merged_good hm hG2 hG1 (by omega))
      have HM01 := keep hM01
      have HM21 := keep hM21
      have HMx2 := keep hMx2
      have HM0y := keep hM0y
      clear hM01 hM21 hMx2 hM0y
      go_wp2_with fail
      go_region_held3 (Held wo.heap.size wo) (first | exact Held.start _ _ | exact Held.call (by assumption) (by assumption) (Nat.le_refl _) | assumption)
        (first
          | (go_at_call 14; (with_reducible refine (HM01.out _ (by assumption)).mono ?_); rintro e w5 ⟨v5, L5, rfl, hn5, hm5⟩; obtain ⟨A5, c5, rfl, _⟩ := own_sl hn5.1; have hb5 := hn5.2.2; have ho5 := hn5.ms)
          | (go_at_call 14; (with_reducible refine (HMx2.out _ _ L5 (by assumption) ho5 hm5).mono ?_); rintro e w6 ⟨v6, L6, rfl, hn6, hm6⟩; obtain ⟨A6, c6, rfl, _⟩ := own_sl hn6.1; have hb6 := hn6.2.2)
          | fail)
      have hH6 : Held wo.heap.size wo w6 := by assumption
      have hb06 := hH6.2.2
      have hz6 := hb06.size
      have hc0' : w6.cell? ⟨w3.heap.size, 0, none⟩ = some (.slice A0 L0.length c0) := (hH6.1 _ _ hlg).trans hc0
      have hc1' : w6.cell? ⟨w3.heap.size, 1, none⟩ = some (.slice A1 L1.length c1) := (hH6.1 _ _ hlg).trans hc1
      have hc2' : w6.cell? ⟨w3.heap.size, 2, none⟩ = some (.slice A3 L2.length c3) := (hH6.1 _ _ hlg).trans hc2
      have hlg6 : w3.heap.size < w6.heap.size := by omega
      have hM21 := fun a (h : Held w6.heap.size w6 a) => merge_small _ _ L2 L1 a ((hm2.up hb06).held h) ((hm1.up hb06).held h) ⟨hG2.s, hG2.p, by have := hG2.b; omega⟩ ⟨hG1.s, hG1.p, by have := hG1.b; omega⟩
      have hM0y := fun a v5 L5 (h : Held w6.heap.size w6 a) (h5 : MS a v5 L5) (hm : Merged (st L2) (st L1) (st L5)) => merge_small _ v5 L0 L5 a ((hm0.up hb06).held h) h5 ⟨hG0.s, hG0.p, by have := hG0.b; omega⟩ (merged_good hm hG2 hG1 (by omega))
      have HM21' := keep hM21
      have HM0y' := keep hM0y
      have HN6 := keep hn6
      have HM5 := keep hm5
      have HM6 := keep hm6
      have HW0 := keep (HMS.out wo hg.out)
      have HB06 := keep hb06
      clear hM21 hM0y HM21 HM0y HM01 HMx2 hH6 hc0 hc1 hc2 hf0 hf1 hf2 hlg hn5 hb5 ho5 hn6 hb6 hm5 hm6 hb06
      go_wp2_with fail
      go_region_held3 (Held w6.heap.size w6) (first | exact Held.start _ _ | exact Held.call (by assumption) (by assumption) (Nat.le_refl _) | assumption)
        (first
          | (go_at_call 14; (with_reducible refine (HM21'.out _ (by assumption)).mono ?_); rintro e w7 ⟨v7, L7, rfl, hn7, hm7⟩; obtain ⟨A7, c7, rfl, _⟩ := own_sl hn7.1; have hb7 := hn7.2.2; have ho7 := hn7.ms)
          | (go_at_call 14; (with_reducible refine (HM0y'.out _ _ L7 (by assumption) ho7 hm7).mono ?_); rintro e w8 ⟨v8, L8, rfl, hn8, hm8⟩; obtain ⟨A8, c8, rfl, _⟩ := own_sl hn8.1; have hb8 := hn8.2.2)
          | fail)
      have hH8 : Held w6.heap.size w6 w8 := by assumption
      have hb68 := hH8.2.2
      have hz8 := hb68.size
      have hex : st L6 = st L := cnt_ext HM6.out.s HG.out.s HM6.out.p HG.out.p fun U => by
        rw [HM6.out.c, HM5.out.c, hn0, hn1, hn2, HK.out]; exact hsum U
      have hey : st L8 = st L := cnt_ext hm8.s HG.out.s hm8.p HG.out.p fun U => by
        rw [hm8.c, hm7.c, hn0, hn1, hn2, HK.out]; have := hsum U; omega
      have hlL : L.length ≤ 1000000 := HG.out.len (by omega)
      have hl6 : L6.length ≤ 1000000 := by rw [← st_len, hex, st_len]; exact hlL
      have hl8 : L8.length ≤ 1000000 := by rw [← st_len, hey, st_len]; exact hlL
      have hw8 := (HW0.out.up HB06.out).up hb68
      have hs6 := same_any _ _ L6 L w8 (HN6.out.ms.up hb68) hw8 hex hl6
      have hs8 := fun w' (hb : Below w8.heap.size w8 w') => same_any _ _ L8 L w' (hn8.ms.up hb) (hw8.up hb) hey hl8
      have hzB := HB3.out.size
      have hzW := HBW.out.size
      have hbo := below_grown (HB3.out.trans (HBW.out.mono hzB)) hg.out (by omega) (by omega)
      have hbf := bchain (bchain hbo HB06.out) hb68
      have HS6 := keep hs6
      have HS8 := keep hs8
      have HBF := keep hbf
      clear hs6 hs8 hbf hw8 hex hey hn8 hb8 ho7 hn7 hb7 hm7 hm8 hb68 hH8 hn0 hn1 hn2 hc0' hc1' hc2'
      go_wp2_with fail
      refine HS6.out.mono ?_
      rintro e w9 ⟨rfl, hb9⟩
      have HS9 := keep (HS8.out _ hb9)
      have HB9 := keep hb9
      clear HS8 hb9
      go_wp2_with fail
      refine HS9.out.mono ?_
      rintro e w10 ⟨rfl, hb10⟩
      go_wp2_with fail
      go_ret
      have h1 := HBF.out
      have h2 := HB9.out
      exact ⟨rfl, bchain (bchain h1 h2) hb10⟩
end Go.Proofs.Ytigogjlbemkhdaa
