/- slices.Backward on eight bytes: what its iterator yields. -/
import Derived.Test.YtfainbgbeojcpaaFChunk
namespace Go.Proofs.Ytfainbgbeojcpaa
open Go.RowKit Go.Shelf

attribute [local go_sem] Oper.semAt_some

/-- The indices that come in the first k rounds. -/
def dn8 (k : Nat) : List Nat := (List.range k).map fun i => 7 - i
theorem dn8_succ (k : Nat) : dn8 (k + 1) = dn8 k ++ [7 - k] := by simp [dn8, List.range_succ]
theorem dn8_len (k : Nat) : (dn8 k).length = k := by simp [dn8]
/-- What a round must keep: the box of the iterator, and what lay below a bound. -/
def KpB (Bs n₀ : Nat) (W W' : World) : Prop := W'.cell? ⟨Bs, 0, none⟩ = W.cell? ⟨Bs, 0, none⟩ ∧ Below n₀ W W'
theorem KpB.refl (Bs n₀ : Nat) (W : World) : KpB Bs n₀ W W := ⟨rfl, Below.refl _ _⟩
theorem KpB.trans {Bs n₀ : Nat} {A B C : World} (h : KpB Bs n₀ A B) (k : KpB Bs n₀ B C) : KpB Bs n₀ A C := ⟨k.1.trans h.1, h.2.trans k.2⟩
theorem KpB.putObj {Bs n₀ : Nat} {w : World} (hs : Bs < w.heap.size) (hn : n₀ ≤ w.heap.size) (W : World) (l : Nat) (o o' : Obj) (hl : w.heap.size ≤ l) (h1 : W.heap[l]? = some o) (h2 : o.isCells = false) (h3 : o.isWalk = false) : KpB Bs n₀ W (W.putObj l o') :=
  ⟨World.cell?_of_block (World.putObj_heap_other (by simp; omega)), belowK_b hn W l o o' hl h1 h2 h3⟩

set_option maxRecDepth 100000 in
set_option maxHeartbeats 2000000 in
theorem back_in (F : Fence) (n : Nat) (h8 : F.fn 54) (hro : F.round = none) (hn : 1 ≤ n) (l Bs n₀ b off : Nat) (zs : List UInt8) (hb : b < n₀) (J Jx : List Nat → World → Prop)
    (hY : ∀ (pre : List Nat) (x : Nat) (W : World), J pre W → pre.length < 8 → YieldAt F (n - 1) Try.prog l #[.int .i64 (x : Int), .int .u8 ((zs[x]?.getD 0).toNat : Int)] W fun e W' =>
      (e = .returned (.bool true) ∧ J (pre ++ [x]) W' ∧ KpB Bs n₀ W W') ∨ (e = .returned (.bool false) ∧ Jx (pre ++ [x]) W'))
    (W : World) (hBs : W.cell? ⟨Bs, 0, none⟩ = some (.slice (some ⟨b, off, none⟩) 8 8)) (hc : ∀ j, j < 8 → W.cell? ⟨b, off + j, none⟩ = some (.int .u8 ((zs[j]?.getD 0).toNat : Int))) (h0 : J [] W) :
    CallsIn F n Try.prog 54 #[.func (.yield l) #[] #[], .pointer (some ⟨Bs, 0, none⟩)] W fun e W' => (∃ v, e = .returned v) ∧
      ((∃ ys, ys = dn8 8 ∧ J ys W') ∨ (∃ pre, (∃ k, k ≤ 8 ∧ pre = dn8 k) ∧ Jx pre W')) := by
  refine callsIn_of_wp Try.func54 rfl h8 ?_ hro
  simp only [Try.ntmps54, List.size_toArray, List.length_cons, List.length_nil, Nat.reduceAdd, Nat.reduceSub, Array.replicate_succ, Array.replicate_zero, List.push_toArray, List.append_toArray, List.nil_append, List.cons_append]
  gi_wp2
  gi_loopw [3] (fun i wr => ∃ k : Nat, Hid (k ≤ 8) ∧ i = .int .i64 ((k : Int) - 1) ∧ J (dn8 (8 - k)) wr ∧ KpB Bs n₀ W wr)
    (fun i _ => ((intOf i) + 1).toNat)
  case atStart => exact ⟨8, keep (Nat.le_refl _), rfl, h0, KpB.refl _ _ _⟩
  case round =>
    obtain ⟨k, hk, rfl, hJs, hnx⟩ := hrel
    rcases k with _ | m
    · rw [show (((0 : Nat) : Int) - 1) = -1 from rfl]
      gi_wp2
      go_end0
      exact ⟨⟨_, rfl⟩, .inl ⟨_, rfl, hJs⟩⟩
    · have hm : m < 8 := by have := hk.out; omega
      have hBs' := hnx.1.trans hBs
      have hcx := (hnx.2.cell (p := ⟨b, off + m, none⟩) hb).trans (hc m hm)
      have hdl := dn8_len (8 - (m + 1))
      obtain ⟨fn, tmps, assign, body, hy, hR⟩ := hY _ m wr hJs (by rw [hdl]; omega)
      have hjn : ((m + 1 : Nat) : Int) - 1 = (m : Int) := by omega
      rw [hjn]
      have hds := dn8_succ (8 - (m + 1))
      have e1 : 8 - (m + 1) + 1 = 8 - m := by omega
      have e2 : 7 - (8 - (m + 1)) = m := by omega
      rw [e1, e2] at hds
      have HDS := keep hds
      try dsimp only at hy
      have q1 : (0 : Int) ≤ (m : Int) := by omega
      have q2 : (m : Int) < 8 := by omega
      have HK1 := keep (show m ≤ 8 by omega)
      have HK2 := keep (show 8 - m ≤ 8 by omega)
      clear hjn hdl e1 e2 hds hm
      gi_wp2
      refine hR.mono ?_
      rintro e W3 (⟨rfl, hJ3, hk3⟩ | ⟨rfl, hJx3⟩)
      · gi_wp2
        go_roundw
        case rel => exact ⟨m, HK1, rfl, by rw [HDS.out]; exact hJ3, hnx.trans hk3⟩
        case measure => simp [intOf]
      · gi_wp2
        refine bodyPost_ret (results_none rfl _ _ _) rfl ?_
        exact ⟨⟨_, rfl⟩, .inr ⟨_, ⟨8 - m, HK2.out, HDS.out.symm⟩, hJx3⟩⟩

set_option maxHeartbeats 1000000 in
/-- slices.Backward(s): the slice value is boxed. -/
theorem back_make (F : Fence) (n : Nat) (h6 : F.fn 46) (hro : F.round = none) (a : Option Addr) (len cap : Nat) (w : World) :
    CallsIn F n Try.prog 46 #[.slice a len cap] w fun e w' => e = .returned (.func (.func 54) #[] #[.pointer (some ⟨w.heap.size, 0, none⟩)]) ∧ w' = w.alloc (.cells #[.slice a len cap] 36) := by
  refine callsIn_of_wp Try.func46 rfl h6 ?_ hro
  simp only [Try.ntmps46, List.size_toArray, List.length_cons, List.length_nil, Nat.reduceAdd, Nat.reduceSub, Array.replicate_succ, Array.replicate_zero, List.push_toArray, List.append_toArray, List.nil_append, List.cons_append]
  gi_wp2
  go_ret
  exact ⟨rfl, rfl⟩
theorem back_stops (F : Fence) (n : Nat) (h8 : F.fn 54) (hro : F.round = none) (hn : 1 ≤ n) (Bs n₀ b off : Nat) (zs : List UInt8) (hb : b < n₀) (w : World) (hBs : Bs < w.heap.size) (hn₀ : n₀ ≤ w.heap.size)
    (hc : w.cell? ⟨Bs, 0, none⟩ = some (.slice (some ⟨b, off, none⟩) 8 8)) (hz : ∀ j, j < 8 → w.cell? ⟨b, off + j, none⟩ = some (.int .u8 ((zs[j]?.getD 0).toNat : Int))) :
    SeqStopsK F n Try.prog 54 #[.pointer (some ⟨Bs, 0, none⟩)] (fun x : Nat => #[Value.int .i64 (x : Int), Value.int .u8 ((zs[x]?.getD 0).toNat : Int)]) (KpB Bs n₀) (fun ys => ys = dn8 8)
      (fun pre => ∃ k, k ≤ 8 ∧ pre = dn8 k) 8 w := fun l J Jx W hW _ _ hY h0 =>
  back_in F n h8 hro hn l Bs n₀ b off zs hb J Jx hY W ((hW.cell (p := ⟨Bs, 0, none⟩) hBs).trans hc) (fun j hj => (hW.cell (p := ⟨b, off + j, none⟩) (by show b < _; omega)).trans (hz j hj)) h0
end Go.Proofs.Ytfainbgbeojcpaa
