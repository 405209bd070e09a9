/- slices.Chunk on a slice of bytes: what its iterator yields (the contract for a range over it). -/
import Derived.RangeFuncNested
import Derived.RangeFuncBound
import Derived.RangeFuncCalls
import Derived.RangeFuncLeaves
import Derived.RangeFuncBox
import Derived.Shelf.Abstract
import Derived.Shelf.RegionOpen
import Derived.WalkKit
import Derived.OwnWalkIn
import Derived.TacticsInMore
import Derived.LoopNIn
import Derived.LoopIn
import Derived.RegionIn
import Derived.Test.YtfainbgbeojcpaaLib
namespace Go.Proofs.Ytfainbgbeojcpaa
open Go.RowKit Go.Shelf

attribute [local go_sem] Oper.semAt_some

/-- The length of the chunk that begins at i. -/
def chLen (len i : Nat) : Nat := if 8 ≤ len - i then 8 else len - i
/-- Where a chunk begins. -/
abbrev ChAt (len : Nat) := { i : Nat // i % 8 = 0 ∧ i < len }
/-- The chunks that come in the first rounds. -/
def ChPre {len : Nat} (pre : List (ChAt len)) : Prop := pre.map (·.1) = (List.range pre.length).map (8 * ·)
def ChAll {len : Nat} (pre : List (ChAt len)) : Prop := ChPre pre ∧ len ≤ 8 * pre.length
theorem ChPre.push {len : Nat} {pre : List (ChAt len)} (h : ChPre pre) (x : ChAt len) (hx : x.1 = 8 * pre.length) : ChPre (pre ++ [x]) := by
  unfold ChPre at *
  simp [List.range_succ, h, hx]
theorem chLen_le (len i : Nat) : chLen len i ≤ 8 := by unfold chLen; split <;> omega

/-- What a round must keep: the two boxes that the iterator has captured. -/
def Kp2 (Bs Bn : Nat) (W W' : World) : Prop := W'.cell? ⟨Bs, 0, none⟩ = W.cell? ⟨Bs, 0, none⟩ ∧ W'.cell? ⟨Bn, 0, none⟩ = W.cell? ⟨Bn, 0, none⟩
theorem Kp2.refl (Bs Bn : Nat) (W : World) : Kp2 Bs Bn W W := ⟨rfl, rfl⟩
theorem Kp2.trans {Bs Bn : Nat} {A B C : World} (h : Kp2 Bs Bn A B) (k : Kp2 Bs Bn B C) : Kp2 Bs Bn A C := ⟨k.1.trans h.1, k.2.trans h.2⟩
theorem Kp2.drew {Bs Bn : Nat} {A B : World} (h : Kp2 Bs Bn A B) : Kp2 Bs Bn A B.drew := h
theorem Kp2.putObj {Bs Bn : Nat} {w : World} (hs : Bs < w.heap.size) (hn : Bn < w.heap.size) (W : World) (l : Nat) (o o' : Obj) (hl : w.heap.size ≤ l) (_ : W.heap[l]? = some o) (_ : o.isCells = false) (_ : o.isWalk = false) : Kp2 Bs Bn W (W.putObj l o') :=
  ⟨World.cell?_of_block (World.putObj_heap_other (by simp; omega)), World.cell?_of_block (World.putObj_heap_other (by simp; omega))⟩

set_option maxRecDepth 100000 in
set_option maxHeartbeats 4000000 in
theorem chunk_in (F : Fence) (n : Nat) (h7 : F.fn 53) (hro : F.round = none) (hn : 1 ≤ n) (l Bs Bn b off len cap : Nat) (hreach : len ≤ 1000000) (hcap : len ≤ cap) (J Jx : List (ChAt len) → World → Prop) (Bd : Nat) (hJ : AbidesFrom Bd J)
    (hY : ∀ pre x W, J pre W → pre.length < len → YieldAt F (n - 1) Try.prog l #[.slice (some ⟨b, off + x.1, none⟩) (chLen len x.1) (chLen len x.1)] W fun e W' =>
      (e = .returned (.bool true) ∧ J (pre ++ [x]) W' ∧ Kp2 Bs Bn W W') ∨ (e = .returned (.bool false) ∧ Jx (pre ++ [x]) W'))
    (W : World) (hBs : W.cell? ⟨Bs, 0, none⟩ = some (.slice (some ⟨b, off, none⟩) len cap)) (hBn : W.cell? ⟨Bn, 0, none⟩ = some (.int .i64 8)) (h0 : J [] W) :
    CallsIn F n Try.prog 53 #[.func (.yield l) #[] #[], .pointer (some ⟨Bs, 0, none⟩), .pointer (some ⟨Bn, 0, none⟩)] W fun e W' => (∃ v, e = .returned v) ∧
      ((∃ ys, ChAll ys ∧ J ys W') ∨ (∃ pre, ChPre pre ∧ Jx pre W')) := by
  refine callsIn_of_wp Try.func53 rfl h7 ?_ hro
  simp only [Try.ntmps53, List.size_toArray, List.length_cons, List.length_nil, Nat.reduceAdd, Nat.reduceSub, Array.replicate_succ, Array.replicate_zero, List.push_toArray, List.append_toArray, List.nil_append, List.cons_append]
  gi_wp2
  gi_loopw [4, 5] (fun i _ wr => ∃ (k : Nat) (pre : List (ChAt len)), i = .int .i64 k ∧ Hid (k = 8 * pre.length ∧ k ≤ len + 8) ∧ ChPre pre ∧ J pre wr ∧ Kp2 Bs Bn W wr)
    (fun i _ _ => len + 64 - (intOf i).toNat)
  case atStart => exact ⟨0, [], rfl, keep ⟨rfl, by omega⟩, rfl, h0, Kp2.refl _ _ _⟩
  case round =>
    obtain ⟨k, pre, rfl, hk, hP, hJs, hnx⟩ := hrel
    have hBs' := hnx.1.trans hBs
    have hBn' := hnx.2.trans hBn
    have hk1 : k ≤ len + 8 := hk.out.2
    by_cases hlt : k < len
    · have hx : k % 8 = 0 ∧ k < len := ⟨by have := hk.out.1; omega, hlt⟩
      obtain ⟨fn, tmps, assign, body, hy, hR⟩ := hY pre ⟨k, hx⟩ wr.drew (hJ pre wr wr.drew none hJs ⟨rfl, rfl, rfl, Nat.le_refl _, fun _ _ _ => rfl⟩ (fun r e => by cases e)) (by have := hk.out.1; omega)
      dsimp only at hy
      have q1 : (0 : Int) ≤ (k : Int) := by omega
      have q2 : (k : Int) < (len : Int) := by omega
      have q3 : (len : Int) ≤ (cap : Int) := by omega
      obtain ⟨e, he⟩ : ∃ e, chLen len k = e := ⟨_, rfl⟩
      have he2 : (if ((len - k : Nat) : Int) < 8 then ((len - k : Nat) : Int) else 8) = (e : Int) := by
        unfold chLen at he
        split at he <;> split <;> omega
      have he4 : (e : Int) ≤ 8 := by have := chLen_le len k; omega
      have q4 : (k : Int) + (e : Int) ≤ (cap : Int) := by
        unfold chLen at he
        split at he <;> omega
      have he5 : ¬ e = 0 := by
        unfold chLen at he
        split at he <;> omega
      have hxe : Hid (k = 8 * pre.length) := keep hk.out.1
      rw [he] at hy
      have HE := keep he2
      clear he he2
      gi_wp2
      gi_region
      all_goals rw [HE.out]
      all_goals gi_wp2
      all_goals
        refine hR.mono ?_
        rintro e3 W3 (⟨rfl, hJ3, hk3⟩ | ⟨rfl, hJx3⟩)
        · have hBn3 : W3.cell? ⟨Bn, 0, none⟩ = some (.int .i64 8) := hk3.2.trans hBn'
          gi_wp2
          go_roundw
          case rel => exact ⟨k + 8, pre ++ [⟨k, hx⟩], by simp, keep ⟨by have := hxe.out; simp; omega, by omega⟩, hP.push _ hxe.out, hJ3, (hnx.drew).trans hk3⟩
          case measure => simp [intOf]; omega
        · gi_wp2
          refine bodyPost_ret (results_none rfl _ _ _) rfl ?_
          exact ⟨⟨_, rfl⟩, .inr ⟨_, hP.push ⟨k, hx⟩ hxe.out, hJx3⟩⟩
    · have q2 : ¬ (k : Int) < (len : Int) := by omega
      gi_wp2
      go_end0
      exact ⟨⟨_, rfl⟩, .inl ⟨pre, ⟨hP, by have := hk.out.1; omega⟩, hJs⟩⟩

set_option maxRecDepth 100000 in
set_option maxHeartbeats 1000000 in
/-- .. at an empty slice: no round. -/
theorem chunk_nil_in (F : Fence) (n : Nat) (h7 : F.fn 53) (hro : F.round = none) (l Bs Bn cap len : Nat) (A : Option Addr) (J : List (ChAt len) → World → Prop) (W : World) (hBs : W.cell? ⟨Bs, 0, none⟩ = some (.slice A 0 cap)) (h0 : J [] W) :
    CallsIn F n Try.prog 53 #[.func (.yield l) #[] #[], .pointer (some ⟨Bs, 0, none⟩), .pointer (some ⟨Bn, 0, none⟩)] W fun e W' => (∃ v, e = .returned v) ∧ J [] W' := by
  refine callsIn_of_wp Try.func53 rfl h7 ?_ hro
  simp only [Try.ntmps53, List.size_toArray, List.length_cons, List.length_nil, Nat.reduceAdd, Nat.reduceSub, Array.replicate_succ, Array.replicate_zero, List.push_toArray, List.append_toArray, List.nil_append, List.cons_append]
  gi_wp2
  gi_loopw [4, 5] (fun i _ wr => i = .int .i64 0 ∧ wr = W) (fun _ _ _ => 0)
  case atStart => exact ⟨rfl, rfl⟩
  case round =>
    obtain ⟨rfl, rfl⟩ := hrel
    gi_wp2
    go_end0
    exact ⟨⟨_, rfl⟩, h0⟩
set_option maxHeartbeats 1000000 in
/-- slices.Chunk(s, 8): both arguments are boxed; the function value captures the boxes. -/
theorem chunk_make (F : Fence) (n : Nat) (h6 : F.fn 45) (hro : F.round = none) (a : Option Addr) (len cap : Nat) (w : World) :
    CallsIn F n Try.prog 45 #[.slice a len cap, .int .i64 8] w fun e w' => e = .returned (.func (.func 53) #[] #[.pointer (some ⟨w.heap.size, 0, none⟩), .pointer (some ⟨w.heap.size + 1, 0, none⟩)]) ∧ w' = (w.alloc (.cells #[.slice a len cap] 36)).alloc (.cells #[.int .i64 8] 3) := by
  refine callsIn_of_wp Try.func45 rfl h6 ?_ hro
  simp only [Try.ntmps45, List.size_toArray, List.length_cons, List.length_nil, Nat.reduceAdd, Nat.reduceSub, Array.replicate_succ, Array.replicate_zero, List.push_toArray, List.append_toArray, List.nil_append, List.cons_append]
  gi_wp2
  go_ret
  exact ⟨rfl, rfl⟩
/-- What the value that slices.Chunk(s, 8) hands back does. -/
theorem chunk_stops (F : Fence) (n : Nat) (h7 : F.fn 53) (hro : F.round = none) (hn : 1 ≤ n) (Bs Bn b off len cap : Nat) (A : Option Addr) (hA : 0 < len → A = some ⟨b, off, none⟩) (hreach : len ≤ 1000000) (hcap : len ≤ cap) (w : World) (hs : Bs < w.heap.size) (hn0 : Bn < w.heap.size)
    (hBs : w.cell? ⟨Bs, 0, none⟩ = some (.slice A len cap)) (hBn : w.cell? ⟨Bn, 0, none⟩ = some (.int .i64 8)) :
    SeqStopsK F n Try.prog 53 #[.pointer (some ⟨Bs, 0, none⟩), .pointer (some ⟨Bn, 0, none⟩)] (fun x : ChAt len => #[.slice (some ⟨b, off + x.1, none⟩) (chLen len x.1) (chLen len x.1)]) (Kp2 Bs Bn) ChAll ChPre len w := fun l J Jx W hW hJ _ hY h0 => by
  have hBs' := (hW.cell (p := ⟨Bs, 0, none⟩) hs).trans hBs
  have hBn' := (hW.cell (p := ⟨Bn, 0, none⟩) hn0).trans hBn
  by_cases h : 0 < len
  · rw [hA h] at hBs'
    exact chunk_in F n h7 hro hn l Bs Bn b off len cap hreach hcap J Jx _ hJ hY W hBs' hBn' h0
  · obtain rfl : len = 0 := by omega
    exact (chunk_nil_in F n h7 hro l Bs Bn cap 0 A J W hBs' h0).mono fun e W' ⟨he, hj⟩ => ⟨he, .inl ⟨[], ⟨rfl, by simp⟩, hj⟩⟩
end Go.Proofs.Ytfainbgbeojcpaa
