/- The contract of ascii.Repair: an iterator that keeps its place in a captured variable, and a builder. -/
import Derived.Test.YtimldjlegbdldaaBuilder
namespace Go.Proofs.Ytimldjlegbdldaa
open Go.RowKit Go.Shelf

attribute [local go_sem] Oper.semAt_some

/-- A place inside. -/
abbrev PlAt (len : Nat) := { i : Nat // i < len }
/-- What a round must keep. -/
def KpS (Bs n₀ : Nat) (W W' : World) : Prop := (∀ u, Boxed W Bs 22 u → Boxed W' Bs 22 u) ∧ Below n₀ W W'
/-- The iterator's own step. -/
def TS (Bs : Nat) (X Y : World) : Prop := ∃ u u0, Boxed X Bs 22 u0 ∧ Y = X.setCell ⟨Bs, 0, none⟩ u
def boxLen (Bs : Nat) (w : World) : Nat := match w.cell? ⟨Bs, 0, none⟩ with | some (.slice _ n _) => n | _ => 0

theorem boxLen_eq {w : World} {Bs n c : Nat} {A : Option Addr} (h : Boxed w Bs 22 (.slice A n c)) : boxLen Bs w = n := by unfold boxLen; rw [h.cell]

set_option maxRecDepth 100000 in
set_option maxHeartbeats 4000000 in
theorem seq_in (n : Nat) (hn : 1 ≤ n) (lp Bs b o n₀ c : Nat) (A : Option Addr) (ls : List UInt8) (hm : ls.length ≤ 1000000000) (hA : 0 < ls.length → A = some ⟨b, o, none⟩ ∧ b < n₀) (hc : ls.length ≤ c) (hBn : n₀ ≤ Bs) (J : List (PlAt ls.length) → World → Prop)
    (hT : ∀ pre X Y, J pre X → TS Bs X Y → J pre Y)
    (hY : ∀ pre (x : PlAt ls.length) W, J pre W → pre.length < ls.length → YieldAt Fence.wide (n - 1) Try.prog lp #[.slice (some ⟨b, o + x.1, none⟩) (stepL (ls.drop x.1)) (c - x.1), .bool (decide (0 < seqL (ls.drop x.1)))] W fun e W' =>
      e = .returned (.bool true) ∧ J (pre ++ [x]) W' ∧ KpS Bs n₀ W W')
    (W : World) (hS : BSl W (lt n₀) (.slice A ls.length c) ls) (hB : Boxed W Bs 22 (.slice A ls.length c)) (h0 : J [] W) :
    CallsIn Fence.wide n Try.prog 35 #[.func (.yield lp) #[] #[], .pointer (some ⟨Bs, 0, none⟩)] W fun e W' => (∃ v, e = .returned v) ∧ ∃ ys : List (PlAt ls.length), StAll ls (ys.map (·.1)) ∧ J ys W' := by
  refine callsIn_of_wp Try.func35 rfl trivial ?_ rfl
  simp only [Try.ntmps35, List.size_toArray, List.length_cons, List.length_nil, Nat.reduceAdd, Nat.reduceSub, Array.replicate_succ, Array.replicate_zero, List.push_toArray, List.append_toArray, List.nil_append, List.cons_append]
  gi_wp2
  gi_loopw [3] (fun _ wr => ∃ (pre : List (PlAt ls.length)) (p : Nat) (A' : Option Addr), Hid (p = posN ls pre.length ∧ p ≤ ls.length ∧ pre.map (·.1) = (List.range (pre.map (·.1)).length).map (posN ls)) ∧ J pre wr ∧
      Boxed wr Bs 22 (.slice A' (ls.length - p) (c - p)) ∧ Hid (p < ls.length → A' = some ⟨b, o + p, none⟩) ∧ Below n₀ W wr)
    (fun _ wr => boxLen Bs wr)
  case atStart => exact ⟨[], 0, A, keep ⟨rfl, Nat.zero_le _, rfl⟩, h0, hB, keep (fun h => (hA h).1), Below.refl _ _⟩
  case round =>
    obtain ⟨pre, p, A', hp, hJ, hBx, hA', hb⟩ := hrel
    have hcell := hBx.cell
    have hfz := hBx.frozen
    obtain ⟨p1, p2, p3⟩ := hp.out
    by_cases hlt : p < ls.length
    · obtain rfl : A' = some ⟨b, o + p, none⟩ := hA'.out hlt
      have hbn : b < n₀ := (hA (by omega)).2
      obtain ⟨fn, tmps, assign, body, hy, hR⟩ := hY pre ⟨p, hlt⟩ wr hJ (by have := posN_ge ls pre.length; omega)
      dsimp only at hy
      obtain ⟨m, hmd⟩ : ∃ m, ls.drop p = m := ⟨_, rfl⟩
      have hml : m.length = ls.length - p := by rw [← hmd, List.length_drop]
      have hm0 : m ≠ [] := by intro e; rw [e] at hml; simp at hml; omega
      have hSm : BSl wr (lt n₀) (.slice (some ⟨b, o + p, none⟩) (ls.length - p) (c - p)) m := by
        have h1 := (hS.below hb (Nat.le_refl _)).drop (k := p) (by omega)
        rw [hmd, if_neg (by omega), (hA (by omega)).1, Option.map_some, Addr.add_lit] at h1
        exact h1
      have hv := valid_any _ m _ wr hSm hm0
      have hst := stepL_le m hm0
      have hsp := stepL_pos m
      have hsq := seqL_le4 m
      rw [hmd] at hy
      obtain ⟨q, hq⟩ : ∃ q, seqL m = q := ⟨_, rfl⟩
      obtain ⟨k, hk⟩ : ∃ k, stepL m = k := ⟨_, rfl⟩
      rw [hq] at hv hy
      rw [hk] at hy
      have HMD := keep hmd
      have HML := keep hml
      have HQ := keep hq
      have HK := keep hk
      have HPP := keep p1
      clear hmd hml hq hk p1 p3
      have hkl : k ≤ ls.length - p := by have := HK.out; have := HML.out; omega
      have hk1 : 1 ≤ k := by have := HK.out; omega
      have hmx : max (q : Int) 1 = (k : Int) := by
        have h1 := HK.out
        unfold stepL at h1
        rw [HQ.out] at h1
        omega
      have z0 : (0 : Int) ≤ (k : Int) := by omega
      have z1 : (k : Int) ≤ ((c - p : Nat) : Int) := by omega
      have z2 : (k : Int) ≤ ((ls.length - p : Nat) : Int) := by omega
      have z3 : ¬ c - p = 0 := by omega
      have z4 : ¬ c ≤ p := by omega
      have hJT := fun Y u (h : J (pre ++ [⟨p, hlt⟩]) Y) u0 (h0 : Boxed Y Bs 22 u0) => hT _ _ _ h ⟨u, u0, h0, rfl⟩
      have HJT := keep hJT
      have HBX := keep hBx
      have HB := keep hb
      clear hst hsp hsq hSm hJT hBx hJ hb hS
      gi_wp2_with (refine ⟨trivial, ?_⟩; gi_at_call 36; refine (callsIn_wide.2 hv).mono ?_; rintro e w' ⟨rfl, rfl⟩)
      refine hR.mono ?_
      rintro e W3 ⟨rfl, hJ3, hk3⟩
      have hB3 := hk3.1 _ HBX.out
      have hc3 := hB3.cell
      have hf3 := hB3.frozen
      have hJn := fun u => HJT.out W3 u hJ3 _ hB3
      have hBn3 := fun u => hB3.set u
      have hbn3 := fun u => (HB.out.trans hk3.2).setCell (p := ⟨Bs, 0, none⟩) hBn u
      have HN := keep (And.intro hJn (And.intro hBn3 hbn3))
      have hnx := posN_next ls pre.length (by rw [← HPP.out]; exact hlt)
      have hps : posN ls (pre.length + 1) = p + k := by
        show posN ls pre.length + stepL (ls.drop (posN ls pre.length)) = p + k
        rw [← HPP.out, HMD.out, HK.out]
      have HR : Hid (p + k = posN ls (pre ++ [(⟨p, hlt⟩ : PlAt ls.length)]).length ∧ p + k ≤ ls.length ∧ (pre ++ [(⟨p, hlt⟩ : PlAt ls.length)]).map (·.1) = (List.range ((pre ++ [(⟨p, hlt⟩ : PlAt ls.length)]).map (·.1)).length).map (posN ls)) := keep ⟨by rw [List.length_append, List.length_singleton, hps], by omega, by
        rw [List.map_append, List.map_singleton]
        exact StPush hp.out.2.2 p (by rw [List.length_map]; exact HPP.out)⟩
      clear hJn hBn3 hbn3 hnx hps hB3 hk3 hy hR hv
      by_cases hck : c - p = k
      · have hcl : ls.length = p + k := by omega
        have hcl2 : ls.length - p - k = 0 := by omega
        gi_wp2
        go_roundw
        case rel => exact ⟨pre ++ [⟨p, hlt⟩], p + k, some ⟨b, o + p, none⟩, HR, HN.out.1 _, by rw [show ls.length - (p + k) = 0 by omega, show c - (p + k) = 0 by omega]; exact HN.out.2.1 _, keep (fun h => absurd h (by omega)), HN.out.2.2 _⟩
        case measure => rw [boxLen_eq (HN.out.2.1 _), boxLen_eq HBX.out]; omega
      · gi_wp2
        go_roundw
        case rel => exact ⟨pre ++ [⟨p, hlt⟩], p + k, some ⟨b, o + p + k, none⟩, HR, HN.out.1 _, by rw [← Nat.sub_sub, ← Nat.sub_sub]; exact HN.out.2.1 _, keep (fun _ => by rw [Nat.add_assoc]), HN.out.2.2 _⟩
        case measure => rw [boxLen_eq (HN.out.2.1 _), boxLen_eq HBX.out]; omega
    · have hpe : p = ls.length := by omega
      have z3 : ls.length - p = 0 := by omega
      have z4 : ls.length ≤ p := by omega
      have HP := keep hp.out
      clear p1 p3 hp
      gi_wp2
      go_end0
      exact ⟨⟨_, rfl⟩, pre, ⟨HP.out.2.2, (congrArg (posN ls) (List.length_map _)).trans (HP.out.1.symm.trans hpe)⟩, hJ⟩
/-- sequences(b): the argument is boxed; the function value captures the box. -/
theorem seq_make (a : Option Addr) (len cap : Nat) (w : World) :
    Calls Try.prog 27 #[.slice a len cap] w fun e w' => e = .returned (.func (.func 35) #[] #[.pointer (some ⟨w.heap.size, 0, none⟩)]) ∧ w' = w.alloc (.cells #[.slice a len cap] 22) := by
  go_enter Try.func27, Try.ntmps27
  go_wp2
  go_ret
  exact ⟨rfl, rfl⟩
/-- What the value that sequences hands back does. -/
theorem seq_stops (n : Nat) (hn : 1 ≤ n) (Bs b o n₀ c : Nat) (A : Option Addr) (ls : List UInt8) (hm : ls.length ≤ 1000000000) (hA : 0 < ls.length → A = some ⟨b, o, none⟩ ∧ b < n₀) (hc : ls.length ≤ c) (hBn : n₀ ≤ Bs) (w : World) (hS : BSl w (lt n₀) (.slice A ls.length c) ls)
    (hB : Boxed w Bs 22 (.slice A ls.length c)) :
    SeqStopsT Fence.wide n Try.prog 35 #[.pointer (some ⟨Bs, 0, none⟩)] (fun x : PlAt ls.length => #[.slice (some ⟨b, o + x.1, none⟩) (stepL (ls.drop x.1)) (c - x.1), .bool (decide (0 < seqL (ls.drop x.1)))])
      (TS Bs) (KpS Bs n₀) (fun ys => StAll ls (ys.map (·.1))) ls.length w := fun l J W hW _ hT hY h0 => by
  have hlt := hB.lt
  exact seq_in n hn l Bs b o n₀ c A ls hm hA hc hBn J hT hY W (hS.below hW (by omega)) ((hW.block _ hlt).trans hB) h0
end Go.Proofs.Ytimldjlegbdldaa
