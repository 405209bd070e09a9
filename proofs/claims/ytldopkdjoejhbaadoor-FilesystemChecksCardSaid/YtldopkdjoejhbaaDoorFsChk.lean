/- filesystem.ascending at names, files and ints: the comparison by its contract; the closures of Check. Printed by wip/gen/asc.py. filesystem.Check: what it tells of any directory. Printed by wip/gen/chk.py. -/
import Derived.Test.YtldopkdjoejhbaaDoorFsName
import Derived.Test.YtldopkdjoejhbaaDoorFsDir
import Derived.Test.YtldopkdjoejhbaaDoorFsLaw
import Derived.Test.YtldopkdjoejhbaaDoorFsRun
namespace Go.Proofs.YtldopkdjoejhbaaDoor
open Go.RowKit

/-- Each element is ahead of the next. -/
def Adj {α : Type} (cf : α → α → Int) (L : List α) : Prop := ∀ i, (h : i + 1 < L.length) → cf L[i] L[i + 1] < 0
def AdjTo {α : Type} (cf : α → α → Int) (L : List α) (k : Nat) : Prop := ∀ i, i + 1 < k → (h : i + 1 < L.length) → cf L[i] L[i + 1] < 0
theorem AdjTo.all {α : Type} {cf : α → α → Int} {L : List α} {k : Nat} (h : AdjTo cf L k) (hk : L.length ≤ k) : Adj cf L := fun i hi => h i (by omega) hi
theorem AdjTo.step {α : Type} {cf : α → α → Int} {L : List α} {p : Nat} (h : AdjTo cf L (p + 1)) (hp : (h : p + 1 < L.length) → cf L[p] L[p + 1] < 0) : AdjTo cf L (p + 1 + 1) := fun i hi hl => by
  by_cases e : i = p
  · subst e; exact hp hl
  · exact h i (by omega) hl
def AscOut {α : Type} (cf : α → α → Int) (L : List α) (w : World) (x : Ending) (w' : World) : Prop := ∃ b : Bool, x = .returned (.bool b) ∧ (b = true ↔ Adj cf L) ∧ Below w.heap.size w w'
set_option maxHeartbeats 8000000 in
set_option maxRecDepth 100000 in
theorem asc_nm (g : FuncId) (v : Value) (cb : Array Value) (cf : Nm → Nm → Int) (L : List Nm) (w : World) (eg : ∀ args w, (callFunc g args).run Tryd.prog w = .ok (.enter g args) w) (hs : Sl w (lt w.heap.size) 2 v L.length (nms L)) 
    (hc : ∀ s ∈ L, ∀ t ∈ L, ∀ W, Below w.heap.size w W → Calls Tryd.prog g (#[.agg (nmV s).toArray, .agg (nmV t).toArray] ++ cb) W fun e W' => e = .returned (.int .i64 (cf s t)) ∧ Below W.heap.size W W') (hm : L.length ≤ 1000000) :
    Calls Tryd.prog 58 #[v, .func (.func g) #[] cb] w (AscOut cf L w) := by
  obtain ⟨A, c, rfl, _, hs⟩ := hs.form
  have HC := keep hc
  have HS := keep hs
  clear hc hs
  go_enter Tryd.func58, Tryd.ntmps58
  go_wp2_with fail
  go_loopw [5] (fun i wr => ∃ k : Nat, i = .int .i64 k ∧ 1 ≤ k ∧ k ≤ 1000001 ∧ Hid (AdjTo cf L k) ∧ Hid (Below w.heap.size w wr)) (fun i _ => L.length - (intOf i).toNat)
  case atStart => exact ⟨1, rfl, Nat.le_refl _, by omega, keep (fun i hi => absurd hi (by omega)), keep (Below.refl _ _)⟩
  case round =>
    obtain ⟨k, rfl, hk1, hk2, hP, hB⟩ := hrel
    obtain ⟨wo, rfl⟩ : ∃ wo : World, wo = wr := ⟨_, rfl⟩
    by_cases hlt : k < L.length
    · obtain ⟨p, rfl⟩ : ∃ p, k = p + 1 := ⟨k - 1, by omega⟩
      have hp1 : p < L.length := by omega
      obtain ⟨b1, o1, rfl, _, c0, c1⟩ := nm_cells (HS.out.below hB.out (Nat.le_refl _)) hp1
      obtain ⟨b2, o2, hA, _, d0, d1⟩ := nm_cells (HS.out.below hB.out (Nat.le_refl _)) hlt
      injection hA with hA
      injection hA with q1 q2 _
      subst q1 q2
      have hsm := List.getElem_mem hp1
      have htm := List.getElem_mem hlt
      have hal : Below wo.heap.size wo wo.drew := (Below.refl _ wo).drew
      have HCL := HC.out _ hsm _ htm wo.drew (hB.out.trans (hal.mono hB.out.size))
      obtain ⟨s, hs⟩ : ∃ s, L[p] = s := ⟨_, rfl⟩
      obtain ⟨t, ht⟩ : ∃ t, L[p + 1] = t := ⟨_, rfl⟩
      have HX := keep (show cf L[p] L[p + 1] = cf s t by rw [hs, ht])
      rw [hs] at HCL c0 c1 hsm
      rw [ht] at HCL d0 d1 htm
      clear hs ht
      obtain ⟨m, hm'⟩ : ∃ m, cf s t = m := ⟨_, rfl⟩
      rw [hm'] at HX HCL
      clear hm'
      obtain ⟨s0, s1⟩ := s
      obtain ⟨t0, t1⟩ := t
      simp only [nmV] at HCL c0 c1 d0 d1
      have HCL := keep HCL
      have HPk := keep (show p + 1 < L.length from hlt)
      have hp2 : (p : Int) < (L.length : Int) := by omega
      have hp0 : (0 : Int) ≤ (p : Int) := by omega
      obtain ⟨k, hk⟩ : ∃ k, k = p + 1 := ⟨_, rfl⟩
      have HK := keep hk
      rw [← hk] at d0 d1 hlt ⊢
      have i1 : (k : Int) < (L.length : Int) := by omega
      have i0 : (0 : Int) ≤ (k : Int) := by omega
      have hw : IntKind.i64.wrap ((k : Int) - 1) = (p : Int) := by rw [IntWalk.i64_in _ (by omega)]; omega
      clear hk hal hsm htm
      go_upto_region 4 with fail
      go_cut [23] (fun q wd => q = .bool (decide (0 ≤ m)) ∧ Hid (Below wo.heap.size wo wd))
      case first =>
        go_region_with ((refine HCL.out.mono ?_; rintro e w1 ⟨rfl, hb1⟩; have HB1 := keep (Below.trans ((Below.refl wo.heap.size wo).drew) hb1); clear hb1))
        all_goals
          go_wp2_with fail
          go_meet
          case rel => exact ⟨rfl, HB1⟩
      case rest =>
        obtain ⟨rfl, hcb⟩ := hcut
        have HBn := keep (hB.out.trans (hcb.out.mono hB.out.size))
        by_cases hcmp : m < 0
        · have hd : decide (0 ≤ m) = false := decide_eq_false (by omega)
          have HM := keep hcmp
          clear hcmp
          rw [hd]
          go_wp2_with fail
          go_roundw
          case rel => exact ⟨k + 1, by go_num, by omega, by omega, keep (by rw [HK.out]; exact AdjTo.step hP.out (fun _ => by rw [HX.out]; exact HM.out)), HBn⟩
          case measure => simp [intOf]; omega
        · have hd : decide (0 ≤ m) = true := decide_eq_true (by omega)
          have HM := keep hcmp
          clear hcmp
          rw [hd]
          go_wp2_with fail
          go_ret
          exact ⟨false, rfl, ⟨fun h => Bool.noConfusion h, fun h => absurd (HX.out ▸ h p HPk.out) (Int.not_lt.2 HM.out)⟩, HBn.out⟩
    · go_wp2_with fail
      go_ret
      exact ⟨true, rfl, ⟨fun _ => hP.out.all (by omega), fun _ => rfl⟩, hB.out⟩
set_option maxHeartbeats 8000000 in
set_option maxRecDepth 100000 in
theorem asc_fi (g : FuncId) (v : Value) (cb : Array Value) (cf : Fi → Fi → Int) (L : List Fi) (w : World) (eg : ∀ args w, (callFunc g args).run Tryd.prog w = .ok (.enter g args) w) (hs : Sl w (lt w.heap.size) 5 v L.length (fis L)) (hd : ∀ t ∈ L, FiR w t) 
    (hc : ∀ s ∈ L, ∀ t ∈ L, ∀ W, Below w.heap.size w W → Calls Tryd.prog g (#[.agg (fiV s).toArray, .agg (fiV t).toArray] ++ cb) W fun e W' => e = .returned (.int .i64 (cf s t)) ∧ Below W.heap.size W W') (hm : L.length ≤ 1000000) :
    Calls Tryd.prog 61 #[v, .func (.func g) #[] cb] w (AscOut cf L w) := by
  obtain ⟨A, c, rfl, _, hs⟩ := hs.form
  have HC := keep hc
  have HS := keep hs
  have HD := keep hd
  clear hd
  clear hc hs
  go_enter Tryd.func61, Tryd.ntmps61
  go_wp2_with fail
  go_loopw [5] (fun i wr => ∃ k : Nat, i = .int .i64 k ∧ 1 ≤ k ∧ k ≤ 1000001 ∧ Hid (AdjTo cf L k) ∧ Hid (Below w.heap.size w wr)) (fun i _ => L.length - (intOf i).toNat)
  case atStart => exact ⟨1, rfl, Nat.le_refl _, by omega, keep (fun i hi => absurd hi (by omega)), keep (Below.refl _ _)⟩
  case round =>
    obtain ⟨k, rfl, hk1, hk2, hP, hB⟩ := hrel
    obtain ⟨wo, rfl⟩ : ∃ wo : World, wo = wr := ⟨_, rfl⟩
    by_cases hlt : k < L.length
    · obtain ⟨p, rfl⟩ : ∃ p, k = p + 1 := ⟨k - 1, by omega⟩
      have hp1 : p < L.length := by omega
      obtain ⟨b1, o1, rfl, _, c0, c1, c2, c3, c4⟩ := fi_cells (HS.out.below hB.out (Nat.le_refl _)) hp1
      obtain ⟨b2, o2, hA, _, d0, d1, d2, d3, d4⟩ := fi_cells (HS.out.below hB.out (Nat.le_refl _)) hlt
      injection hA with hA
      injection hA with q1 q2 _
      subst q1 q2
      have hsm := List.getElem_mem hp1
      have htm := List.getElem_mem hlt
      have hal : Below wo.heap.size wo wo.drew := (Below.refl _ wo).drew
      have HCL := HC.out _ hsm _ htm wo.drew (hB.out.trans (hal.mono hB.out.size))
      obtain ⟨s, hs⟩ : ∃ s, L[p] = s := ⟨_, rfl⟩
      obtain ⟨t, ht⟩ : ∃ t, L[p + 1] = t := ⟨_, rfl⟩
      have HX := keep (show cf L[p] L[p + 1] = cf s t by rw [hs, ht])
      rw [hs] at HCL c0 c1 c2 c3 c4 hsm
      rw [ht] at HCL d0 d1 d2 d3 d4 htm
      clear hs ht
      obtain ⟨m, hm'⟩ : ∃ m, cf s t = m := ⟨_, rfl⟩
      rw [hm'] at HX HCL
      clear hm'
      obtain ⟨FA, FC, hfd⟩ := (HD.out s hsm).form
      obtain ⟨FA2, FC2, hfd2⟩ := (HD.out t htm).form
      obtain ⟨si, sv, sd, sc, sw, sl⟩ := s
      obtain ⟨ti, tv, td, tc, tw, tl⟩ := t
      simp only at hfd hfd2
      subst hfd hfd2
      simp only [fiV] at HCL c0 c1 c2 c3 c4 d0 d1 d2 d3 d4
      have HCL := keep HCL
      have HPk := keep (show p + 1 < L.length from hlt)
      have hp2 : (p : Int) < (L.length : Int) := by omega
      have hp0 : (0 : Int) ≤ (p : Int) := by omega
      obtain ⟨k, hk⟩ : ∃ k, k = p + 1 := ⟨_, rfl⟩
      have HK := keep hk
      rw [← hk] at d0 d1 d2 d3 d4 hlt ⊢
      have i1 : (k : Int) < (L.length : Int) := by omega
      have i0 : (0 : Int) ≤ (k : Int) := by omega
      have hw : IntKind.i64.wrap ((k : Int) - 1) = (p : Int) := by rw [IntWalk.i64_in _ (by omega)]; omega
      clear hk hal hsm htm
      go_upto_region 4 with fail
      go_cut [23] (fun q wd => q = .bool (decide (0 ≤ m)) ∧ Hid (Below wo.heap.size wo wd))
      case first =>
        go_region_with ((refine HCL.out.mono ?_; rintro e w1 ⟨rfl, hb1⟩; have HB1 := keep (Below.trans ((Below.refl wo.heap.size wo).drew) hb1); clear hb1))
        all_goals
          go_wp2_with fail
          go_meet
          case rel => exact ⟨rfl, HB1⟩
      case rest =>
        obtain ⟨rfl, hcb⟩ := hcut
        have HBn := keep (hB.out.trans (hcb.out.mono hB.out.size))
        by_cases hcmp : m < 0
        · have hd : decide (0 ≤ m) = false := decide_eq_false (by omega)
          have HM := keep hcmp
          clear hcmp
          rw [hd]
          go_wp2_with fail
          go_roundw
          case rel => exact ⟨k + 1, by go_num, by omega, by omega, keep (by rw [HK.out]; exact AdjTo.step hP.out (fun _ => by rw [HX.out]; exact HM.out)), HBn⟩
          case measure => simp [intOf]; omega
        · have hd : decide (0 ≤ m) = true := decide_eq_true (by omega)
          have HM := keep hcmp
          clear hcmp
          rw [hd]
          go_wp2_with fail
          go_ret
          exact ⟨false, rfl, ⟨fun h => Bool.noConfusion h, fun h => absurd (HX.out ▸ h p HPk.out) (Int.not_lt.2 HM.out)⟩, HBn.out⟩
    · go_wp2_with fail
      go_ret
      exact ⟨true, rfl, ⟨fun _ => hP.out.all (by omega), fun _ => rfl⟩, hB.out⟩
set_option maxHeartbeats 8000000 in
set_option maxRecDepth 100000 in
theorem asc_int (g : FuncId) (v : Value) (cb : Array Value) (cf : Int → Int → Int) (L : List Int) (w : World) (eg : ∀ args w, (callFunc g args).run Tryd.prog w = .ok (.enter g args) w) (hs : Sl w (lt w.heap.size) 1 v L.length (ints L)) 
    (hc : ∀ s ∈ L, ∀ t ∈ L, ∀ W, Below w.heap.size w W → Calls Tryd.prog g (#[.int .i64 s, .int .i64 t] ++ cb) W fun e W' => e = .returned (.int .i64 (cf s t)) ∧ Below W.heap.size W W') (hm : L.length ≤ 1000000) :
    Calls Tryd.prog 56 #[v, .func (.func g) #[] cb] w (AscOut cf L w) := by
  obtain ⟨A, c, rfl, _, hs⟩ := hs.form
  have HC := keep hc
  have HS := keep hs
  clear hc hs
  go_enter Tryd.func56, Tryd.ntmps56
  go_wp2_with fail
  go_loopw [5] (fun i wr => ∃ k : Nat, i = .int .i64 k ∧ 1 ≤ k ∧ k ≤ 1000001 ∧ Hid (AdjTo cf L k) ∧ Hid (Below w.heap.size w wr)) (fun i _ => L.length - (intOf i).toNat)
  case atStart => exact ⟨1, rfl, Nat.le_refl _, by omega, keep (fun i hi => absurd hi (by omega)), keep (Below.refl _ _)⟩
  case round =>
    obtain ⟨k, rfl, hk1, hk2, hP, hB⟩ := hrel
    obtain ⟨wo, rfl⟩ : ∃ wo : World, wo = wr := ⟨_, rfl⟩
    by_cases hlt : k < L.length
    · obtain ⟨p, rfl⟩ : ∃ p, k = p + 1 := ⟨k - 1, by omega⟩
      have hp1 : p < L.length := by omega
      obtain ⟨b1, o1, u1, rfl, _, hu1, c0⟩ := (HS.out.below hB.out (Nat.le_refl _)).at_ hp1
      obtain ⟨b2, o2, u2, hA, _, hu2, d0⟩ := (HS.out.below hB.out (Nat.le_refl _)).at_ hlt
      injection hA with hA
      injection hA with q1 q2 _
      subst q1 q2
      obtain rfl : u1 = .int .i64 L[p] := by
        rw [ints, List.getElem?_map, List.getElem?_eq_getElem hp1] at hu1
        exact (Option.some.inj hu1).symm
      obtain rfl : u2 = .int .i64 L[p + 1] := by
        rw [ints, List.getElem?_map, List.getElem?_eq_getElem hlt] at hu2
        exact (Option.some.inj hu2).symm
      have hsm := List.getElem_mem hp1
      have htm := List.getElem_mem hlt
      have hal : Below wo.heap.size wo wo.drew := (Below.refl _ wo).drew
      have HCL := HC.out _ hsm _ htm wo.drew (hB.out.trans (hal.mono hB.out.size))
      obtain ⟨s, hs⟩ : ∃ s, L[p] = s := ⟨_, rfl⟩
      obtain ⟨t, ht⟩ : ∃ t, L[p + 1] = t := ⟨_, rfl⟩
      have HX := keep (show cf L[p] L[p + 1] = cf s t by rw [hs, ht])
      rw [hs] at HCL c0 hsm
      rw [ht] at HCL d0 htm
      clear hs ht
      obtain ⟨m, hm'⟩ : ∃ m, cf s t = m := ⟨_, rfl⟩
      rw [hm'] at HX HCL
      clear hm'
      have HCL := keep HCL
      have HPk := keep (show p + 1 < L.length from hlt)
      have hp2 : (p : Int) < (L.length : Int) := by omega
      have hp0 : (0 : Int) ≤ (p : Int) := by omega
      obtain ⟨k, hk⟩ : ∃ k, k = p + 1 := ⟨_, rfl⟩
      have HK := keep hk
      rw [← hk] at d0 hlt ⊢
      have i1 : (k : Int) < (L.length : Int) := by omega
      have i0 : (0 : Int) ≤ (k : Int) := by omega
      have hw : IntKind.i64.wrap ((k : Int) - 1) = (p : Int) := by rw [IntWalk.i64_in _ (by omega)]; omega
      clear hk hal hsm htm
      go_upto_region 4 with fail
      go_cut [23] (fun q wd => q = .bool (decide (0 ≤ m)) ∧ Hid (Below wo.heap.size wo wd))
      case first =>
        go_region_with ((refine HCL.out.mono ?_; rintro e w1 ⟨rfl, hb1⟩; have HB1 := keep (Below.trans ((Below.refl wo.heap.size wo).drew) hb1); clear hb1))
        all_goals
          go_wp2_with fail
          go_meet
          case rel => exact ⟨rfl, HB1⟩
      case rest =>
        obtain ⟨rfl, hcb⟩ := hcut
        have HBn := keep (hB.out.trans (hcb.out.mono hB.out.size))
        by_cases hcmp : m < 0
        · have hd : decide (0 ≤ m) = false := decide_eq_false (by omega)
          have HM := keep hcmp
          clear hcmp
          rw [hd]
          go_wp2_with fail
          go_roundw
          case rel => exact ⟨k + 1, by go_num, by omega, by omega, keep (by rw [HK.out]; exact AdjTo.step hP.out (fun _ => by rw [HX.out]; exact HM.out)), HBn⟩
          case measure => simp [intOf]; omega
        · have hd : decide (0 ≤ m) = true := decide_eq_true (by omega)
          have HM := keep hcmp
          clear hcmp
          rw [hd]
          go_wp2_with fail
          go_ret
          exact ⟨false, rfl, ⟨fun h => Bool.noConfusion h, fun h => absurd (HX.out ▸ h p HPk.out) (Int.not_lt.2 HM.out)⟩, HBn.out⟩
    · go_wp2_with fail
      go_ret
      exact ⟨true, rfl, ⟨fun _ => hP.out.all (by omega), fun _ => rfl⟩, hB.out⟩
end Go.Proofs.YtldopkdjoejhbaaDoor
namespace Go.Proofs.YtldopkdjoejhbaaDoor
open Go.RowKit

/-- A file is right. -/
def okFile (fs : FS) (t : Fi) : Prop := 1 ≤ t.ino ∧ t.data.length ≤ 60000 ∧ ((∃ n ∈ fs.N, n.ino = t.ino) ∨ t.ino ∈ fs.O) ∧ (t.cp = true ∨ t.wh = true) ∧ 0 ≤ t.left ∧ t.left ≤ t.data.length ∧ (t.wh = true → t.left = 0)
/-- A directory is right. -/
structure Chk (fs : FS) : Prop where
  b : fs.N.length ≤ 40
  o : Adj cmpI fs.O
  n : Adj (fun a b => cfn b.nm a) fs.N
  f : Adj (fun a b => cfi b.ino a) fs.F
  nm : ∀ n ∈ fs.N, (∃ t ∈ fs.F, t.ino = n.ino) ∧ vld n.nm = true
  fi : ∀ t ∈ fs.F, okFile fs t
theorem adj_pair {α : Type} {cf : α → α → Int} {r : α → α → Prop} (ht : ∀ a b c, r a b → r b c → r a c) (hc : ∀ a b, cf a b < 0 → r a b) : ∀ {L : List α}, Adj cf L → L.Pairwise r := by
  intro L h
  rw [List.pairwise_iff_getElem]
  have : ∀ d i, (hj : i + d + 1 < L.length) → r L[i] L[i + d + 1] := by
    intro d
    induction d with
    | zero => intro i hj; exact hc _ _ (h i (by omega))
    | succ d ih =>
      intro i hj
      have h1 := ih i (by omega)
      have h2 := hc _ _ (h (i + d + 1) (by omega))
      exact ht _ _ _ h1 h2
  intro i j hi hj hij
  obtain ⟨d, rfl⟩ : ∃ d, j = i + d + 1 := ⟨j - i - 1, by omega⟩
  exact this d i hj
theorem cmpI_neg {a b : Int} : cmpI a b < 0 ↔ a < b := by unfold cmpI; split <;> (try split) <;> omega
theorem adj_n {L : List Nm} (h : Adj (fun a b => cfn b.nm a) L) : NSrt L := by
  unfold NSrt
  exact adj_pair (r := fun a b => lb a.nm < lb b.nm) (fun _ _ _ h1 h2 => List.lt_trans h1 h2) (fun _ _ h => cfn_neg.1 h) h
theorem adj_f {L : List Fi} (h : Adj (fun a b => cfi b.ino a) L) : FSrt L := by
  unfold FSrt
  exact adj_pair (r := fun a b => a.ino < b.ino) (fun _ _ _ h1 h2 => Int.lt_trans h1 h2) (fun _ _ h => cfi_neg.1 h) h
theorem Chk.of_inv {fs : FS} (h : Inv fs) : Chk fs := by
  refine ⟨h.b, fun i hi => ?_, fun i hi => ?_, fun i hi => ?_, fun n hn => ⟨h.a n hn, h.v n hn⟩, fun t ht => ⟨h.p t ht, h.d t ht, h.h t ht, h.c t ht, (h.l t ht).1, (h.l t ht).2, h.w t ht⟩⟩
  · exact cmpI_neg.2 (List.pairwise_iff_getElem.1 h.o i (i + 1) (by omega) hi (by omega))
  · exact cfn_neg.2 (List.pairwise_iff_getElem.1 h.n i (i + 1) (by omega) hi (by omega))
  · exact cfi_neg.2 (List.pairwise_iff_getElem.1 h.f i (i + 1) (by omega) hi (by omega))
def ChkOut (fs : FS) (w : World) (x : Ending) (w' : World) : Prop := ∃ b : Bool, x = .returned (.bool b) ∧ (b = true ↔ Chk fs) ∧ Below w.heap.size w w'
theorem chk1 (s t : Nm) (w : World) : Calls Tryd.prog 59 #[.agg (nmV s).toArray, .agg (nmV t).toArray] w fun e w' => e = .returned (.int .i64 (cfn t.nm s)) ∧ Below w.heap.size w w' := by
  obtain ⟨nm, ino⟩ := s
  obtain ⟨nm2, ino2⟩ := t
  obtain ⟨x, hx⟩ : ∃ x, Lib.compareBytes nm.data.toList nm2.data.toList = x := ⟨_, rfl⟩
  have hr : cfn nm2 ⟨nm, ino⟩ = x := hx
  rw [hr]
  simp only [nmV]
  have hq := fun w => (Tryd.strings_Compare nm nm2 w)
  rw [hx] at hq
  have HQ := keep hq
  have HB := keep (((Below.refl _ w).alloc (Nat.le_refl _) (.cells #[.string nm, .int .i64 ino] 69)).alloc (by simp) (.cells #[.string nm2, .int .i64 ino2] 69))
  clear hq hx hr
  go_enter Tryd.func59, Tryd.ntmps59
  go_wp2_with fail
  refine (HQ.out _).mono ?_
  rintro e w' ⟨rfl, rfl⟩
  go_wp2_with fail
  go_ret
  exact ⟨rfl, HB.out⟩
theorem chk2 (s t : Fi) (w : World) (hs : FiR w s) (ht : FiR w t) : Calls Tryd.prog 62 #[.agg (fiV s).toArray, .agg (fiV t).toArray] w fun e w' => e = .returned (.int .i64 (cfi t.ino s)) ∧ Below w.heap.size w w' := by
  obtain ⟨A, c, hv⟩ := hs.form
  obtain ⟨A2, c2, hv2⟩ := ht.form
  obtain ⟨ino, dv, data, cp, wh, left⟩ := s
  obtain ⟨ino2, dv2, data2, cp2, wh2, left2⟩ := t
  simp only at hv hv2
  subst hv hv2
  obtain ⟨x, hx⟩ : ∃ x, cmpI ino ino2 = x := ⟨_, rfl⟩
  have hr : cfi ino2 ⟨ino, .slice A data.length c, data, cp, wh, left⟩ = x := hx
  rw [hr]
  simp only [fiV]
  have hq := fun w => (cmp_int ino ino2 w)
  rw [hx] at hq
  have HQ := keep hq
  have HB := keep (((Below.refl _ w).alloc (Nat.le_refl _) (.cells #[.int .i64 ino, .slice A data.length c, .bool cp, .bool wh, .int .i64 left] 45)).alloc (by simp) (.cells #[.int .i64 ino2, .slice A2 data2.length c2, .bool cp2, .bool wh2, .int .i64 left2] 45))
  clear hq hx hr hs ht
  go_enter Tryd.func62, Tryd.ntmps62
  go_wp2_with fail
  refine (HQ.out _).mono ?_
  rintro e w' ⟨rfl, rfl⟩
  go_wp2_with fail
  go_ret
  exact ⟨rfl, HB.out⟩
theorem chk3 (t : Nm) (g : Nat) (x : Int) (w : World) (h0 : w.cell? ⟨g, 0, none⟩ = some (.int .i64 x)) :
    Calls Tryd.prog 64 #[.agg (nmV t).toArray, .pointer (some ⟨g, 0, none⟩)] w fun e w' => e = .returned (.bool (t.ino == x)) ∧ Below w.heap.size w w' := by
  obtain ⟨nm, ino⟩ := t
  simp only [nmV]
  have hl : g < w.heap.size := World.block_lt_of_cell? w _ h0
  have h1 : (w.alloc (.cells #[.string nm, .int .i64 ino] 69)).cell? ⟨g, 0, none⟩ = some (.int .i64 x) := ((Below.refl _ w).alloc (Nat.le_refl _) _).cell hl |>.trans h0
  go_enter Tryd.func64, Tryd.ntmps64
  go_wp2_with fail
  go_ret
  exact ⟨by first | rfl | (congr 2) | simp, (Below.refl _ w).alloc (Nat.le_refl _) _⟩
/-- What is wrong with a file, in the order of the program's conditions. -/
def badF (e1 e2 q h cp wh e5 e6 e7 : Bool) : Bool := e1 || e2 || (!q && !h) || (!cp && !wh) || e5 || e6 || (wh && e7)
theorem badF_ok {fs : FS} {t : Fi} : badF (decide (t.ino < 1)) (decide (60000 < (t.data.length : Int))) (fs.N.any fun n => n.ino == t.ino) (fs.O.contains t.ino) t.cp t.wh (decide (t.left < 0)) (decide ((t.data.length : Int) < t.left)) (t.left != 0) = false ↔ okFile fs t := by
  have hq : ((∃ n ∈ fs.N, n.ino = t.ino) ∨ t.ino ∈ fs.O) ↔ ¬ ((fs.N.any fun n => n.ino == t.ino) = false ∧ fs.O.contains t.ino = false) := by
    have h1 : (fs.N.any fun n => n.ino == t.ino) = true ↔ ∃ n ∈ fs.N, n.ino = t.ino := by simp
    have h2 : fs.O.contains t.ino = true ↔ t.ino ∈ fs.O := by simp
    rw [← h1, ← h2]
    cases (fs.N.any fun n => n.ino == t.ino) <;> cases fs.O.contains t.ino <;> simp
  unfold okFile
  rw [hq]
  unfold badF
  cases fs.N.any (fun n => n.ino == t.ino) <;> cases fs.O.contains t.ino <;> cases t.cp <;> cases t.wh <;> simp <;> omega
set_option maxHeartbeats 16000000 in
set_option maxRecDepth 100000 in
theorem check_any (vN vF vO : Value) (fs : FS) (w : World) (h : FsT w vN vF vO fs) (hm : fs.N.length ≤ 1000000 ∧ fs.F.length ≤ 1000000 ∧ fs.O.length ≤ 1000000) (hz : ∀ n ∈ fs.N, n.nm.size ≤ 9223372036854775807) :
    Calls Tryd.prog 30 #[.agg #[vN, vF, vO]] w (ChkOut fs w) := by
  obtain ⟨A1, c1, rfl, _, _⟩ := h.n.form
  obtain ⟨A2, c2, rfl, _, _⟩ := h.f.form
  obtain ⟨A3, c3, rfl, _, _⟩ := h.o.form
  obtain ⟨hmN, hmF, hmO⟩ := hm
  obtain ⟨W, hW⟩ : ∃ W, W = ((w.alloc (.cells #[.slice A1 fs.N.length c1, .slice A2 fs.F.length c2, .slice A3 fs.O.length c3] 31)).alloc (.cells #[.slice A1 fs.N.length c1, .slice A2 fs.F.length c2, .slice A3 fs.O.length c3] 81)) := ⟨_, rfl⟩
  have hb : Below w.heap.size w W := hW ▸ ((Below.refl _ w).alloc (Nat.le_refl _) _).alloc (by simp) _
  have hF : Blk W w.heap.size 31 #[.slice A1 fs.N.length c1, .slice A2 fs.F.length c2, .slice A3 fs.O.length c3] := hW ▸ ((Blk.new w _ _).alloc _)
  have hX : Blk W (w.heap.size + 1) 81 #[.slice A1 fs.N.length c1, .slice A2 fs.F.length c2, .slice A3 fs.O.length c3] := hW ▸ Blk.new_at (by simp)
  have HF := keep hF
  have HX := keep hX
  have HT := keep (h.up hb)
  have HB := keep hb
  have HM := keep (And.intro hmN (And.intro hmF hmO))
  have HSZ := keep hz
  clear hb hF hX h hmF hmO hz
  go_enter Tryd.func30, Tryd.ntmps30
  go_upto_region 2 with fail
  rw [← hW]
  clear hW
  obtain ⟨f0, f1, f2⟩ := HF.out.cell3
  by_cases hN : 40 < fs.N.length
  · have d0 : decide (40 < (fs.N.length : Int)) = true := decide_eq_true (by omega)
    go_wp2_with fail
    go_ret
    exact ⟨false, rfl, ⟨fun h => Bool.noConfusion h, fun h => absurd h.b (by omega)⟩, HB.out⟩
  · have d0 : decide (40 < (fs.N.length : Int)) = false := decide_eq_false (by omega)
    have HN40 := keep hN
    clear hN
    go_wp2_with fail
    refine (asc_int 57 _ #[] cmpI fs.O W (fun args w => by kernel_rfl) HT.out.r.o (fun s _ t _ W' _ => by
      rw [Array.append_empty]
      exact (cmp_int s t W').mono (fun e w' h => ⟨h.1, h.2 ▸ Below.refl _ _⟩)) HM.out.2.2).mono ?_
    rintro e w1 ⟨q1, rfl, hq1, hb1⟩
    have HF1 := keep (HF.out.below hb1 HF.out.lt)
    have HX1 := keep (HX.out.below hb1 HX.out.lt)
    have HT1 := keep (HT.out.up hb1)
    have HB1 := keep (bchain HB.out hb1)
    have HQ1 := keep hq1
    clear hb1 hq1 f0 f1 f2 HF HX HT
    obtain ⟨f0, f1, f2⟩ := HF1.out.cell3
    cases q1 with
    | false =>
      go_wp2_with fail
      go_ret
      exact ⟨false, rfl, ⟨fun h => Bool.noConfusion h, fun h => absurd (HQ1.out.2 h.o) (by simp)⟩, HB1.out⟩
    | true =>
      go_wp2_with fail
      refine (asc_nm 59 _ #[] (fun a b => cfn b.nm a) fs.N w1 (fun args w => by kernel_rfl) HT1.out.r.n (fun s _ t _ W' _ => by
        rw [Array.append_empty]
        exact chk1 s t W') HM.out.1).mono ?_
      rintro e w2 ⟨q2, rfl, hq2, hb2⟩
      have HF2 := keep (HF1.out.below hb2 HF1.out.lt)
      have HX2 := keep (HX1.out.below hb2 HX1.out.lt)
      have HT2 := keep (HT1.out.up hb2)
      have HB2 := keep (bchain HB1.out hb2)
      have HQ2 := keep hq2
      clear hb2 hq2 f0 f1 f2 HF1 HX1 HT1 HB1
      obtain ⟨f0, f1, f2⟩ := HF2.out.cell3
      cases q2 with
      | false =>
        go_wp2_with fail
        go_ret
        exact ⟨false, rfl, ⟨fun h => Bool.noConfusion h, fun h => absurd (HQ2.out.2 h.n) (by simp)⟩, HB2.out⟩
      | true =>
        go_wp2_with fail
        refine (asc_fi 62 _ #[] (fun a b => cfi b.ino a) fs.F w2 (fun args w => by kernel_rfl) HT2.out.r.f HT2.out.d (fun s hs t ht W' hb => by
          rw [Array.append_empty]
          exact chk2 s t W' ((HT2.out.d s hs).up hb) ((HT2.out.d t ht).up hb)) HM.out.2.1).mono ?_
        rintro e w3 ⟨q3, rfl, hq3, hb3⟩
        have HF3 := keep (HF2.out.below hb3 HF2.out.lt)
        have HX3 := keep (HX2.out.below hb3 HX2.out.lt)
        have HT3 := keep (HT2.out.up hb3)
        have HB3 := keep (bchain HB2.out hb3)
        have HQ3 := keep hq3
        clear hb3 hq3 f0 f1 f2 HF2 HX2 HT2 HB2
        obtain ⟨f0, f1, f2⟩ := HF3.out.cell3
        cases q3 with
        | false =>
          go_wp2_with fail
          go_ret
          exact ⟨false, rfl, ⟨fun h => Bool.noConfusion h, fun h => absurd (HQ3.out.2 h.f) (by simp)⟩, HB3.out⟩
        | true =>
          have HNS := keep (adj_n (HQ2.out.1 (by simp)))
          have HFS := keep (adj_f (HQ3.out.1 (by simp)))
          have m1 : (fs.N.length : Int) ≤ 1000000 := by omega
          have m2 : (fs.F.length : Int) ≤ 1000000 := by have := HM.out.2.1; omega
          go_wp2_with fail
          go_loopw [39] (fun i wr => ∃ k : Nat, i = .int .i64 k ∧ k ≤ fs.N.length ∧ Hid (∀ j, (hj : j < fs.N.length) → j < k → (∃ t ∈ fs.F, t.ino = fs.N[j].ino) ∧ vld fs.N[j].nm = true) ∧ Hid (Below w3.heap.size w3 wr)) (fun i _ => fs.N.length - (intOf i).toNat)
          case atStart => exact ⟨0, rfl, Nat.zero_le _, keep (fun j hj h => absurd h (Nat.not_lt_zero _)), keep (Below.refl _ _)⟩
          case round =>
            obtain ⟨k, rfl, hk, hP, hBr⟩ := hrel
            obtain ⟨wo, rfl⟩ : ∃ wo : World, wo = wr := ⟨_, rfl⟩
            by_cases hlt : k < fs.N.length
            · have HTo := keep (HT3.out.up hBr.out)
              have HXo := HX3.out.below hBr.out HX3.out.lt
              have HBo := keep (bchain HB3.out hBr.out)
              obtain ⟨b, o, rfl, _, n0, n1⟩ := nm_cells HTo.out.n hlt
              have i0 : (0 : Int) ≤ (k : Int) := by omega
              have i1 : (k : Int) < (fs.N.length : Int) := by omega
              obtain ⟨t, ht⟩ : ∃ t, fs.N[k] = t := ⟨_, rfl⟩
              have HTT := keep ht
              have htm : t ∈ fs.N := ht ▸ List.getElem_mem hlt
              rw [ht] at n0 n1
              obtain ⟨nm, ino⟩ := t
              simp only at n0 n1
              have HSZ1 : Hid (nm.size ≤ 9223372036854775807) := keep (HSZ.out _ htm)
              have hal : Below wo.heap.size wo (wo.alloc (.cells #[.string nm, .int .i64 ino] 69)) := (Below.refl _ wo).alloc (Nat.le_refl _) _
              have hNb : Blk (wo.alloc (.cells #[.string nm, .int .i64 ino] 69)) wo.heap.size 69 #[.string nm, .int .i64 ino] := Blk.new _ _ _
              have hXa := HXo.below hal HXo.lt
              have hTa := HTo.out.up hal
              have HIN := keep (inode_any (w.heap.size + 1) ino _ fs.F _ ((hXa.cell 1).trans rfl) hTa.r.f hTa.d HFS.out HM.out.2.1)
              have HNB := keep hNb
              have HAL := keep hal
              clear ht htm hXa hTa hal hNb f0 f1 f2 HXo
              go_wp2_with fail
              refine HIN.out.mono ?_
              rintro e w5 ⟨p, hA, rfl, hb5⟩
              obtain ⟨y0, y1⟩ := (HNB.out.below hb5 HNB.out.lt).cell2
              have HA := keep hA
              have HB5 := keep (hBr.out.trans ((HAL.out.trans (hb5.mono HAL.out.size)).mono hBr.out.size))
              have HBW := keep (bchain HB3.out HB5.out)
              clear hA hb5
              by_cases hc : cfAt_fi (cfi ino) fs.F p = 0
              · have HC := keep (at_ino_yes hc)
                rw [decide_eq_true hc]
                clear hc
                go_wp2_with fail
                refine (valid_any nm _ HSZ1.out).mono ?_
                rintro e w6 ⟨rfl, hb6⟩
                have HB6 := keep (HB5.out.trans (hb6.mono HB5.out.size))
                clear hb6
                cases hv : vld nm with
                | false =>
                  have HV := keep hv
                  clear hv
                  go_wp2_with fail
                  go_ret
                  exact ⟨false, rfl, ⟨fun h => Bool.noConfusion h, fun h => by
                    have h1 := (h.nm _ (List.getElem_mem hlt)).2
                    rw [HTT.out, HV.out] at h1
                    cases h1⟩, bchain HB3.out HB6.out⟩
                | true =>
                  have HV := keep hv
                  clear hv
                  go_wp2_with fail
                  go_roundw
                  case rel => exact ⟨k + 1, by go_num, by omega, keep (fun j hj hjk => by
                    by_cases e : j = k
                    · subst e
                      rw [HTT.out]
                      obtain ⟨hp, hpi⟩ := HC.out
                      exact ⟨⟨_, List.getElem_mem hp, hpi⟩, HV.out⟩
                    · exact hP.out j hj (by omega)), HB6⟩
                  case measure => simp [intOf]; omega
              · have HNO := keep (at_ino_no HFS.out HA.out hc)
                rw [decide_eq_false hc]
                clear hc
                go_wp2_with fail
                go_ret
                exact ⟨false, rfl, ⟨fun h => Bool.noConfusion h, fun h => by
                  obtain ⟨⟨t, ht, e⟩, _⟩ := h.nm _ (List.getElem_mem hlt)
                  rw [HTT.out] at e
                  exact absurd e (HNO.out t ht)⟩, HBW.out⟩
            · obtain rfl : k = fs.N.length := by omega
              have HNM : Hid (∀ n ∈ fs.N, (∃ t ∈ fs.F, t.ino = n.ino) ∧ vld n.nm = true) := keep (fun n hn => by
                obtain ⟨j, hj, rfl⟩ := List.getElem_of_mem hn
                exact hP.out j hj hj)
              have HTo := keep (HT3.out.up hBr.out)
              have HFo := keep (HF3.out.below hBr.out HF3.out.lt)
              have HBo := keep (bchain HB3.out hBr.out)
              clear f0 f1 f2 HT3 HF3 HX3 HB3 hP hBr
              obtain ⟨f0, f1, f2⟩ := HFo.out.cell3
              go_wp2_with fail
              go_loopw [62] (fun i wr => ∃ k : Nat, i = .int .i64 k ∧ k ≤ fs.F.length ∧ Hid (∀ j, (hj : j < fs.F.length) → j < k → okFile fs fs.F[j]) ∧ Hid (Below wo.heap.size wo wr)) (fun i _ => fs.F.length - (intOf i).toNat)
              case atStart => exact ⟨0, rfl, Nat.zero_le _, keep (fun j hj h => absurd h (Nat.not_lt_zero _)), keep (Below.refl _ _)⟩
              case round =>
                obtain ⟨k, rfl, hk, hP2, hBr⟩ := hrel
                obtain ⟨wp, rfl⟩ : ∃ wp : World, wp = wr := ⟨_, rfl⟩
                clear f0 f1 f2
                by_cases hlt : k < fs.F.length
                · have HTp := keep (HTo.out.up hBr.out)
                  have hFp := HFo.out.below hBr.out HFo.out.lt
                  obtain ⟨b, o, rfl, _, m0, m1, m2, m3, m4⟩ := fi_cells HTp.out.f hlt
                  obtain ⟨FA, FC, hfd⟩ := (HTp.out.d _ (List.getElem_mem hlt)).form
                  have hdl := (HTp.out.d _ (List.getElem_mem hlt)).2
                  obtain ⟨t, ht⟩ : ∃ t, fs.F[k] = t := ⟨_, rfl⟩
                  have HTT := keep ht
                  rw [ht] at m0 m1 m2 m3 m4 hfd hdl
                  clear ht
                  obtain ⟨ino, dv, data, cp, wh, left⟩ := t
                  simp only at hfd m0 m1 m2 m3 m4 hdl
                  subst hfd
                  have hbad := badF_ok (fs := fs) (t := ⟨ino, .slice FA data.length FC, data, cp, wh, left⟩)
                  simp only at hbad
                  have hal : Below wp.heap.size wp (wp.alloc (.cells #[.int .i64 ino, .slice FA data.length FC, .bool cp, .bool wh, .int .i64 left] 45)) := (Below.refl _ wp).alloc (Nat.le_refl _) _
                  have hXb : Blk (wp.alloc (.cells #[.int .i64 ino, .slice FA data.length FC, .bool cp, .bool wh, .int .i64 left] 45)) wp.heap.size 45 #[.int .i64 ino, .slice FA data.length FC, .bool cp, .bool wh, .int .i64 left] := Blk.new _ _ _
                  have hTa := HTp.out.up hal
                  have HCN := keep (contains_nm 64 _ #[.pointer (some ⟨wp.heap.size, 0, none⟩)] (fun n => n.ino == ino) fs.N _ (fun args w => by kernel_rfl) hTa.r.n
                    (fun u _ X hX => chk3 u wp.heap.size ino X ((hX.cell hXb.lt).trans ((hXb.cell 0).trans rfl))) HM.out.1)
                  have hFa := hFp.below hal hFp.lt
                  obtain ⟨f0, f1, f2⟩ := hFa.cell3
                  have HFa := keep hFa
                  have HXb := keep hXb
                  have HTa := keep hTa
                  have HBa := keep (hBr.out.trans (hal.mono hBr.out.size))
                  have i0 : (0 : Int) ≤ (k : Int) := by omega
                  have i1 : (k : Int) < (fs.F.length : Int) := by omega
                  have i2 : (data.length : Int) ≤ 1000000 := by omega
                  have HBAD := keep hbad
                  clear hal hXb hTa hFa hFp hbad
                  go_wp2_with fail
                  refine HCN.out.mono ?_
                  rintro e w5 ⟨rfl, hb5⟩
                  have HF5 := keep (HFa.out.below hb5 HFa.out.lt)
                  have HX5 := keep (HXb.out.below hb5 HXb.out.lt)
                  have HB5 := keep (HBa.out.trans (hb5.mono HBa.out.size))
                  have hct := containsI (.slice A3 fs.O.length c3) fs.O ino w5 ((HTa.out.up hb5).r.o) HM.out.2.2
                  have hbad := HBAD.out
                  obtain ⟨q, hq⟩ : ∃ q, (fs.N.any fun n => n.ino == ino) = q := ⟨_, rfl⟩
                  obtain ⟨hh, hhq⟩ : ∃ q, fs.O.contains ino = q := ⟨_, rfl⟩
                  obtain ⟨e1, d1⟩ : ∃ e, decide (ino < 1) = e := ⟨_, rfl⟩
                  obtain ⟨e2, d2⟩ : ∃ e, decide (60000 < (data.length : Int)) = e := ⟨_, rfl⟩
                  obtain ⟨e5, d5⟩ : ∃ e, decide (left < 0) = e := ⟨_, rfl⟩
                  obtain ⟨e6, d6⟩ : ∃ e, decide ((data.length : Int) < left) = e := ⟨_, rfl⟩
                  obtain ⟨e7, d7⟩ : ∃ e, (left != 0) = e := ⟨_, rfl⟩
                  have d8 : (left == 0) = !e7 := by rw [← d7]; simp [bne]
                  rw [hq]
                  rw [hq, hhq, d1, d2, d5, d6, d7] at hbad
                  rw [hhq] at hct
                  have HCT := keep hct
                  have HBAD2 := keep hbad
                  clear hq hhq hct hbad HBAD HCN f0 f1 f2 m0 m1 m2 m3 m4 hb5 HFa HXb HBa
                  obtain ⟨f0, f1, f2⟩ := HF5.out.cell3
                  obtain ⟨y0, y1, y2, y3, y4⟩ := HX5.out.cell5
                  go_upto_region 15 with fail
                  go_cut [122] (fun qv wd => qv = .bool (badF e1 e2 q hh cp wh e5 e6 e7) ∧ wd = w5)
                  case first =>
                    cases e1
                    · cases e2
                      · cases q
                        · cases hh
                          · go_wp2_with (go_at_call 46; refine HCT.out.mono ?_; rintro e w6 ⟨rfl, hw6⟩; subst hw6)
                            go_meet
                            case rel => exact ⟨rfl, rfl⟩
                          · cases cp
                            · cases wh
                              · go_wp2_with (go_at_call 46; refine HCT.out.mono ?_; rintro e w6 ⟨rfl, hw6⟩; subst hw6)
                                go_meet
                                case rel => exact ⟨rfl, rfl⟩
                              · cases e5
                                · cases e6
                                  · cases e7
                                    · go_wp2_with (go_at_call 46; refine HCT.out.mono ?_; rintro e w6 ⟨rfl, hw6⟩; subst hw6)
                                      go_meet
                                      case rel => exact ⟨rfl, rfl⟩
                                    · go_wp2_with (go_at_call 46; refine HCT.out.mono ?_; rintro e w6 ⟨rfl, hw6⟩; subst hw6)
                                      go_meet
                                      case rel => exact ⟨rfl, rfl⟩
                                  · go_wp2_with (go_at_call 46; refine HCT.out.mono ?_; rintro e w6 ⟨rfl, hw6⟩; subst hw6)
                                    go_meet
                                    case rel => exact ⟨rfl, rfl⟩
                                · go_wp2_with (go_at_call 46; refine HCT.out.mono ?_; rintro e w6 ⟨rfl, hw6⟩; subst hw6)
                                  go_meet
                                  case rel => exact ⟨rfl, rfl⟩
                            · cases wh
                              · cases e5
                                · cases e6
                                  · go_wp2_with (go_at_call 46; refine HCT.out.mono ?_; rintro e w6 ⟨rfl, hw6⟩; subst hw6)
                                    go_meet
                                    case rel => exact ⟨rfl, rfl⟩
                                  · go_wp2_with (go_at_call 46; refine HCT.out.mono ?_; rintro e w6 ⟨rfl, hw6⟩; subst hw6)
                                    go_meet
                                    case rel => exact ⟨rfl, rfl⟩
                                · go_wp2_with (go_at_call 46; refine HCT.out.mono ?_; rintro e w6 ⟨rfl, hw6⟩; subst hw6)
                                  go_meet
                                  case rel => exact ⟨rfl, rfl⟩
                              · cases e5
                                · cases e6
                                  · cases e7
                                    · go_wp2_with (go_at_call 46; refine HCT.out.mono ?_; rintro e w6 ⟨rfl, hw6⟩; subst hw6)
                                      go_meet
                                      case rel => exact ⟨rfl, rfl⟩
                                    · go_wp2_with (go_at_call 46; refine HCT.out.mono ?_; rintro e w6 ⟨rfl, hw6⟩; subst hw6)
                                      go_meet
                                      case rel => exact ⟨rfl, rfl⟩
                                  · go_wp2_with (go_at_call 46; refine HCT.out.mono ?_; rintro e w6 ⟨rfl, hw6⟩; subst hw6)
                                    go_meet
                                    case rel => exact ⟨rfl, rfl⟩
                                · go_wp2_with (go_at_call 46; refine HCT.out.mono ?_; rintro e w6 ⟨rfl, hw6⟩; subst hw6)
                                  go_meet
                                  case rel => exact ⟨rfl, rfl⟩
                        · cases cp
                          · cases wh
                            · go_wp2_with (go_at_call 46; refine HCT.out.mono ?_; rintro e w6 ⟨rfl, hw6⟩; subst hw6)
                              go_meet
                              case rel => exact ⟨rfl, rfl⟩
                            · cases e5
                              · cases e6
                                · cases e7
                                  · go_wp2_with (go_at_call 46; refine HCT.out.mono ?_; rintro e w6 ⟨rfl, hw6⟩; subst hw6)
                                    go_meet
                                    case rel => exact ⟨rfl, rfl⟩
                                  · go_wp2_with (go_at_call 46; refine HCT.out.mono ?_; rintro e w6 ⟨rfl, hw6⟩; subst hw6)
                                    go_meet
                                    case rel => exact ⟨rfl, rfl⟩
                                · go_wp2_with (go_at_call 46; refine HCT.out.mono ?_; rintro e w6 ⟨rfl, hw6⟩; subst hw6)
                                  go_meet
                                  case rel => exact ⟨rfl, rfl⟩
                              · go_wp2_with (go_at_call 46; refine HCT.out.mono ?_; rintro e w6 ⟨rfl, hw6⟩; subst hw6)
                                go_meet
                                case rel => exact ⟨rfl, rfl⟩
                          · cases wh
                            · cases e5
                              · cases e6
                                · go_wp2_with (go_at_call 46; refine HCT.out.mono ?_; rintro e w6 ⟨rfl, hw6⟩; subst hw6)
                                  go_meet
                                  case rel => exact ⟨rfl, rfl⟩
                                · go_wp2_with (go_at_call 46; refine HCT.out.mono ?_; rintro e w6 ⟨rfl, hw6⟩; subst hw6)
                                  go_meet
                                  case rel => exact ⟨rfl, rfl⟩
                              · go_wp2_with (go_at_call 46; refine HCT.out.mono ?_; rintro e w6 ⟨rfl, hw6⟩; subst hw6)
                                go_meet
                                case rel => exact ⟨rfl, rfl⟩
                            · cases e5
                              · cases e6
                                · cases e7
                                  · go_wp2_with (go_at_call 46; refine HCT.out.mono ?_; rintro e w6 ⟨rfl, hw6⟩; subst hw6)
                                    go_meet
                                    case rel => exact ⟨rfl, rfl⟩
                                  · go_wp2_with (go_at_call 46; refine HCT.out.mono ?_; rintro e w6 ⟨rfl, hw6⟩; subst hw6)
                                    go_meet
                                    case rel => exact ⟨rfl, rfl⟩
                                · go_wp2_with (go_at_call 46; refine HCT.out.mono ?_; rintro e w6 ⟨rfl, hw6⟩; subst hw6)
                                  go_meet
                                  case rel => exact ⟨rfl, rfl⟩
                              · go_wp2_with (go_at_call 46; refine HCT.out.mono ?_; rintro e w6 ⟨rfl, hw6⟩; subst hw6)
                                go_meet
                                case rel => exact ⟨rfl, rfl⟩
                      · go_wp2_with (go_at_call 46; refine HCT.out.mono ?_; rintro e w6 ⟨rfl, hw6⟩; subst hw6)
                        go_meet
                        case rel => exact ⟨rfl, rfl⟩
                    · go_wp2_with (go_at_call 46; refine HCT.out.mono ?_; rintro e w6 ⟨rfl, hw6⟩; subst hw6)
                      go_meet
                      case rel => exact ⟨rfl, rfl⟩
                  case rest =>
                    obtain ⟨rfl, rfl⟩ := hcut
                    clear d1 d2 d5 d6 d7 d8 f0 f1 f2 y0 y1 y2 y3 y4
                    generalize badF e1 e2 q hh cp wh e5 e6 e7 = bb at *
                    cases bb with
                    | true =>
                      go_wp2_with fail
                      go_ret
                      exact ⟨false, rfl, ⟨fun h => Bool.noConfusion h, fun h => by
                        have h1 := h.fi _ (List.getElem_mem hlt)
                        rw [HTT.out] at h1
                        have := HBAD2.out.2 h1
                        cases this⟩, bchain HBo.out HB5.out⟩
                    | false =>
                      go_wp2_with fail
                      go_roundw
                      case rel => exact ⟨k + 1, by go_num, by omega, keep (fun j hj hjk => by
                        by_cases e : j = k
                        · subst e
                          rw [HTT.out]
                          exact HBAD2.out.1 rfl
                        · exact hP2.out j hj (by omega)), HB5⟩
                      case measure => simp [intOf]; omega
                · obtain rfl : k = fs.F.length := by omega
                  go_wp2_with fail
                  go_ret
                  exact ⟨true, rfl, ⟨fun _ => ⟨by have := HN40.out; omega, HQ1.out.1 (by simp), HQ2.out.1 (by simp), HQ3.out.1 (by simp), HNM.out, fun t ht => by
                    obtain ⟨j, hj, rfl⟩ := List.getElem_of_mem ht
                    exact hP2.out j hj hj⟩, fun _ => rfl⟩, bchain HBo.out hBr.out⟩
end Go.Proofs.YtldopkdjoejhbaaDoor
