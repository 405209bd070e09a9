/- The reference's scan: less, followed, Scan. The reference's Scan: by insertion. slices.IndexFunc at logtide/api.Seen: the closure by its contract. Longest, of the program and of the reference; Same. append of one element, of any number of cells, onto a row of the call's own: the old slice reads as before. No program in sight. Inodes stay small under changes. No program in sight. -/
import Derived.Test.YtgegmefnbkcdkaaScan
import Derived.Test.YtgegmefnbkcdkaaRfJ
import Derived.Test.YtgegmefnbkcdkaaLib
import Derived.Test.YtgegmefnbkcdkaaFsHold
namespace Go.Proofs.Ytgegmefnbkcdkaa
open Go.RowKit

set_option maxHeartbeats 2000000 in
theorem lessS_any (s t : Sn) (w : World) : Calls Try.prog 48 #[.agg (snV s).toArray, .agg (snV t).toArray] w fun e w' => e = .returned (.bool (lessS s t)) ∧ Below w.heap.size w w' := by
  obtain ⟨f1, i1, z1⟩ := s
  obtain ⟨f2, i2, z2⟩ := t
  simp only [snV]
  have hb : Below w.heap.size w ((w.alloc (.cells #[.int .i64 f1, .int .i64 i1, .int .i64 z1] 54)).alloc (.cells #[.int .i64 f2, .int .i64 i2, .int .i64 z2] 54)) := ((Below.refl _ w).alloc (Nat.le_refl _) _).alloc (by simp) _
  have HB := keep hb
  clear hb
  by_cases hf : f1 = f2
  · have d1 : (f1 != f2) = false := by simpa using hf
    by_cases hz : z1 = z2
    · have d2 : (z1 != z2) = false := by simpa using hz
      have hr : lessS ⟨f1, i1, z1⟩ ⟨f2, i2, z2⟩ = decide (i1 < i2) := by simp only [lessS]; rw [Bool.eq_iff_iff]; simp only [decide_eq_true_eq]; omega
      have HR := keep hr
      clear hf hz hr
      go_enter Try.func48, Try.ntmps48
      go_wp2_with fail
      go_ret
      exact ⟨ret_bool HR.out.symm, HB.out⟩
    · have d2 : (z1 != z2) = true := by simpa using hz
      have hr : lessS ⟨f1, i1, z1⟩ ⟨f2, i2, z2⟩ = decide (z2 < z1) := by simp only [lessS]; rw [Bool.eq_iff_iff]; simp only [decide_eq_true_eq]; omega
      have HR := keep hr
      clear hf hz hr
      go_enter Try.func48, Try.ntmps48
      go_wp2_with fail
      go_ret
      exact ⟨ret_bool HR.out.symm, HB.out⟩
  · have d1 : (f1 != f2) = true := by simpa using hf
    have hr : lessS ⟨f1, i1, z1⟩ ⟨f2, i2, z2⟩ = decide (f1 < f2) := by simp only [lessS]; rw [Bool.eq_iff_iff]; simp only [decide_eq_true_eq]; omega
    have HR := keep hr
    clear hf hr
    go_enter Try.func48, Try.ntmps48
    go_wp2_with fail
    go_ret
    exact ⟨ret_bool HR.out.symm, HB.out⟩
theorem begins_ba (t p : ByteArray) (b : Bool) (w : World) (h : pre p t = b) : Calls Try.prog 29 #[.string t, .string p] w fun e w' => e = .returned (.bool b) ∧ w = w' := by
  have e1 : (⟨t.data.toList.toArray⟩ : ByteArray) = t := by cases t; simp
  have e2 : (⟨p.data.toList.toArray⟩ : ByteArray) = p := by cases p; simp
  have := begins_any t.data.toList p.data.toList w
  rw [e1, e2] at this
  exact this.mono fun _ _ ⟨he, hw⟩ => ⟨by rw [he, ← h]; rfl, hw⟩
/-- Has one of the first names of a directory an inode and a prefix? -/
def nameUp (N : List Nm) (p : ByteArray) (i : Int) (j : Nat) : Bool := (N.take j).any fun n => n.ino == i && pre p n.nm
theorem nameUp_succ {N : List Nm} {p : ByteArray} {i : Int} {j : Nat} (hj : j < N.length) : nameUp N p i (j + 1) = (nameUp N p i j || (N[j].ino == i && pre p N[j].nm)) := by
  unfold nameUp
  rw [List.take_succ_eq_append_getElem hj, List.any_append]
  simp
def openUp (O : List Int) (i : Int) (j : Nat) : Bool := (O.take j).contains i
theorem openUp_succ {O : List Int} {i : Int} {j : Nat} (hj : j < O.length) : openUp O i (j + 1) = (openUp O i j || O[j] == i) := by
  unfold openUp
  rw [List.take_succ_eq_append_getElem hj, List.contains_append, List.contains_cons]
  simp only [List.contains_nil, Bool.or_false]
  congr 1
  exact Bool.beq_comm
theorem want_name {fs : FS} {p : ByteArray} {i : Int} {j : Nat} (hj : j < fs.N.length) (h1 : (fs.N[j].ino == i) = true) (h2 : pre p fs.N[j].nm = true) : wantB fs.p p i = true := by
  unfold wantB
  rw [Bool.or_eq_true]
  exact .inr (List.any_eq_true.2 ⟨_, List.getElem_mem hj, by rw [h1, h2]; rfl⟩)
theorem want_open {fs : FS} {p : ByteArray} {i : Int} {j : Nat} (hj : j < fs.O.length) (h1 : (fs.O[j] == i) = true) : wantB fs.p p i = true := by
  unfold wantB
  rw [Bool.or_eq_true]
  refine .inl ?_
  have : fs.O[j] = i := by simpa using h1
  rw [List.contains_iff_mem]
  exact this ▸ List.getElem_mem hj
theorem want_none {fs : FS} {p : ByteArray} {i : Int} (h1 : nameUp fs.N p i fs.N.length = false) (h2 : openUp fs.O i fs.O.length = false) : wantB fs.p p i = false := by
  unfold wantB
  unfold nameUp at h1
  unfold openUp at h2
  rw [List.take_length] at h1 h2
  rw [show fs.p.O = fs.O from rfl, show fs.p.N = fs.N from rfl, h1, h2]
  rfl
set_option maxHeartbeats 8000000 in
set_option maxRecDepth 100000 in
theorem followed_any (vN vF vO : Value) (fs : FS) (p : ByteArray) (i : Int) (w : World) (h : FsT w vN vF vO fs) (hm : fs.N.length ≤ 1000000 ∧ fs.O.length ≤ 1000000) :
    Calls Try.prog 47 #[.agg #[vN, vF, vO], .string p, .int .i64 i] w fun e w' => e = .returned (.bool (wantB fs.p p i)) ∧ Below w.heap.size w w' := by
  obtain ⟨A1, c1, rfl, _, _⟩ := h.n.form
  obtain ⟨A2, c2, rfl, _, _⟩ := h.f.form
  obtain ⟨A3, c3, rfl, _, _⟩ := h.o.form
  obtain ⟨W, hW⟩ : ∃ W, W = w.alloc (.cells #[.slice A1 fs.N.length c1, .slice A2 fs.F.length c2, .slice A3 fs.O.length c3] 40) := ⟨_, rfl⟩
  have hb : Below w.heap.size w W := hW ▸ (Below.refl _ w).alloc (Nat.le_refl _) _
  have hF : Blk W w.heap.size 40 #[.slice A1 fs.N.length c1, .slice A2 fs.F.length c2, .slice A3 fs.O.length c3] := hW ▸ Blk.new w _ _
  have HR := keep h.r
  have HB := keep hb
  have HF := keep hF
  have HW := keep hW
  have hmN := hm.1
  have hmO := hm.2
  clear h hb hF hW hm
  go_enter Try.func47, Try.ntmps47
  go_wp2_with fail
  rw [← HW.out]
  clear HW
  go_loopw [7] (fun u wr => ∃ j : Nat, j ≤ fs.N.length ∧ u = .int .i64 j ∧ Hid (nameUp fs.N p i j = false) ∧ Hid (Below w.heap.size w wr) ∧ Hid (Blk wr w.heap.size 40 #[.slice A1 fs.N.length c1, .slice A2 fs.F.length c2, .slice A3 fs.O.length c3])) (fun u _ => fs.N.length - (intOf u).toNat)
  case atStart => exact ⟨0, Nat.zero_le _, rfl, keep rfl, HB, HF⟩
  case round =>
    obtain ⟨j, hj, rfl, hU, hBr, hFr⟩ := hrel
    obtain ⟨wo, rfl⟩ : ∃ wo : World, wo = wr := ⟨_, rfl⟩
    obtain ⟨f0, f1, f2⟩ := hFr.out.cell3
    by_cases hlt : j < fs.N.length
    · obtain ⟨b, o, rfl, hb, n0, n1⟩ := nm_cells (HR.out.n.below hBr.out (Nat.le_refl _)) hlt
      have hs := nameUp_succ (p := p) (i := i) hlt
      have hw := want_name (p := p) (i := i) hlt
      rw [hU.out, Bool.false_or] at hs
      generalize fs.N[j] = t at n0 n1 hs hw
      obtain ⟨nm, ino⟩ := t
      simp only at n0 n1 hs hw
      have HS := keep hs
      have HWN := keep hw
      have i1 : (j : Int) < (fs.N.length : Int) := by omega
      have i2 : (j : Int) ≤ 1000000 := by omega
      clear hs hw
      cases hd : ino == i with
      | true =>
        cases hp : pre p nm with
        | true =>
          have HQ := keep (begins_ba nm p true wo hp)
          have HT := keep (HWN.out hd hp)
          clear hp HS
          go_wp2_with fail
          refine HQ.out.mono ?_
          rintro e w5 ⟨rfl, rfl⟩
          go_wp2_with fail
          go_ret
          exact ⟨ret_bool HT.out.symm, hBr.out⟩
        | false =>
          have HQ := keep (begins_ba nm p false wo hp)
          have HT : Hid (nameUp fs.N p i (j + 1) = false) := keep (by rw [HS.out, hp]; simp)
          clear hp HS
          go_wp2_with fail
          refine HQ.out.mono ?_
          rintro e w5 ⟨rfl, rfl⟩
          go_wp2_with fail
          go_roundw
          case rel => exact ⟨j + 1, by omega, by go_num, HT, hBr, hFr⟩
          case measure => simp [intOf]; omega
      | false =>
        have HT : Hid (nameUp fs.N p i (j + 1) = false) := keep (by rw [HS.out, hd]; simp)
        clear HS
        go_wp2_with fail
        go_roundw
        case rel => exact ⟨j + 1, by omega, by go_num, HT, hBr, hFr⟩
        case measure => simp [intOf]; omega
    · obtain rfl : j = fs.N.length := by omega
      clear hlt hj
      go_wp2_with fail
      go_loopw [8] (fun u wr => ∃ j : Nat, j ≤ fs.O.length ∧ u = .int .i64 j ∧ Hid (openUp fs.O i j = false) ∧ Hid (Below w.heap.size w wr) ∧ Hid (Blk wr w.heap.size 40 #[.slice A1 fs.N.length c1, .slice A2 fs.F.length c2, .slice A3 fs.O.length c3])) (fun u _ => fs.O.length - (intOf u).toNat)
      case atStart => exact ⟨0, Nat.zero_le _, rfl, keep rfl, hBr, hFr⟩
      case round =>
        clear hBr hFr f0 f1 f2
        obtain ⟨j, hj, rfl, hO, hBr, hFr⟩ := hrel
        obtain ⟨wp, rfl⟩ : ∃ wp : World, wp = wr := ⟨_, rfl⟩
        obtain ⟨f0, f1, f2⟩ := hFr.out.cell3
        by_cases hlt : j < fs.O.length
        · obtain ⟨b, o, u, rfl, hb, hu, c0⟩ := (HR.out.o.below hBr.out (Nat.le_refl _)).at_ hlt
          have hs := openUp_succ (i := i) hlt
          have hw := want_open (p := p) (i := i) hlt
          rw [hO.out, Bool.false_or] at hs
          obtain ⟨x, hx⟩ : ∃ x, fs.O[j] = x := ⟨_, rfl⟩
          obtain rfl : u = .int .i64 x := by
            rw [ints, List.getElem?_map, List.getElem?_eq_getElem hlt, hx] at hu
            exact (Option.some.inj hu).symm
          rw [hx] at hs hw
          have HS := keep hs
          have HWO := keep hw
          have i1 : (j : Int) < (fs.O.length : Int) := by omega
          have i2 : (j : Int) ≤ 1000000 := by omega
          clear hs hw hx hu
          cases hd : x == i with
          | true =>
            have HT := keep (HWO.out hd)
            clear HS HWO
            go_wp2_with fail
            go_ret
            exact ⟨ret_bool HT.out.symm, hBr.out⟩
          | false =>
            have HT : Hid (openUp fs.O i (j + 1) = false) := keep (by rw [HS.out, hd])
            clear HS HWO
            go_wp2_with fail
            go_roundw
            case rel => exact ⟨j + 1, by omega, by go_num, HT, hBr, hFr⟩
            case measure => simp [intOf]; omega
        · obtain rfl : j = fs.O.length := by omega
          have HT := keep (want_none hU.out hO.out)
          clear hlt hj
          go_wp2_with fail
          go_ret
          exact ⟨ret_bool HT.out.symm, hBr.out⟩
end Go.Proofs.Ytgegmefnbkcdkaa
namespace Go.Proofs.Ytgegmefnbkcdkaa
open Go.RowKit

theorem putS_len {L : List Sn} {k : Nat} (hk : k ≤ L.length) (y : Sn) : (putS L k y).length = L.length + 1 := by
  unfold putS
  rw [List.length_append, List.length_cons, List.length_take, List.length_drop]
  omega
theorem putS_end (L : List Sn) (y : Sn) : putS L L.length y = L ++ [y] := by simp [putS]
theorem putS_get {L : List Sn} {k j : Nat} (hk : k ≤ L.length) (hj : j < k) (y : Sn) : (putS L k y)[j]? = L[j]? := by
  unfold putS
  rw [List.getElem?_append_left (by rw [List.length_take]; omega), List.getElem?_take, if_pos hj]
theorem putS_set {L : List Sn} {k : Nat} (hk : k ≤ L.length) (y z : Sn) : (putS L k y).set k z = putS L k z := by
  unfold putS
  have hl : (L.take k).length = k := by rw [List.length_take]; omega
  rw [List.set_append_right _ _ (by omega), hl, Nat.sub_self]
  rfl
theorem putS_move {L : List Sn} {k : Nat} (hk : k + 1 ≤ L.length) : putS L (k + 1) L[k] = putS L k L[k] := by
  have h : k < L.length := by omega
  unfold putS
  rw [List.take_succ_eq_append_getElem h, List.drop_eq_getElem_cons (i := k) h, List.append_assoc]
  rfl
theorem sns_set3 {L : List Sn} {i : Nat} (h : i < L.length) (y : Sn) : (((sns L).set (i * 3) (.int .i64 y.file)).set (i * 3 + 1) (.int .i64 y.ino)).set (i * 3 + 2) (.int .i64 y.size) = sns (L.set i y) := by
  have e1 : L = L.take i ++ [L[i]] ++ L.drop (i + 1) := by rw [List.append_assoc, List.singleton_append, ← List.drop_eq_getElem_cons h, List.take_append_drop]
  have hl : (sns (L.take i)).length = i * 3 := by rw [sns_len, List.length_take, Nat.min_eq_left (by omega)]
  have e2 : L.set i y = L.take i ++ [y] ++ L.drop (i + 1) := by rw [List.set_eq_take_append_cons_drop, if_pos h]; simp
  rw [e2]
  have e3 : sns L = sns (L.take i) ++ (snV L[i] ++ sns (L.drop (i + 1))) := by
    have := congrArg sns e1
    rw [sns_append, sns_append, List.append_assoc] at this
    rw [this]; simp [sns]
  rw [e3, sns_append, sns_append, List.append_assoc, List.set_append_right _ _ (by omega), hl, Nat.sub_self, List.set_append_right _ _ (by omega), hl, show i * 3 + 1 - i * 3 = 1 by omega, List.set_append_right _ _ (by omega), hl, show i * 3 + 2 - i * 3 = 2 by omega]
  simp [snV, sns]
theorem own_put {w : World} {base g cap n i : Nat} {L : List Sn} (h : w.ownsRow base 54 3 (.slice (some ⟨g, 0, none⟩) n cap) n (sns L)) (hi : i < L.length) (y : Sn) :
    (((w.setCell ⟨g, i * 3, none⟩ (.int .i64 y.file)).setCell ⟨g, i * 3 + 1, none⟩ (.int .i64 y.ino)).setCell ⟨g, i * 3 + 2, none⟩ (.int .i64 y.size)).ownsRow base 54 3 (.slice (some ⟨g, 0, none⟩) n cap) n (sns (L.set i y)) := by
  have := own_store (own_store (own_store h rfl (i * 3) (.int .i64 y.file)) rfl (i * 3 + 1) (.int .i64 y.ino)) rfl (i * 3 + 2) (.int .i64 y.size)
  rw [sns_set3 hi] at this
  exact this
theorem set3_grown (w : World) (g o : Nat) (a b c : Value) : w.grownBy (((w.setCell ⟨g, o, none⟩ a).setCell ⟨g, o + 1, none⟩ b).setCell ⟨g, o + 2, none⟩ c) (some g) :=
  grownBy_set (grownBy_set (grownBy_set (World.grownBy.refl w (some g)) o a) (o + 1) b) (o + 2) c
theorem seen_step {fs : FS} {p : ByteArray} {k : Int} {i : Nat} (hi : i < fs.F.length) :
    seenUp fs.p p k (i + 1) = seenUp fs.p p k i ++ (if wantB fs.p p fs.F[i].ino = true then (seeB fs.p k fs.F[i].ino).toList else []) := by
  have hl : (inosP fs.p).length = fs.F.length := by simp [inosP, FS.p]
  have hg : (inosP fs.p)[i]'(by omega) = fs.F[i].ino := by simp [inosP, FS.p, Fi.p]
  have := seenUp_succ (d := fs.p) (p := p) (k := k) (i := i) (by omega)
  rw [hg] at this
  exact this
theorem seenUp_len (d : PD) (p : ByteArray) (k : Int) (i : Nat) : (seenUp d p k i).length ≤ i := by
  unfold seenUp
  refine Nat.le_trans (List.length_filterMap_le _ _) (Nat.le_trans (List.length_filter_le _ _) (List.length_take_le _ _))
theorem step_no {fs : FS} {p : ByteArray} {k : Int} {i : Nat} {L : List Sn} (hi : i < fs.F.length) (h : SrtS L ∧ L.Perm (seenUp fs.p p k i)) (hn : wantB fs.p p fs.F[i].ino = false ∨ seeB fs.p k fs.F[i].ino = none) : SrtS L ∧ L.Perm (seenUp fs.p p k (i + 1)) := by
  rw [seen_step hi]
  rcases hn with hn | hn
  · rw [hn]; simpa using h
  · rw [hn]; simpa using h
theorem step_yes {fs : FS} {p : ByteArray} {k : Int} {i j : Nat} {L : List Sn} {s : Sn} (hi : i < fs.F.length) (h : SrtS L ∧ L.Perm (seenUp fs.p p k i)) (h1 : wantB fs.p p fs.F[i].ino = true) (h2 : seeB fs.p k fs.F[i].ino = some s) (hj : atS L s j) :
    SrtS (putS L j s) ∧ (putS L j s).Perm (seenUp fs.p p k (i + 1)) := by
  refine ⟨putS_srt h.1 hj, ?_⟩
  rw [seen_step hi, h1, h2]
  exact (putS_perm L j s).trans (h.2.append_right _)
/-- The file is there. -/
def ReadYes (t : PF) (w : World) (x : Ending) (w' : World) : Prop := ∃ (DA : Option Addr) (DC : Nat), x = .returned (.tuple #[.agg #[.int .i64 t.ino, .slice DA t.data.length DC, .bool t.cp, .bool t.wh, .int .i64 t.left], .bool true]) ∧ BSl w' (u8B w') (.slice DA t.data.length DC) t.data ∧ Below w.heap.size w w'
theorem read_yes {vN vF vO : Value} {fs : FS} {n : Int} {t : PF} (w : World) (h : FsT w vN vF vO fs) (hi : Inv fs) (ho : fs.O.length ≤ 800) (ht : readP fs.p n = some t) :
    Calls Try.prog 46 #[.agg #[vN, vF, vO], .int .i64 n] w (ReadYes t w) := by
  refine (refRead_any vN vF vO fs n w h hi ho).mono ?_
  rintro e w' ⟨dv, rfl, hd, hb⟩
  rw [ht] at hd ⊢
  simp only [Option.getD_some, Option.isSome_some] at hd ⊢
  obtain ⟨DA, DC, rfl, _, _⟩ := hd.form
  exact ⟨DA, DC, rfl, hd, hb⟩
set_option maxHeartbeats 16000000 in
set_option maxRecDepth 100000 in
theorem refScan_any (vN vF vO : Value) (fs : FS) (p : ByteArray) (k : Int) (w : World) (h : FsT w vN vF vO fs) (hi : Inv fs) (ho : fs.O.length ≤ 800) :
    Calls Try.prog 22 #[.agg #[vN, vF, vO], .string p, .int .i64 k] w (ScanOut fs p k w) := by
  obtain ⟨A1, c1, rfl, _, _⟩ := h.n.form
  obtain ⟨A2, c2, rfl, _, _⟩ := h.f.form
  obtain ⟨A3, c3, rfl, _, _⟩ := h.o.form
  obtain ⟨W, hW⟩ : ∃ W, W = w.alloc (.cells #[.slice A1 fs.N.length c1, .slice A2 fs.F.length c2, .slice A3 fs.O.length c3] 40) := ⟨_, rfl⟩
  have hb : Below w.heap.size w W := hW ▸ (Below.refl _ w).alloc (Nat.le_refl _) _
  have hF : Blk W w.heap.size 40 #[.slice A1 fs.N.length c1, .slice A2 fs.F.length c2, .slice A3 fs.O.length c3] := hW ▸ Blk.new w _ _
  have hlW : w.heap.size < W.heap.size := hF.lt
  have HR := keep h.r
  have HT := keep h
  have HB := keep hb
  have HF := keep hF
  have HW := keep hW
  have HI := keep hi
  have HOL := keep ho
  have HFL : Hid (fs.F.length ≤ 840) := keep (by have := hi.count; omega)
  have HNL := keep hi.b
  clear h hb hF hW hi ho
  go_enter Try.func22, Try.ntmps22
  go_wp2_with fail
  rw [← HW.out]
  clear HW
  go_loopw [7, 8] (fun u7 u8 wr => ∃ (i : Nat) (L : List Sn) (v : Value), i ≤ fs.F.length ∧ u8 = .int .i64 i ∧ u7 = v ∧ Hid (SrtS L ∧ L.Perm (seenUp fs.p p k i)) ∧ Hid (wr.ownsRow W.heap.size 54 3 v L.length (sns L)) ∧ Hid (Below w.heap.size w wr) ∧ Hid (W.heap.size ≤ wr.heap.size) ∧ Hid (Blk wr w.heap.size 40 #[.slice A1 fs.N.length c1, .slice A2 fs.F.length c2, .slice A3 fs.O.length c3])) (fun _ u8 _ => fs.F.length - (intOf u8).toNat)
  case atStart => exact ⟨0, [], _, Nat.zero_le _, rfl, rfl, keep ⟨List.Pairwise.nil, List.Perm.refl _⟩, keep (World.ownsRow_nil _ _ _ _), HB, keep (Nat.le_refl _), HF⟩
  case round =>
    obtain ⟨i, L, v, hle, rfl, rfl, hP, hO, hBr, hZr, hFr⟩ := hrel
    obtain ⟨wo, rfl⟩ : ∃ wo : World, wo = wr := ⟨_, rfl⟩
    obtain ⟨f0, f1, f2⟩ := hFr.out.cell3
    obtain ⟨A, c, rfl, _⟩ := own_sl hO.out
    have hfl := HFL.out
    by_cases hlt : i < fs.F.length
    · obtain ⟨b, o, rfl, hbl, m0, m1, m2, m3, m4⟩ := fi_cells (HR.out.f.below hBr.out (Nat.le_refl _)) hlt
      have hlo : w.heap.size < wo.heap.size := hFr.out.lt
      have hbo : b < wo.heap.size := Nat.lt_trans hbl hlo
      have HGT : Hid (readP fs.p fs.F[i].ino = some (seenP fs.F[i].p)) := keep (by
        unfold readP
        show (getP (fs.F.map Fi.p) fs.F[i].ino).map seenP = _
        rw [get_at HI.out.f hlt]; rfl)
      have HIN : Hid ((seenP fs.F[i].p).ino = fs.F[i].ino) := keep rfl
      have HNX := keep (step_no hlt hP.out)
      have HYX := keep (fun (j : Nat) (s : Sn) => step_yes (j := j) (s := s) hlt hP.out)
      have HLL : Hid (L.length ≤ 840) := keep (by
        have h1 := hP.out.2.length_eq
        have h2 := seenUp_len fs.p p k i
        omega)
      generalize fs.F[i].ino = ino at m0 HGT HIN HNX HYX
      generalize seenP fs.F[i].p = t at HGT HIN
      obtain ⟨ino2, data, cp, wh, left2⟩ := t
      have hin := HIN.out
      simp only at hin
      subst hin
      have hD := read_len HI.out HGT.out
      simp only at hD
      have hdi : (data.length : Int) ≤ 60000 := by omega
      have i1 : (i : Int) < (fs.F.length : Int) := by omega
      have i2 : (i : Int) ≤ 1000000 := by omega
      have hbz : Below wo.heap.size wo (wo.alloc (.cells #[.int .i64 0, .slice none 0 0, .bool false, .bool false, .int .i64 0] 72)).drew := ((Below.refl _ wo).alloc (Nat.le_refl _) _).drew
      have HXZ := keep (show Blk (wo.alloc (.cells #[.int .i64 0, .slice none 0 0, .bool false, .bool false, .int .i64 0] 72)).drew wo.heap.size 72 #[.int .i64 0, .slice none 0 0, .bool false, .bool false, .int .i64 0] from Blk.new wo _ _)
      have HHZ := keep (Held.of_below hbz)
      have HBZ := keep hbz
      have HCL := keep (read_yes wo.drew (HT.out.up hBr.out.drew) HI.out HOL.out HGT.out)
      have HCL2 := keep (read_yes (wo.alloc (.cells #[.int .i64 0, .slice none 0 0, .bool false, .bool false, .int .i64 0] 72)).drew (HT.out.up (hBr.out.trans (hbz.mono hBr.out.size))) HI.out HOL.out HGT.out)
      clear hP m1 m2 m3 m4 hD hbz
      go_wp2_with fail
      go_cut [9] (fun u9 wd => ∃ (xb : Nat) (DA : Option Addr) (DC : Nat), u9 = .pointer (some ⟨xb, 0, none⟩) ∧ Blk wd xb 72 #[.int .i64 ino2, .slice DA data.length DC, .bool cp, .bool wh, .int .i64 left2] ∧ BSl wd (u8B wd) (.slice DA data.length DC) data ∧ Below wo.heap.size wo wd)
      case first =>
        go_region_held3 (Held wo.heap.size wo) (first | (with_reducible exact Held.start _ _) | (with_reducible assumption) | (with_reducible exact HHZ.out) | (with_reducible refine Held.call ?_ ?_ (Nat.le_refl _) <;> assumption) | ((with_reducible refine Held.alloc ?_ _ (Nat.le_refl _)); with_reducible assumption) | ((with_reducible refine Held.realloc ?_ _ ?_) <;> with_reducible assumption) | ((with_reducible refine Held.five ?_ (Nat.le_refl _) _ _ _ _ _); with_reducible assumption))
          (first
            | (go_at_call 46; (with_reducible refine HCL.out.mono ?_); rintro e w5 ⟨DA, DC, rfl, hbs5, hb5⟩; have hz5 : wo.heap.size ≤ w5.heap.size := hb5.size; have hb5' : Below wo.heap.size wo w5 := ⟨hb5.os, hb5.tape, hb5.output, hb5.size, hb5.block⟩; have hh5 : Held wo.heap.size wo w5 := Held.of_below hb5')
            | (go_at_call 46; (with_reducible refine HCL2.out.mono ?_); rintro e w5 ⟨DA, DC, rfl, hbs5, hb5⟩; have hx5 := HXZ.out.below hb5 HXZ.out.lt; obtain ⟨x0, x1, x2, x3, x4⟩ := hx5.cell5; obtain ⟨g0, g1, g2, g3, g4⟩ := hx5.froz5; have hb5' : Below wo.heap.size wo w5 := HBZ.out.trans (hb5.mono HBZ.out.size); have hh5 : Held wo.heap.size wo w5 := Held.of_below hb5')
            | fail)
        · have hbx : Below wo.heap.size wo (w5.alloc (.cells #[.int .i64 ino2, .slice DA data.length DC, .bool cp, .bool wh, .int .i64 left2] 72)) := hb5'.alloc hz5 _
          have hbs6 : BSl (w5.alloc (.cells #[.int .i64 ino2, .slice DA data.length DC, .bool cp, .bool wh, .int .i64 left2] 72)) (u8B (w5.alloc (.cells #[.int .i64 ino2, .slice DA data.length DC, .bool cp, .bool wh, .int .i64 left2] 72))) (.slice DA data.length DC) data := Sl.u8Grown hbs5 (World.grownBy_alloc w5 _ none) (by simp)
          go_wp2_with fail
          go_meet
          case rel => exact ⟨_, DA, DC, rfl, Blk.new _ _ _, hbs6, hbx⟩
        · have hb' := hx5.five (.int .i64 ino2) (.slice DA data.length DC) (.bool cp) (.bool wh) (.int .i64 left2)
          go_wp2_with fail
          go_meet
          case rel => exact ⟨_, DA, DC, rfl, hb', Sl.u8Grown hbs5 (grown_five _ _ _ _ _ _ _) (noU8 hx5 (by decide)), below_five hb5' (Nat.le_refl _) _ _ _ _ _⟩
      obtain ⟨xb, DA, DC, hu9, hX6, hbs, hb06⟩ := hcut
      subst hu9
      have HBS := keep hbs
      have HX6 := keep hX6
      have HB6 := keep (hBr.out.trans (hb06.mono hBr.out.size))
      have HF6 := keep (hFr.out.below hb06 hFr.out.lt)
      have HO6 := keep (own_bel hO.out hb06)
      have HZ6 := keep (Nat.le_trans hZr.out hb06.size)
      have HGL : Hid (∀ g, (Value.slice A L.length c).ownBlock = some g → g < wo.heap.size) := keep (fun g e => (hO.out.lt g e).2)
      have HZO := keep hb06.size
      clear hX6 hbs hb06 f0 f1 f2 m0 HCL HCL2 HXZ HHZ HBZ hBr hFr hO hZr
      obtain ⟨W6, rfl⟩ : ∃ W6 : World, W6 = wc := ⟨_, rfl⟩
      obtain ⟨x0, x1, x2, x3, x4⟩ := HX6.out.cell5
      cases hok : numOk data k with
      | false =>
        have HNO := keep (refNumber_no _ data k _ _ HBS.out hok)
        have HP7 := keep (HNX.out (.inr (see_no HGT.out hok)))
        clear hok HYX
        go_wp2_with fail
        refine HNO.out.mono ?_
        rintro e w7 ⟨rfl, rfl⟩
        go_wp2_with fail
        go_roundw
        case rel => exact ⟨i + 1, L, _, by omega, by go_num, rfl, HP7, HO6, HB6, HZ6, HF6⟩
        case measure => simp [intOf]; omega
      | true =>
        have hq := refNumber_ok _ data k _ _ HBS.out hok
        have hnum : numOf data k = nfold (data.take k.toNat) := by unfold numOf; rw [if_pos hok]
        generalize nfold (data.take k.toNat) = q at hq hnum
        have HQ := keep hq
        have hsee := see_some HGT.out hok
        simp only [hnum] at hsee
        have HSEE := keep hsee
        clear hok hq hnum hsee
        go_wp2_with fail
        refine HQ.out.mono ?_
        rintro e w7 ⟨rfl, rfl⟩
        obtain ⟨f0, f1, f2⟩ := HF6.out.cell3
        have HFO := keep (followed_any _ _ _ fs p ino2 _ (HT.out.up HB6.out) (by have := HNL.out; have := HOL.out; omega))
        go_wp2_with fail
        refine HFO.out.mono ?_
        rintro e w8 ⟨rfl, hb8⟩
        cases hw : wantB fs.p p ino2 with
        | false =>
          have HP7 := keep (HNX.out (.inl hw))
          have HO8 := keep (own_bel HO6.out hb8)
          have HB8 := keep (HB6.out.trans (hb8.mono HB6.out.size))
          have HF8 := keep (HF6.out.below hb8 HF6.out.lt)
          have HZ8 := keep (Nat.le_trans HZ6.out hb8.size)
          clear hw HYX hb8 x0 x1 x2 x3 x4 f0 f1 f2
          go_wp2_with fail
          go_roundw
          case rel => exact ⟨i + 1, L, _, by omega, by go_num, rfl, HP7, HO8, HB8, HZ8, HF8⟩
          case measure => simp [intOf]; omega
        | true =>
          have HYY := keep (fun (j : Nat) => HYX.out j _ hw HSEE.out)
          have HO8 := keep (own_bel HO6.out hb8)
          have HB8 := keep (HB6.out.trans (hb8.mono HB6.out.size))
          have HF8 := keep (HF6.out.below hb8 HF6.out.lt)
          have HZ8 := keep (Nat.le_trans HZ6.out hb8.size)
          have HX8 := keep (HX6.out.below hb8 HX6.out.lt)
          have hz58 : wo.heap.size ≤ w8.heap.size := Nat.le_trans HZO.out hb8.size
          clear hw HYX HNX hb8 x0 x1 x2 x3 x4 f0 f1 f2 HX6 HF6 HZ6 HB6 HO6 HBS HFO HQ
          obtain ⟨x0, x1, x2, x3, x4⟩ := HX8.out.cell5
          have hal : Below w8.heap.size w8 (w8.alloc (.cells #[.int .i64 q, .int .i64 ino2, .int .i64 data.length] 54)) := (Below.refl _ w8).alloc (Nat.le_refl _) _
          have HXS := keep (Blk.new w8 54 #[.int .i64 q, .int .i64 ino2, .int .i64 data.length])
          have HOa := keep (own_bel HO8.out hal)
          have HBa := keep (HB8.out.trans (hal.mono HB8.out.size))
          have HFa := keep (HF8.out.below hal HF8.out.lt)
          have HZa := keep (Nat.le_trans HZ8.out hal.size)
          have hga : ∀ g, (Value.slice A L.length c).ownBlock = some g → g ≠ w8.heap.size := fun g e => by have := HGL.out g e; omega
          have HGA := keep hga
          have hgs : W.heap.size ≤ w8.heap.size := HZ8.out
          clear hal hga HX8 HO8 HB8 HF8 HZ8 HGL HZO
          go_upto_region 10 with fail
          obtain ⟨wa, hwa⟩ : ∃ wa : World, wa = w8.alloc (.cells #[.int .i64 q, .int .i64 ino2, .int .i64 data.length] 54) := ⟨_, rfl⟩
          rw [← hwa] at HXS HOa HBa HFa HZa ⊢
          obtain ⟨gs, hgsd⟩ : ∃ gs, gs = w8.heap.size := ⟨_, rfl⟩
          have hsa : wa.heap.size = gs + 1 := by rw [hwa, hgsd]; simp
          rw [← hgsd] at HXS HGA hgs ⊢
          have HSA := keep hsa
          clear hwa hgsd hsa hz58 x0 x1 x2 x3 x4
          obtain ⟨s0, s1, s2⟩ := HXS.out.cell3
          go_wp2_with (refine wpList_push elSn rfl rfl _ _ _ rfl rfl rfl W.heap.size _ (.agg #[.int .i64 q, .int .i64 ino2, .int .i64 data.length]) L.length _ rfl (fun _ => rfl) (fun _ => rfl) HOa.out rfl (by intro c hc; simp [Value.cells] at hc; rcases hc with rfl | rfl | rfl <;> rfl) (by decide) (by have := HLL.out; unfold maxLen; omega) (by have := HLL.out; omega) HZa.out ?_; intro g cap w9 hown9 hb9 hg9 hgg hgl)
          have hgne : g ≠ gs := by
            rcases hgg with e | e
            · exact HGA.out g e
            · have := HSA.out; omega
          obtain ⟨s, hs⟩ : ∃ s : Sn, s = ⟨q, ino2, data.length⟩ := ⟨_, rfl⟩
          have hO9 : w9.ownsRow W.heap.size 54 3 (.slice (some ⟨g, 0, none⟩) (L.length + 1) cap) (L.length + 1) (sns (putS L L.length s)) := by
            rw [putS_end, sns_append, hs]
            exact hown9
          have HO9 := keep hO9
          have HX9 := keep (HXS.out.grown hg9 (fun e => HGA.out gs e.symm rfl))
          have HB9 := keep (HBa.out.trans (hb9.mono (Nat.le_of_lt hlW)))
          have HF9 := keep (HFa.out.below hb9 hlW)
          have HZ9 := keep (Nat.le_trans HZa.out hg9.size)
          have HSS := keep hs
          have HYS := keep (fun j => hs ▸ HYY.out j)
          clear hown9 hb9 hg9 hgg hgl hO9 hs s0 s1 s2 HXS HOa HBa HFa HZa HGA HSA HYY HSEE HGT HIN
          have hL1 : (L.length : Int) ≤ 840 := by have := HLL.out; omega
          go_wp2_with fail
          go_loopw [14] (fun u14 wr => ∃ (j : Nat) (y : Sn), j ≤ L.length ∧ u14 = .int .i64 j ∧ Hid (wr.ownsRow W.heap.size 54 3 (.slice (some ⟨g, 0, none⟩) (L.length + 1) cap) (L.length + 1) (sns (putS L j y))) ∧ Hid (∀ a (h : a < L.length), j ≤ a → lessS s L[a] = true) ∧ Hid (Below w.heap.size w wr) ∧ Hid (Blk wr gs 54 #[.int .i64 q, .int .i64 ino2, .int .i64 data.length]) ∧ Hid (Blk wr w.heap.size 40 #[.slice A1 fs.N.length c1, .slice (some ⟨b, o, none⟩) fs.F.length c2, .slice A3 fs.O.length c3]) ∧ Hid (W.heap.size ≤ wr.heap.size)) (fun u14 _ => (intOf u14).toNat)
          case atStart => exact ⟨L.length, s, Nat.le_refl _, rfl, HO9, keep (fun a h1 h2 => absurd h1 (by omega)), HB9, HX9, HF9, HZ9⟩
          case round =>
            clear HO9 HB9 HX9 HF9 HZ9
            obtain ⟨j, y, hj, rfl, hO, hPre, hBx, hXx, hFx, hZx⟩ := hrel
            obtain ⟨wx, rfl⟩ : ∃ wx : World, wx = wr := ⟨_, rfl⟩
            obtain ⟨s0, s1, s2⟩ := hXx.out.cell3
            have hgb := (hO.out.lt g rfl).1
            have hgl := (hO.out.lt g rfl).2
            have hfin : ∀ (jj : Nat), atS L s jj → Hid (SrtS (putS L jj s) ∧ (putS L jj s).Perm (seenUp fs.p p k (i + 1))) := fun jj h => keep (HYS.out jj h)
            have HFIN := keep hfin
            have hlen := putS_len hj y
            have hjin : j < (putS L j y).length := by omega
            have hsto : ∀ (u : World), u.ownsRow W.heap.size 54 3 (.slice (some ⟨g, 0, none⟩) (L.length + 1) cap) (L.length + 1) (sns (putS L j y)) → (((u.setCell ⟨g, j * 3, none⟩ (.int .i64 q)).setCell ⟨g, j * 3 + 1, none⟩ (.int .i64 ino2)).setCell ⟨g, j * 3 + 2, none⟩ (.int .i64 data.length)).ownsRow W.heap.size 54 3 (.slice (some ⟨g, 0, none⟩) (L.length + 1) cap) (L.length + 1) (sns (putS L j s)) := fun u hu => by
              have := own_put hu hjin s
              rw [putS_set hj, HSS.out] at this
              rw [HSS.out]
              exact this
            have HSTO := keep hsto
            have hgw : some w.heap.size ≠ some g := fun e => by injection e; omega
            have hcells : ∀ a, (ha : a < (putS L j y).length) → wx.cell? ⟨g, a * 3, none⟩ = some (.int .i64 (putS L j y)[a].file) ∧ wx.cell? ⟨g, a * 3 + 1, none⟩ = some (.int .i64 (putS L j y)[a].ino) ∧ wx.cell? ⟨g, a * 3 + 2, none⟩ = some (.int .i64 (putS L j y)[a].size) := by
              intro a ha
              have q0 := own_cell hO.out rfl (a * 3) (by omega)
              have q1 := own_cell hO.out rfl (a * 3 + 1) (by omega)
              have q2 := own_cell hO.out rfl (a * 3 + 2) (by omega)
              have r0 := sn_at (putS L j y) a ha 0 (by omega)
              have r1 := sn_at (putS L j y) a ha 1 (by omega)
              have r2 := sn_at (putS L j y) a ha 2 (by omega)
              exact ⟨q0.trans (r0.trans rfl), q1.trans (r1.trans rfl), q2.trans (r2.trans rfl)⟩
            obtain ⟨k0, k1, k2⟩ := hcells j hjin
            have hfz : ∀ (o : Nat), wx.frozen? ⟨g, o, none⟩ = false := fun o => own_frozen hO.out rfl o
            have z0 := hfz (j * 3)
            have z1 := hfz (j * 3 + 1)
            have z2 := hfz (j * 3 + 2)
            have hk2 : (j : Int) ≤ (L.length : Int) := by omega
            generalize (putS L j y)[j] = yy at k0 k1 k2
            by_cases hj0 : j = 0
            · subst hj0
              have HFN := keep (HFIN.out 0 ⟨Nat.zero_le _, fun a h _ => hPre.out a h (Nat.zero_le _), fun h => absurd h (by omega)⟩).out
              clear hcells hjin hlen hfin hsto hfz HFIN HSS HYS
              go_wp2_with fail
              go_still_tail 9, (by kernel_rfl)
              change wpList _ _ _ _ _ wx.drew
              go_wp2_with fail
              have hgr := set3_grown wx.drew g 0 (.int .i64 q) (.int .i64 ino2) (.int .i64 data.length)
              have hl3 : (putS L 0 s).length = L.length + 1 := putS_len (Nat.zero_le _) s
              go_roundw
              case rel => exact ⟨i + 1, putS L 0 s, _, by omega, by go_num, rfl, HFN, keep (by rw [hl3]; exact HSTO.out wx hO.out), keep (below_grown (hBx.out.drew) hgr hBx.out.size (by omega)), keep (Nat.le_trans hZx.out hgr.size), keep ((show Blk wx.drew w.heap.size 40 _ from hFx.out).grown hgr hgw)⟩
              case measure => simp [intOf]; omega
            · obtain ⟨m, rfl⟩ : ∃ m, j = m + 1 := ⟨j - 1, by omega⟩
              have hml : m < L.length := by omega
              have hmin : m < (putS L (m + 1) y).length := by omega
              obtain ⟨j0, j1, j2⟩ := hcells m hmin
              have hget : (putS L (m + 1) y)[m] = L[m] := by
                have h1 := putS_get hj (show m < m + 1 by omega) y
                rw [List.getElem?_eq_getElem hmin, List.getElem?_eq_getElem hml] at h1
                exact Option.some.inj h1
              rw [hget] at j0 j1 j2
              have hmv := putS_move (L := L) (k := m) (by omega)
              have hst2 : ∀ (u : World), u.ownsRow W.heap.size 54 3 (.slice (some ⟨g, 0, none⟩) (L.length + 1) cap) (L.length + 1) (sns (putS L (m + 1) y)) → (((u.setCell ⟨g, (m + 1) * 3, none⟩ (.int .i64 L[m].file)).setCell ⟨g, (m + 1) * 3 + 1, none⟩ (.int .i64 L[m].ino)).setCell ⟨g, (m + 1) * 3 + 2, none⟩ (.int .i64 L[m].size)).ownsRow W.heap.size 54 3 (.slice (some ⟨g, 0, none⟩) (L.length + 1) cap) (L.length + 1) (sns (putS L m L[m])) := fun u hu => by
                have := own_put hu hjin L[m]
                rw [putS_set hj, hmv] at this
                exact this
              have hpre : lessS s L[m] = true → ∀ a (h : a < L.length), m ≤ a → lessS s L[a] = true := fun hc a h1 h2 => by
                rcases Nat.lt_or_ge m a with h3 | h3
                · exact hPre.out a h1 h3
                · obtain rfl : a = m := by omega
                  exact hc
              have hstp : lessS s L[m] = false → atS L s (m + 1) := fun hc => ⟨hj, hPre.out, fun _ _ => hc⟩
              generalize L[m] = u at j0 j1 j2 hst2 hpre hstp
              obtain ⟨uf, ui, uz⟩ := u
              simp only at j0 j1 j2
              have hcall : Calls Try.prog 48 #[.agg #[.int .i64 q, .int .i64 ino2, .int .i64 data.length], .agg #[.int .i64 uf, .int .i64 ui, .int .i64 uz]] wx.drew fun e w' => e = .returned (.bool (lessS s ⟨uf, ui, uz⟩)) ∧ Below wx.drew.heap.size wx.drew w' := by
                rw [HSS.out]
                exact lessS_any ⟨q, ino2, data.length⟩ ⟨uf, ui, uz⟩ wx.drew
              have HC := keep hcall
              have HST2 := keep hst2
              have HPRE := keep hpre
              have HSTP := keep hstp
              clear hcall hst2 hpre hstp hmv hget hcells hfz hjin hmin hlen hfin hsto HSS HYS
              have p1 : (0 : Int) < (m : Int) + 1 := by omega
              have p2 : (m : Int) < (L.length : Int) + 1 := by omega
              have p3 : (m : Int) + 1 < (L.length : Int) + 1 := by omega
              have p4 : (m : Int) ≤ 1000000 := by omega
              have p5 : IntKind.i64.wrap ((m : Int) + 1 - 1) = (m : Int) := (IntWalk.i64_in _ (by omega)).trans (by omega)
              have p6 : IntKind.i64.wrap (m : Int) = (m : Int) := IntWalk.i64_in _ (by omega)
              go_wp2_with fail
              go_still_tail 9, (by kernel_rfl)
              change wpList _ _ _ _ _ wx.drew
              go_wp2_with fail
              refine HC.out.mono ?_
              rintro e w3 ⟨rfl, hb3⟩
              clear p5 p6
              have hbn : Below wx.heap.size wx w3 := (Below.refl _ wx).drew.trans hb3
              have hO3 : w3.ownsRow W.heap.size 54 3 (.slice (some ⟨g, 0, none⟩) (L.length + 1) cap) (L.length + 1) (sns (putS L (m + 1) y)) := own_bel hO.out hbn
              have kk0 : w3.cell? ⟨g, (m + 1) * 3, none⟩ = some (.int .i64 yy.file) := (hbn.cell (p := ⟨g, (m + 1) * 3, none⟩) hgl).trans k0
              have kk1 : w3.cell? ⟨g, (m + 1) * 3 + 1, none⟩ = some (.int .i64 yy.ino) := (hbn.cell (p := ⟨g, (m + 1) * 3 + 1, none⟩) hgl).trans k1
              have kk2 : w3.cell? ⟨g, (m + 1) * 3 + 2, none⟩ = some (.int .i64 yy.size) := (hbn.cell (p := ⟨g, (m + 1) * 3 + 2, none⟩) hgl).trans k2
              have jj0 : w3.cell? ⟨g, m * 3, none⟩ = some (.int .i64 uf) := (hbn.cell (p := ⟨g, m * 3, none⟩) hgl).trans j0
              have jj1 : w3.cell? ⟨g, m * 3 + 1, none⟩ = some (.int .i64 ui) := (hbn.cell (p := ⟨g, m * 3 + 1, none⟩) hgl).trans j1
              have jj2 : w3.cell? ⟨g, m * 3 + 2, none⟩ = some (.int .i64 uz) := (hbn.cell (p := ⟨g, m * 3 + 2, none⟩) hgl).trans j2
              have gg0 : w3.frozen? ⟨g, (m + 1) * 3, none⟩ = false := own_frozen hO3 rfl _
              have gg1 : w3.frozen? ⟨g, (m + 1) * 3 + 1, none⟩ = false := own_frozen hO3 rfl _
              have gg2 : w3.frozen? ⟨g, (m + 1) * 3 + 2, none⟩ = false := own_frozen hO3 rfl _
              have hX3 := hXx.out.below hbn hXx.out.lt
              obtain ⟨t0, t1, t2⟩ := hX3.cell3
              have HX3 := keep hX3
              have HF3 := keep (hFx.out.below hbn hFx.out.lt)
              have HB3 := keep (hBx.out.trans (hbn.mono hBx.out.size))
              have HZ3 := keep (Nat.le_trans hZx.out hbn.size)
              have HO3 := keep hO3
              clear hO3 hbn hb3 HC k0 k1 k2 j0 j1 j2 s0 s1 s2 z0 z1 z2 hX3
              have hgs2 : some gs ≠ some g := fun e => by injection e with e; exact hgne e.symm
              cases hc : lessS s ⟨uf, ui, uz⟩ with
              | true =>
                have HP2 := keep (HPRE.out hc)
                clear hc HPRE HSTP HFIN
                go_wp2_with fail
                have hgr := set3_grown w3 g ((m + 1) * 3) (.int .i64 uf) (.int .i64 ui) (.int .i64 uz)
                go_roundw
                case rel => exact ⟨m, _, by omega, by go_num, keep (HST2.out w3 HO3.out), HP2, keep (below_grown HB3.out hgr HB3.out.size (by omega)), keep (HX3.out.grown hgr hgs2), keep (HF3.out.grown hgr hgw), keep (Nat.le_trans HZ3.out hgr.size)⟩
                case measure => simp [intOf]
              | false =>
                have HFN := keep (HFIN.out (m + 1) (HSTP.out hc)).out
                clear hc HPRE HSTP HFIN
                go_wp2_with fail
                have hgr := set3_grown w3 g ((m + 1) * 3) (.int .i64 q) (.int .i64 ino2) (.int .i64 data.length)
                have hl3 : (putS L (m + 1) s).length = L.length + 1 := putS_len hj s
                go_roundw
                case rel => exact ⟨i + 1, putS L (m + 1) s, _, by omega, by go_num, rfl, HFN, keep (by rw [hl3]; exact HSTO.out w3 HO3.out), keep (below_grown HB3.out hgr HB3.out.size (by omega)), keep (Nat.le_trans HZ3.out hgr.size), keep (HF3.out.grown hgr hgw)⟩
                case measure => simp [intOf]; omega
    · go_wp2_with fail
      go_ret
      have hpp := hP.out
      obtain rfl : i = fs.F.length := by omega
      have hall := seenUp_all fs.p p k
      have hlen : fs.p.F.length = fs.F.length := by simp [FS.p]
      rw [hlen] at hall
      have hsc : L = scanP fs.p p k := by rw [← hall]; exact sortS_of hpp.1 hpp.2
      refine ⟨_, rfl, ?_, hBr.out⟩
      rw [← hsc]
      exact own_base hO.out (by omega)
end Go.Proofs.Ytgegmefnbkcdkaa
namespace Go.Proofs.Ytgegmefnbkcdkaa
open Go.RowKit

/-- The index of the first element that a predicate takes, or -1. -/
def Fst_Sn (p : Sn → Bool) (L : List Sn) (r : Int) : Prop := (r = -1 ∧ ∀ t ∈ L, p t = false) ∨ ∃ i : Nat, r = (i : Int) ∧ ∃ h : i < L.length, p L[i] = true ∧ ∀ j, (hj : j < i) → p (L[j]'(by omega)) = false
def IxRes_Sn (p : Sn → Bool) (L : List Sn) (w : World) (x : Ending) (w' : World) : Prop := ∃ r : Int, x = .returned (.int .i64 r) ∧ Fst_Sn p L r ∧ Below w.heap.size w w'
set_option maxHeartbeats 4000000 in
set_option maxRecDepth 100000 in
theorem index_Sn (g : FuncId) (v : Value) (cb : Array Value) (p : Sn → Bool) (L : List Sn) (w : World) (eg : ∀ args w, (callFunc g args).run Try.prog w = .ok (.enter g args) w) (hs : Sl w (lt w.heap.size) 3 v L.length (sns L))
    (hc : ∀ t ∈ L, ∀ W, Below w.heap.size w W → Calls Try.prog g (#[.agg (snV t).toArray] ++ cb) W fun e W' => e = .returned (.bool (p t)) ∧ Below W.heap.size W W') (hm : L.length ≤ 1000000) :
    Calls Try.prog 49 #[v, .func (.func g) #[] cb] w (IxRes_Sn p L w) := by
  obtain ⟨A, c, rfl, _, hs⟩ := hs.form
  have HC := keep hc
  have HS := keep hs
  clear hc hs
  go_enter Try.func49, Try.ntmps49
  go_wp2_with fail
  go_loopw [5, 8] (fun _ i wr => ∃ k : Nat, k ≤ L.length ∧ i = .int .i64 k ∧ Hid (∀ j, (hj : j < k) → (h : j < L.length) → p L[j] = false) ∧ Hid (Below w.heap.size w wr)) (fun _ i _ => L.length - (intOf i).toNat)
  case atStart => exact ⟨0, Nat.zero_le _, rfl, keep (fun j hj _ => absurd hj (by omega)), keep (Below.refl _ _)⟩
  case round =>
    obtain ⟨k, hk, rfl, hP, hB⟩ := hrel
    obtain ⟨wo, rfl⟩ : ∃ wo : World, wo = wr := ⟨_, rfl⟩
    by_cases hlt : k < L.length
    · obtain ⟨b1, o1, rfl, _, c0, c1, c2⟩ := sn_cells (HS.out.below hB.out (Nat.le_refl _)) hlt
      have hcl := HC.out _ (List.getElem_mem hlt) wo hB.out
      obtain ⟨t, ht⟩ : ∃ t, L[k] = t := ⟨_, rfl⟩
      rw [ht] at hcl c0 c1 c2
      have HT := keep ht
      have HCL := keep hcl
      clear hcl ht
      have i1 : (k : Int) < (L.length : Int) := by omega
      have i2 : (k : Int) ≤ 1000000 := by omega
      go_wp2_with fail
      refine (HCL.out).mono ?_
      rintro e w1 ⟨rfl, hb1⟩
      have hBn := hB.out.trans (hb1.mono hB.out.size)
      cases hp : p t with
      | true =>
        have HP := keep hp
        clear hp
        go_wp2_with fail
        go_ret
        exact ⟨k, rfl, .inr ⟨k, rfl, hlt, by rw [HT.out]; exact HP.out, fun j hj => hP.out j hj (by omega)⟩, hBn⟩
      | false =>
        have HP := keep hp
        clear hp
        go_wp2_with fail
        go_roundw
        case rel =>
          refine ⟨k + 1, by omega, by go_num, keep (fun j hj h => ?_), keep hBn⟩
          by_cases e : j = k
          · subst e; rw [HT.out]; exact HP.out
          · exact hP.out j (by omega) h
        case measure => simp [intOf]; omega
    · go_wp2_with fail
      go_ret
      exact ⟨-1, rfl, .inl ⟨rfl, fun t ht => by obtain ⟨j, hj, rfl⟩ := List.getElem_of_mem ht; exact hP.out j (by omega) hj⟩, hB.out⟩
end Go.Proofs.Ytgegmefnbkcdkaa
namespace Go.Proofs.Ytgegmefnbkcdkaa
open Go.RowKit

def LongOut (l : List Sn) (file : Int) (w : World) (x : Ending) (w' : World) : Prop := ∃ s ok, longP l file = (if ok = true then some s else none) ∧ (ok = false → s = ⟨0, 0, 0⟩) ∧ x = .returned (.tuple #[.agg #[.int .i64 s.file, .int .i64 s.ino, .int .i64 s.size], .bool ok]) ∧ Below w.heap.size w w'
theorem long_at {l : List Sn} {file : Int} {i : Nat} (hi : i < l.length) (h1 : l[i].file = file) (h2 : ∀ j, (hj : j < i) → (l[j]'(by omega)).file ≠ file) : longP l file = some l[i] := by
  unfold longP
  rw [List.find?_eq_some_iff_append]
  refine ⟨by simp [h1], l.take i, l.drop (i + 1), by rw [← List.drop_eq_getElem_cons hi, List.take_append_drop], fun a ha => ?_⟩
  obtain ⟨j, hj, rfl⟩ := List.getElem_of_mem ha
  rw [List.length_take] at hj
  rw [List.getElem_take]
  simp [h2 j (by omega)]
theorem long_none {l : List Sn} {file : Int} (h : ∀ s ∈ l, s.file ≠ file) : longP l file = none := by
  unfold longP
  rw [List.find?_eq_none]
  intro s hs
  simp [h s hs]
theorem long_pred (file : Int) (s : Sn) (B : Nat) (w : World) (hB : Blk w B 3 #[.int .i64 file]) :
    Calls Try.prog 50 #[.agg (snV s).toArray, .pointer (some ⟨B, 0, none⟩)] w fun e w' => e = .returned (.bool (decide (s.file = file))) ∧ Below w.heap.size w w' := by
  obtain ⟨f, i, z⟩ := s
  simp only [snV]
  have hb : Below w.heap.size w (w.alloc (.cells #[.int .i64 f, .int .i64 i, .int .i64 z] 54)) := (Below.refl _ w).alloc (Nat.le_refl _) _
  have c0 : (w.alloc (.cells #[.int .i64 f, .int .i64 i, .int .i64 z] 54)).cell? ⟨B, 0, none⟩ = some (.int .i64 file) := ((hB.below hb hB.lt).cell 0).trans rfl
  have HB := keep hb
  clear hb
  go_enter Try.func50, Try.ntmps50
  go_wp2_with fail
  go_ret
  refine ⟨ret_bool ?_, HB.out⟩
  rw [Bool.eq_iff_iff]
  simp
set_option maxHeartbeats 4000000 in
set_option maxRecDepth 100000 in
theorem longest_any (v : Value) (l : List Sn) (file : Int) (w : World) (h : Sl w (lt w.heap.size) 3 v l.length (sns l)) (hm : l.length ≤ 1000000) :
    Calls Try.prog 23 #[v, .int .i64 file] w (LongOut l file w) := by
  obtain ⟨A, c, rfl, _, h⟩ := h.form
  obtain ⟨W, hW⟩ : ∃ W, W = (w.alloc (.cells #[.int .i64 file] 3)).alloc (.cells #[.int .i64 0, .int .i64 0, .int .i64 0] 54) := ⟨_, rfl⟩
  have hb : Below w.heap.size w W := hW ▸ ((Below.refl _ w).alloc (Nat.le_refl _) _).alloc (by simp) _
  have hF : Blk W w.heap.size 3 #[.int .i64 file] := hW ▸ (Blk.new w _ _).alloc _
  have hZ : Blk W (w.heap.size + 1) 54 #[.int .i64 0, .int .i64 0, .int .i64 0] := hW ▸ Blk.new_at (by simp)
  have eg : ∀ args w, (callFunc 50 args).run Try.prog w = .ok (.enter 50 args) w := enters_of Try.func50 (by kernel_rfl) rfl
  have HQ := keep (index_Sn 50 (.slice A l.length c) #[.pointer (some ⟨w.heap.size, 0, none⟩)] (fun s => decide (s.file = file)) l W eg ((h.below hb (Nat.le_refl _)).more hb.size) (fun s _ W' hW' => long_pred file s w.heap.size W' (hF.below hW' hF.lt)) hm)
  have HS := keep h
  have HB := keep hb
  have HZ := keep hZ
  have HW := keep hW
  have hzl := hZ.lt
  clear h hb hF hZ hW eg
  go_enter Try.func23, Try.ntmps23
  go_wp2_with fail
  rw [← HW.out]
  clear HW
  refine HQ.out.mono ?_
  rintro e w3 ⟨r, rfl, hf, hb3⟩
  have HB3 := keep (bchain HB.out hb3)
  have hZ3 := HZ.out.below hb3 HZ.out.lt
  obtain ⟨z0, z1, z2⟩ := hZ3.cell3
  obtain ⟨y0, y1, y2⟩ := hZ3.froz3
  have HZ3 := keep hZ3
  clear hZ3 HQ
  rcases hf with ⟨rfl, hno⟩ | ⟨i, rfl, hi, h1, h2⟩
  · have HN := keep (long_none (file := file) (fun s hs => by simpa using hno s hs))
    clear hno hb3
    go_wp2_with fail
    refine bodyPost_ret (results_cell_row_tmp rfl _ _ (w.heap.size + 1) _ _ _ _ rfl (HZ3.out.three _ _ _) Try.underlying54 rfl (by kernel_rfl)) rfl ?_
    exact ⟨⟨0, 0, 0⟩, false, by rw [HN.out]; rfl, fun _ => rfl, rfl, below_three HB3.out (by omega) _ _ _⟩
  · have HN := keep (long_at (file := file) hi (by simpa using h1) (fun j hj => by simpa using h2 j hj))
    obtain ⟨b, o, rfl, _, c0, c1, c2⟩ := sn_cells ((HS.out.below (bchain HB.out hb3) (Nat.le_refl _))) hi
    generalize l[i] = s at c0 c1 c2 HN
    obtain ⟨f, n, z⟩ := s
    simp only at c0 c1 c2
    have i1 : (i : Int) < (l.length : Int) := by omega
    have i2 : (i : Int) ≤ 1000000 := by omega
    clear h1 h2 hb3
    go_wp2_with fail
    refine bodyPost_ret (results_cell_row_tmp rfl _ _ (w.heap.size + 1) _ _ _ _ rfl (HZ3.out.three _ _ _) Try.underlying54 rfl (by kernel_rfl)) rfl ?_
    exact ⟨⟨f, n, z⟩, true, by rw [HN.out]; rfl, (by intro e; cases e), rfl, below_three HB3.out (by omega) _ _ _⟩
set_option maxHeartbeats 4000000 in
set_option maxRecDepth 100000 in
theorem refLongest_any (v : Value) (l : List Sn) (file : Int) (w : World) (h : Sl w (lt w.heap.size) 3 v l.length (sns l)) (hm : l.length ≤ 1000000) :
    Calls Try.prog 24 #[v, .int .i64 file] w (LongOut l file w) := by
  obtain ⟨A, c, rfl, _, h⟩ := h.form
  obtain ⟨W, hW⟩ : ∃ W, W = w.alloc (.cells #[.int .i64 0, .int .i64 0, .int .i64 0] 54) := ⟨_, rfl⟩
  have hb : Below w.heap.size w W := hW ▸ (Below.refl _ w).alloc (Nat.le_refl _) _
  have hZ : Blk W w.heap.size 54 #[.int .i64 0, .int .i64 0, .int .i64 0] := hW ▸ Blk.new w _ _
  have HS := keep (h.below hb (Nat.le_refl _))
  have HB := keep hb
  have HZ := keep hZ
  have HW := keep hW
  obtain ⟨z0, z1, z2⟩ := hZ.cell3
  obtain ⟨y0, y1, y2⟩ := hZ.froz3
  clear h hb hZ hW
  go_enter Try.func24, Try.ntmps24
  go_wp2_with fail
  rw [← HW.out]
  clear HW
  go_loopw [6] (fun u wr => ∃ i : Nat, u = .int .i64 i ∧ i ≤ l.length ∧ wr = W ∧ Hid (∀ j, (hj : j < l.length) → j < i → l[j].file ≠ file)) (fun u _ => l.length - (intOf u).toNat)
  case atStart => exact ⟨0, rfl, Nat.zero_le _, rfl, keep (fun j _ h => absurd h (by omega))⟩
  case round =>
    obtain ⟨i, rfl, hi, rfl, hN⟩ := hrel
    by_cases hlt : i < l.length
    · obtain ⟨b, o, rfl, _, c0, c1, c2⟩ := sn_cells HS.out hlt
      have hat := fun hf => long_at (file := file) hlt hf (fun j hj => hN.out j (by omega) hj)
      have hnx : l[i].file ≠ file → ∀ j, (hj : j < l.length) → j < i + 1 → l[j].file ≠ file := fun hf j hj h => by
        by_cases e : j = i
        · subst e; exact hf
        · exact hN.out j hj (by omega)
      generalize l[i] = s at c0 c1 c2 hat hnx
      obtain ⟨f, n, z⟩ := s
      simp only at c0 c1 c2 hat hnx
      have HAT := keep hat
      have HNX := keep hnx
      have i1 : (i : Int) < (l.length : Int) := by omega
      have i2 : (i : Int) ≤ 1000000 := by omega
      clear hat hnx
      by_cases hf : f = file
      · have hd : (f == file) = true := by simpa using hf
        have HL := keep (HAT.out hf)
        clear hf
        go_wp2_with fail
        refine bodyPost_ret (results_cell_row_tmp rfl _ _ w.heap.size _ _ _ _ rfl (HZ.out.three _ _ _) Try.underlying54 rfl (by kernel_rfl)) rfl ?_
        exact ⟨⟨f, n, z⟩, true, by rw [HL.out]; rfl, (by intro e; cases e), rfl, below_three HB.out (Nat.le_refl _) _ _ _⟩
      · have hd : (f == file) = false := by simpa using hf
        have HX := keep (HNX.out hf)
        clear hf
        go_wp2_with fail
        go_roundw
        case rel => exact ⟨i + 1, by go_num, by omega, trivial, HX⟩
        case measure => simp [intOf]; omega
    · obtain rfl : i = l.length := by omega
      have HN := keep (long_none (file := file) (fun s hs => by
        obtain ⟨j, hj, rfl⟩ := List.getElem_of_mem hs
        exact hN.out j hj hj))
      go_wp2_with fail
      refine bodyPost_ret (results_cell_row_tmp rfl _ _ w.heap.size _ _ _ _ rfl (HZ.out.three _ _ _) Try.underlying54 rfl (by kernel_rfl)) rfl ?_
      exact ⟨⟨0, 0, 0⟩, false, by rw [HN.out]; rfl, fun _ => rfl, rfl, below_three HB.out (Nat.le_refl _) _ _ _⟩
set_option maxHeartbeats 2000000 in
theorem sameSn_any (v1 v2 : Value) (l : List Sn) (w : World) (h1 : Sl w (lt w.heap.size) 3 v1 l.length (sns l)) (h2 : Sl w (lt w.heap.size) 3 v2 l.length (sns l)) (hm : l.length ≤ 1000000) :
    Calls Try.prog 21 #[v1, v2] w fun e w' => e = .returned (.bool true) ∧ Below w.heap.size w w' := by
  obtain ⟨A1, c1, rfl, _, h1⟩ := h1.form
  obtain ⟨A2, c2, rfl, _, h2⟩ := h2.form
  have n1 : ((l.length : Int) != (l.length : Int)) = false := by simp
  have H1 := keep h1
  have H2 := keep h2
  clear h1 h2
  go_enter Try.func21, Try.ntmps21
  go_wp2_with fail
  go_loopw [5] (fun u wr => ∃ i : Nat, u = .int .i64 i ∧ i ≤ l.length ∧ Hid (Below w.heap.size w wr)) (fun u _ => l.length - (intOf u).toNat)
  case atStart => exact ⟨0, rfl, Nat.zero_le _, keep (Below.refl _ _)⟩
  case round =>
    obtain ⟨i, rfl, hi, hB⟩ := hrel
    by_cases hlt : i < l.length
    · obtain ⟨b, o, rfl, _, c0, c1, c2⟩ := sn_cells (H1.out.below hB.out (Nat.le_refl _)) hlt
      obtain ⟨b', o', rfl, _, d0, d1, d2⟩ := sn_cells (H2.out.below hB.out (Nat.le_refl _)) hlt
      generalize l[i] = s at c0 c1 c2 d0 d1 d2
      obtain ⟨f, n, z⟩ := s
      simp only at c0 c1 c2 d0 d1 d2
      have i0 : (0 : Int) ≤ (i : Int) := by omega
      have i1 : (i : Int) < (l.length : Int) := by omega
      have i2 : (i : Int) ≤ 1000000 := by omega
      go_wp2_with fail
      go_quiet (fail)
      go_wp2_with fail
      go_roundw
      case rel => exact ⟨i + 1, by go_num, by omega, keep (hB.out.trans (below_drewN (Below.refl _ _) _))⟩
      case measure => simp [intOf]; omega
    · obtain rfl : i = l.length := by omega
      go_wp2_with fail
      go_ret
      exact ⟨rfl, hB.out⟩
end Go.Proofs.Ytgegmefnbkcdkaa
namespace Go.Proofs.Ytgegmefnbkcdkaa
open Go.RowKit

theorem run_append_keepK {P : Program} {t e size bytes : Nat} {z : Value} (E : Elem P t e size bytes z) (ty : TypeId) (w : World) (base g n cap : Nat) (xs : List Value) (hown : w.ownsRow base e size (.slice (some ⟨g, 0, none⟩) n cap) n xs)
    (b : Addr) (c : Nat) (m : Nat) (news : List Value) (hl0 : news.length = m * size) (hnews : ∀ j u, news[j]? = some u → w.cell? (b.add j) = some u) (h1 : ∀ u ∈ news, u.oneCell' = true)
    (h63 : n + m ≤ maxLen) (hby : (n + m) * bytes ≤ 140737488355328) (hbase : base ≤ w.heap.size) :
    ∃ g2 cap2 w', (Builtin.append_ #[t, t] ty #[.slice (some ⟨g, 0, none⟩) n cap, .slice (some b) m c]).run P w = .ok (.slice (some ⟨g2, 0, none⟩) (n + m) cap2) w' ∧ w'.ownsRow base e size (.slice (some ⟨g2, 0, none⟩) (n + m) cap2) (n + m) (xs ++ news) ∧ Below base w w' ∧ w.grownBy w' (some g) ∧ (g = g2 ∨ w.heap.size ≤ g2) ∧
      w'.ownsRow base e size (.slice (some ⟨g, 0, none⟩) n cap) n xs := by
  obtain ⟨i, hi, hz0, hz1, hz2⟩ := info_parts E.hi
  have hl : news.length = m * i.size := by rw [hz1]; exact hl0
  have hsmall : n + m ≤ 9223372036854775807 := by simp only [maxLen] at h63; omega
  have hlen : (xs ++ news).length = (n + m) * size := by rw [List.length_append, hown.1, hl0, Nat.add_mul]
  have hxl : xs.length = n * size := hown.1
  rcases hown.2 with ⟨h0, _⟩ | ⟨g', cap', cur, hv, hbg, hg, hnc, hcm, hcs, htake⟩
  · cases h0
  injection hv with hv1 hv2 hv3
  injection hv1 with hv1
  injection hv1 with hv1
  subst hv1 hv3
  have hgl : g < w.heap.size := (Array.getElem?_eq_some_iff.1 hg).1
  by_cases hroom : n + m ≤ cap
  · have hfit : n * size + news.length ≤ cur.size := by rw [hl0, hcs, ← Nat.add_mul]; exact Nat.mul_le_mul_right _ hroom
    have hr := run_append_room (P := P) w t ty e i E.ht hi g n cap cur hg b m c news hl hnews h1 hroom (by rw [hz1]; exact hfit)
    rw [hz1] at hr
    have hlen2 : (cur.toList.take (n * size) ++ news ++ cur.toList.drop (n * size + news.length)).toArray.size = cap * size := by
      rw [List.size_toArray, List.length_append, List.length_append, List.length_take, List.length_drop, Array.length_toList, hcs]
      rw [hcs] at hfit
      omega
    refine ⟨_, _, _, hr, ⟨hlen, .inr ⟨g, cap, _, rfl, hbg, setRow_heap w g cur _ e _ hg, hroom, hcm, hlen2, ?_⟩⟩, ?_, ?_, .inl rfl, ⟨hown.1, .inr ⟨g, cap, _, rfl, hbg, setRow_heap w g cur _ e _ hg, hnc, hcm, hlen2, ?_⟩⟩⟩
    · rw [htake, ← hlen]
      exact List.take_left
    · exact ⟨rfl, rfl, rfl, by simp, fun k hk => setRow_other w g k _ (by omega)⟩
    · exact ⟨rfl, rfl, rfl, by simp, fun k _ hk => setRow_other w g k _ (fun e => hk (by rw [e]))⟩
    · rw [htake]
      show List.take (n * size) (xs ++ news ++ _) = xs
      rw [List.append_assoc, List.take_append_of_le_length (by omega), List.take_of_length_le (by omega)]
  · have holds : ∀ j u, xs[j]? = some u → w.cell? ((⟨g, 0, none⟩ : Addr).add j) = some u := hown.cells (g := g) rfl
    have hr := run_append_grow (P := P) w t ty e i z E.ht hi hz0 ⟨g, 0, none⟩ n cap xs (by rw [hz1]; exact hown.1) holds b m c news hl hnews (by omega) (by omega) (growslice_fits (by omega) (by rw [hz2]; exact hby))
    have hge := grownCap_ge w (n + m) cap e
    have hle := grownCap_le_maxLen w (n + m) cap e h63
    have hga : ∀ O : Obj, w.grownBy (w.drew.alloc O) none := fun O => ⟨rfl, rfl, rfl, by simp, fun k hk _ => Below.heap_alloc w.drew O k hk⟩
    refine ⟨_, _, _, hr, ⟨hlen, .inr ⟨w.heap.size, _, _, rfl, hbase, heap_alloc_new w.drew _, hge, hle, ?_, ?_⟩⟩, ?_, ?_, .inr (Nat.le_refl _), hown.kept (hga _) (by simp [Value.ownBlock])⟩
    · have hzz := E.hz
      simp only [Array.size_append, List.size_toArray, size_zeroCells, hzz]
      rw [hxl, hl0, ← Nat.add_mul, ← Nat.add_mul]
      congr 1
      omega
    · simp only [Array.toList_append, List.append_assoc]
      rw [← List.append_assoc, ← hlen]
      exact List.take_left
    · exact ⟨rfl, rfl, rfl, by simp, fun k hk => Below.heap_alloc w.drew _ k (by simp; omega)⟩
    · exact ⟨rfl, rfl, rfl, by simp, fun k hk _ => Below.heap_alloc w.drew _ k (by simpa using hk)⟩
/-- 'append(out, x)': the two operations in one law; out reads as before. -/
theorem wpList_pushKeep {P : Program} {t e size bytes : Nat} {z : Value} (E : Elem P t e size bytes z) {ops : Array Oper} {rest : List Oper} {o1 o2 : Oper} {a : Act} {w : World} {Q : Exit → Act → World → Prop}
    (hg1 : o1.guard = none) (hg2 : o2.guard = none) (x s : Operand) (d : Tmp) (hd : o1.dst = some d) (ho1 : o1.op = .buildSlice t 1 #[(0, x)])
    (ho2 : o2.op = .call { callee := .builtin .append, args := #[s, .tmp d], argTypes := #[t, t] })
    (base : Nat) (v u : Value) (n : Nat) (xs : List Value) (hx : a.eval x = u) (hs : ∀ q, (a.put (some d) q).eval s = v) (hdv : ∀ q, (a.put (some d) q).eval (.tmp d) = q)
    (hown : w.ownsRow base e size v n xs) (hu : u.cells.size = size) (h1 : ∀ c ∈ u.cells.toList, c.oneCell' = true) (hsz : size ≤ 16777216)
    (h63 : n + 1 ≤ maxLen) (hby : (n + 1) * bytes ≤ 140737488355328) (hbase : base ≤ w.heap.size)
    (h : ∀ g cap w', w'.ownsRow base e size (.slice (some ⟨g, 0, none⟩) (n + 1) cap) (n + 1) (xs ++ u.cells.toList) → Below base w w' → w.grownBy w' v.ownBlock → g < w'.heap.size → w'.ownsRow base e size v n xs →
      wpList P ops Q rest ((a.put (some d) (.slice (some ⟨w.heap.size, 0, none⟩) 1 1)).put o2.dst (.slice (some ⟨g, 0, none⟩) (n + 1) cap)) w') :
    wpList P ops Q (o1 :: o2 :: rest) a w := by
  rcases hown.2 with ⟨rfl, rfl⟩ | ⟨gg, cc, cur, rfl, _⟩
  · have hxs : xs = [] := List.eq_nil_of_length_eq_zero (by rw [hown.1, Nat.zero_mul])
    subst hxs
    exact wpList_push E hg1 hg2 x s d hd ho1 ho2 base _ u 0 [] hx hs hdv hown hu h1 hsz h63 hby hbase (fun g cap w' a1 a2 a3 _ a5 => h g cap w' a1 a2 a3 a5 (World.ownsRow_nil _ _ _ _))
  · refine wpList_plain hg1 fun K hK => ?_
    unfold Oper.wp execOp
    simp only [ho1, hx, Sem.run_bind, Sem.run_pure, List.map_toArray, List.map_cons, List.map_nil, run_buildSlice_one E u hu hsz, Result.andThen_ok]
    rw [Oper.upon_value, hd]
    refine hK _ _ ?_
    have hsz1 : (w.alloc (.cells u.cells e)).heap.size = w.heap.size + 1 := by simp
    obtain ⟨g2, cap2, w', hr, h2, h3, h4, _, h6⟩ := run_append_keepK E o2.type (w.alloc (.cells u.cells e)) base gg n cc xs (hown.alloc _) ⟨w.heap.size, 0, none⟩ 1 1 u.cells.toList (by simp [hu]) (fun j c hc => by
      rw [Addr.add_lit]
      have hc' : u.cells[j]? = some c := by simpa using hc
      simpa using hc') h1 h63 hby (by omega)
    refine wpList_plain hg2 fun K2 hK2 => ?_
    unfold Oper.wp execOp
    have e1 := hs (.slice (some ⟨w.heap.size, 0, none⟩) 1 1)
    have e2 := hdv (.slice (some ⟨w.heap.size, 0, none⟩) 1 1)
    simp only [ho2, resolve, invoke, builtin, Sem.run_bind, Sem.run_pure, Result.andThen_ok, List.map_toArray, List.map_cons, List.map_nil, e1, e2, hr]
    have hg : w.grownBy w' (some gg) := ⟨h4.os, h4.tape, h4.output, by have := h4.size; omega, fun k hk hne => (h4.block k (by omega) hne).trans (Below.heap_alloc w _ k hk)⟩
    have hb : Below base w w' := ⟨hg.os, hg.tape, hg.output, hg.size, fun k hk => hg.block k (by omega) (fun e => by injection e with e; have := (hown.lt gg rfl).1; omega)⟩
    exact hK2 _ _ (h g2 cap2 w' h2 hb hg ((h2.lt g2 rfl).2) h6)
end Go.Proofs.Ytgegmefnbkcdkaa
namespace Go.Proofs.Ytgegmefnbkcdkaa
open Go.RowKit

def SmB (fs : FS) : Prop := (∀ t ∈ fs.F, t.ino ≤ 1000) ∧ fs.O.length ≤ 100 ∧ ∀ i ∈ fs.O, 1 ≤ i ∧ i ≤ 1000
theorem gap_le : ∀ (l : List Int) (k : Int), gapP l k ≤ k + l.length
  | [], k => by simp [gapP]
  | i :: r, k => by
    unfold gapP
    have := gap_le r (k + 1)
    split
    · simp only [List.length_cons]; omega
    · simp only [List.length_cons]; omega
theorem step_ino (d : PD) (c : PC) : ∀ t ∈ (stepP d c).2.F, t.ino = freeP d.F ∨ ∃ u ∈ d.F, u.ino = t.ino := by
  have h0 : ∀ t ∈ d.F, t.ino = freeP d.F ∨ ∃ u ∈ d.F, u.ino = t.ino := fun t ht => .inr ⟨t, ht, rfl⟩
  have hadd : ∀ x : PF, x.ino = freeP d.F → ∀ t ∈ addP d.F x, t.ino = freeP d.F ∨ ∃ u ∈ d.F, u.ino = t.ino := by
    intro x hx t ht
    unfold addP at ht
    rcases List.mem_append.1 ht with h | h
    · exact h0 t ((List.takeWhile_sublist _).subset h)
    · rcases List.mem_cons.1 h with rfl | h
      · exact .inl hx
      · exact h0 t ((List.dropWhile_sublist _).subset h)
  have hupd : ∀ (i : Int) (g : PF → PF), (∀ t, (g t).ino = t.ino) → ∀ t ∈ updP d.F i g, t.ino = freeP d.F ∨ ∃ u ∈ d.F, u.ino = t.ino := by
    intro i g hg t ht
    unfold updP at ht
    obtain ⟨u, hu, rfl⟩ := List.mem_map.1 ht
    refine .inr ⟨u, hu, ?_⟩
    split
    · exact (hg u).symm
    · rfl
  have key : ∀ r : Int × PD, r = stepP d c → ∀ t ∈ r.2.F, t.ino = freeP d.F ∨ ∃ u ∈ d.F, u.ino = t.ino := by
    intro r hr
    unfold stepP at hr
    (repeat' split at hr) <;> subst hr <;> first
      | exact h0
      | exact hadd _ rfl
      | exact hupd _ _ (fun _ => rfl)
  exact key _ rfl
theorem do_ino (d : PD) (c : PC) : ∀ t ∈ (doP d c).2.F, t.ino = freeP d.F ∨ ∃ u ∈ d.F, u.ino = t.ino := by
  have h0 : ∀ t ∈ d.F, t.ino = freeP d.F ∨ ∃ u ∈ d.F, u.ino = t.ino := fun t ht => .inr ⟨t, ht, rfl⟩
  unfold doP
  split
  · exact h0
  split
  · exact h0
  split
  · intro t ht
    simp only [purgeP] at ht
    exact step_ino d c t (List.mem_filter.1 ht).1
  · exact h0
theorem SmB.step {fs fs' : FS} {c : PC} (h : SmB fs) (hi : Inv fs) (hp : fs'.p = (doP fs.p c).2) (ho : fs'.O = fs.O) : SmB fs' := by
  refine ⟨fun t ht => ?_, by rw [ho]; exact h.2.1, by rw [ho]; exact h.2.2⟩
  have h1 : t.p ∈ fs'.p.F := List.mem_map.2 ⟨t, ht, rfl⟩
  rw [hp] at h1
  rcases do_ino fs.p c t.p h1 with h2 | ⟨u, hu, h2⟩
  · have h3 := gap_le (fs.p.F.map (·.ino)) 1
    have h4 : (fs.p.F.map (·.ino)).length = fs.F.length := by simp [FS.p]
    have h5 := hi.count
    have h6 := h.2.1
    have h7 : t.ino = freeP fs.p.F := h2
    unfold freeP at h7
    omega
  · obtain ⟨v, hv, rfl⟩ := List.mem_map.1 hu
    have h3 : v.ino = t.ino := h2
    have := h.1 v hv
    omega
theorem SmB.hold {fs fs' : FS} {is : List Int} (h : SmB fs) (hi : Inv fs) (hp : fs'.p = holdP fs.p is) (hl : fs'.O.length ≤ 100) : SmB fs' := by
  refine ⟨fun t ht => ?_, hl, fun i hx => ?_⟩
  · have h1 : t.p ∈ fs'.p.F := List.mem_map.2 ⟨t, ht, rfl⟩
    rw [hp] at h1
    simp only [holdP, purgeP] at h1
    obtain ⟨v, hv, e⟩ := List.mem_map.1 (List.mem_filter.1 h1).1
    have h3 : v.ino = t.ino := congrArg PF.ino e
    have := h.1 v hv
    omega
  · have h1 : fs'.O = heldP fs.p.F is := congrArg PD.O hp
    rw [h1] at hx
    unfold heldP at hx
    obtain ⟨u, hu, rfl⟩ := List.mem_map.1 (List.mem_filter.1 hx).1
    obtain ⟨v, hv, rfl⟩ := List.mem_map.1 hu
    exact ⟨hi.p v hv, h.1 v hv⟩
theorem SmB.new : SmB ⟨[], [], []⟩ := ⟨by simp, by simp, by simp⟩
theorem SmB.smi {fs : FS} (h : SmB fs) (hi : Inv fs) : SmI fs := by
  have hF : ∀ t ∈ fs.F, 1 ≤ t.ino ∧ t.ino ≤ 1000000 := fun t ht => ⟨hi.p t ht, by have := h.1 t ht; omega⟩
  refine ⟨hF, fun n hn => ?_, fun i hx => by have := h.2.2 i hx; omega⟩
  obtain ⟨t, ht, e⟩ := hi.a n hn
  have h1 := hF t ht
  have h2 := hi.v n hn
  unfold vld at h2
  simp only [Bool.and_eq_true, decide_eq_true_eq] at h2
  omega
theorem scan_len (d : PD) (p : ByteArray) (k : Int) : (scanP d p k).length ≤ d.F.length := by
  unfold scanP sortS
  rw [List.length_mergeSort]
  refine Nat.le_trans (List.length_filterMap_le _ _) (Nat.le_trans (List.length_filter_le _ _) ?_)
  unfold inosP
  rw [List.length_map]
  exact Nat.le_refl _
end Go.Proofs.Ytgegmefnbkcdkaa
