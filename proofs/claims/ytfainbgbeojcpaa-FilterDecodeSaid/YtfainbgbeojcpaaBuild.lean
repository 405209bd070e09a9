/- Build of the reference. -/
import Derived.Test.YtfainbgbeojcpaaPos
import Derived.Test.YtfainbgbeojcpaaWords
import Derived.StillTailTactics
namespace Go.Proofs.Ytfainbgbeojcpaa
open Go.RowKit

def bmax (n : Nat) : Int := if (1 : Int) < n then n else 1
theorem bmax_bd (n : Nat) (h : n ≤ 1000) : 1 ≤ bmax n ∧ bmax n ≤ 1000 := by unfold bmax; split <;> omega
theorem bprod_bd (n : Nat) (pw : Int) (h : n ≤ 1000) (h1 : 1 ≤ pw) (h2 : pw ≤ 64) : 1 ≤ bmax n * pw ∧ bmax n * pw ≤ 64000 := by
  obtain ⟨a, b⟩ := bmax_bd n h
  generalize bmax n = m at *
  have e1 : m * pw ≤ 1000 * 64 := Int.mul_le_mul b h2 (by omega) (by omega)
  have e2 : 1 * 1 ≤ m * pw := Int.mul_le_mul a h1 (by omega) (by omega)
  omega

/-- One bit of a filter's words set. -/
def orBit (x p : Int) : Int := bits .or .u64 x (IntKind.u64.wrap (2 ^ (p % 64).toNat))
def setBit (bs : List Int) (p : Int) : List Int := bs.set (p / 64).toNat (orBit (bs.getD (p / 64).toNat 0) p)
def setBits (bs : List Int) (ps : List Int) : List Int := ps.foldl setBit bs
def zeros (n : Nat) : List Int := List.replicate n 0
/-- The words of a filter of n words with some strings. -/
def built (n k : Nat) (l : List ByteArray) : List Int := l.foldl (fun bs s => setBits bs (poss s k n)) (zeros n)
theorem setBit_len (bs : List Int) (p : Int) : (setBit bs p).length = bs.length := by simp [setBit]
theorem setBits_len (bs ps : List Int) : (setBits bs ps).length = bs.length := by
  unfold setBits
  induction ps generalizing bs with
  | nil => rfl
  | cons p ps ih => simp [ih, setBit_len]
theorem built_len (n k : Nat) (l : List ByteArray) : (built n k l).length = n := by
  unfold built
  suffices h : ∀ bs : List Int, (l.foldl (fun bs s => setBits bs (poss s k n)) bs).length = bs.length by rw [h]; simp [zeros]
  induction l with
  | nil => intro bs; rfl
  | cons s l ih => intro bs; simp [ih, setBits_len]

theorem take_succ_map {α : Type} (l : List α) (k : Nat) (h : k < l.length) : l.take (k + 1) = l.take k ++ [l[k]] := by
  rw [List.take_succ_eq_append_getElem h]
theorem built_succ (n k : Nat) (l : List ByteArray) (j : Nat) (h : j < l.length) : built n k (l.take (j + 1)) = setBits (built n k (l.take j)) (poss l[j] k n) := by
  unfold built; rw [take_succ_map l j h, List.foldl_append]; rfl
theorem setBits_snoc (bs ps : List Int) (p : Int) : setBits bs (ps ++ [p]) = setBit (setBits bs ps) p := by simp [setBits]

/-- The result of both Builds. -/
def BuildRes (w : World) (l : List ByteArray) (pw : Int) (e : Ending) (w' : World) : Prop :=
  ∃ v, e = .returned (.tuple #[.agg #[.int .i64 3, v], .int .i64 0]) ∧
    w'.ownsRow w.heap.size 67 1 v (fwords (bmax l.length * pw)) ((built (fwords (bmax l.length * pw)) 3 l).map (.int .u64)) ∧ Below w.heap.size w w'

theorem refBuild_ok (v : Value) (l : List ByteArray) (pw : Int) (w : World) (hs : Sl w (lt w.heap.size) 1 v l.length (l.map .string)) (hl : l.length ≤ 1000) (hll : ∀ s ∈ l, s.size ≤ maxLen) (h1 : 1 ≤ pw) (h2 : pw ≤ 64) :
    Calls Try.prog 17 #[v, .int .i64 pw] w (BuildRes w l pw) := by
  obtain ⟨A, c, rfl, hc, hs⟩ := hs.form
  have a1 : decide (pw < 1) = false := by simp; omega
  have a2 : decide (64 < pw) = false := by simp; omega
  obtain ⟨p1, p2⟩ := bprod_bd l.length pw hl h1 h2
  have hM : (if (1 : Int) < l.length then (l.length : Int) else 1) = bmax l.length := rfl
  obtain ⟨n1, n2⟩ := fwords_bd p1 (by omega)
  go_enter Try.func17, Try.ntmps17
  go_wp2_with fail
  refine (refNew_ok _ _ _ p1 (by omega) (by omega) (by omega)).mono ?_
  rintro e w1 ⟨g, rfl, hown, hb⟩
  clear hM
  generalize hFW : fwords (bmax l.length * pw) = n at *
  have hFw := keep hFW
  clear hFW
  simp only [World.size_alloc] at hown
  obtain ⟨hg0, hg1⟩ := hown.lt g rfl
  have hc4 : w1.cell? ⟨w.heap.size, 0, none⟩ = some (.int .i64 0) := (hb.cell (by simp)).trans (by simp)
  have hc5 : w1.cell? ⟨w.heap.size, 1, none⟩ = some (.slice none 0 0) := (hb.cell (by simp)).trans (by simp)
  have hB4 : Blk w1 w.heap.size 27 #[.int .i64 0, .slice none 0 0] := (Blk.new w 27 _).below hb (by simp)
  have hbw : Below w.heap.size w w1 := ((Below.refl _ w).alloc (Nat.le_refl _) _).trans (hb.mono (by simp))
  go_wp2_with fail
  obtain ⟨W1, hW1⟩ : ∃ W1, W1 = w1.alloc (.cells #[.int .i64 3, .slice (some ⟨g, 0, none⟩) n n] 27) := ⟨_, rfl⟩
  rw [← hW1]
  have hBox : Blk W1 w1.heap.size 27 #[.int .i64 3, .slice (some ⟨g, 0, none⟩) n n] := hW1 ▸ Blk.new _ _ _
  have hRes : Blk W1 w.heap.size 27 #[.int .i64 0, .slice none 0 0] := hW1 ▸ hB4.alloc _
  have hOwn : W1.ownsRow (w.heap.size + 1) 67 1 (.slice (some ⟨g, 0, none⟩) n n) n ((built n 3 (l.take 0)).map (.int .u64)) := by
    subst hW1
    have := hown.alloc (.cells #[.int .i64 3, .slice (some ⟨g, 0, none⟩) n n] 27)
    simpa [built, zeros] using this
  have hbW : Below w.heap.size w W1 := hW1 ▸ hbw.alloc hbw.size _
  have hSW := hs.below hbW (Nat.le_refl _)
  have hz1 : W1.heap.size = w1.heap.size + 1 := by rw [hW1]; simp
  have hzw : w.heap.size < w1.heap.size := hB4.lt
  clear hW1 hown hc4 hc5 hB4 hbw hb hs
  go_loopw [8] (fun i wr => ∃ k : Nat, k ≤ l.length ∧ i = .int .i64 k ∧ wr.ownsRow (w.heap.size + 1) 67 1 (.slice (some ⟨g, 0, none⟩) n n) n ((built n 3 (l.take k)).map (.int .u64)) ∧ W1.grownBy wr (some g)) (fun i _ => l.length - (intOf i).toNat)
  case atStart => exact ⟨0, Nat.zero_le _, rfl, hOwn, World.grownBy.refl _ _⟩
  case round =>
    clear hOwn
    obtain ⟨k, hk, rfl, hOwn, hgr⟩ := hrel
    have hBox' := hBox.grown hgr (fun e => by injection e; omega)
    have hRes' := hRes.grown hgr (fun e => by injection e; omega)
    by_cases hlt : k < l.length
    · obtain ⟨b1, o1, u1, rfl, hb1, hx1, hc1⟩ := (hSW.grown hgr (fun b hb => ⟨by have hb' : b < w.heap.size := hb; omega, fun e => by have hb' : b < w.heap.size := hb; injection e; omega⟩)).at_ hlt
      have hu : u1 = .string l[k] := by simpa [hlt] using hx1.symm
      subst hu
      have hb1' : b1 < w.heap.size := hb1
      have i0 : (0 : Int) ≤ (k : Int) := by omega
      have i1 : (k : Int) < (l.length : Int) := by omega
      have hsk : l[k].size ≤ maxLen := hll _ (List.getElem_mem _)
      have hc60 : wr.cell? ⟨w1.heap.size, 0, none⟩ = some (.int .i64 3) := by rw [hBox'.cell]; rfl
      have hc61 : wr.cell? ⟨w1.heap.size, 1, none⟩ = some (.slice (some ⟨g, 0, none⟩) n n) := by rw [hBox'.cell]; rfl
      clear hx1
      have hwz := hgr.size
      have hq1 : w1.heap.size < wr.heap.size := by omega
      have hq2 : b1 < wr.heap.size := by omega
      obtain ⟨wo, rfl⟩ : ∃ wo : World, wo = wr := ⟨_, rfl⟩
      go_wp2_with fail
      go_region_held3 (Held wo.heap.size wo) (first | exact Held.start _ _ | exact Held.call (by assumption) (by assumption) (Nat.le_refl _) | assumption)
        (first | (go_at_call 12; refine (refPositions_any 3 _ _ _ _ _ hsk (by omega) n1 n2).mono ?_; rintro e w2 ⟨v2, rfl, hown2, hb2⟩))
      have hH : Held wo.heap.size wo w2 := by assumption
      have hz2 := hH.2.2.size
      have hOwn2 := hOwn.kept (grownBy_of_below hH.2.2 none) (by simp [Value.ownBlock])
      have hgr2 : W1.grownBy w2 (some g) := grownBy_below hgr (hH.2.2.mono hwz)
      have hP := Sl.of_own_btw hown2
      obtain ⟨Ap, cp, rfl, hcp, hP⟩ := hP.form
      have hc61' : w2.cell? ⟨w1.heap.size, 1, none⟩ = some (.slice (some ⟨g, 0, none⟩) n n) := (hH.1 _ _ hq1).trans hc61
      clear hH hown2 hOwn hBox' hRes' hc60 hc61 hc1 hgr
      go_wp2_with fail
      go_loopw [10] (fun i wr => ∃ j : Nat, j ≤ 3 ∧ i = .int .i64 j ∧ wr.ownsRow (w.heap.size + 1) 67 1 (.slice (some ⟨g, 0, none⟩) n n) n ((setBits (built n 3 (l.take k)) (poss l[k] j n)).map (.int .u64)) ∧ w2.grownBy wr (some g)) (fun i _ => 3 - (intOf i).toNat)
      case atStart => exact ⟨0, Nat.zero_le _, rfl, hOwn2, World.grownBy.refl _ _⟩
      case round =>
        clear hOwn2
        obtain ⟨j, hj, rfl, hOwn, hgi⟩ := hrel
        have hc61'' : wr.cell? ⟨w1.heap.size, 1, none⟩ = some (.slice (some ⟨g, 0, none⟩) n n) := (World.cell?_of_block (hgi.block w1.heap.size (by omega) (fun e => by injection e; omega))).trans hc61'
        by_cases hlj : j < 3
        · obtain ⟨b3, o3, u3, rfl, hb3, hx3, hc3⟩ := (hP.grown hgi (fun b hb => ⟨hb.2, fun e => by have := hb.1; simp only [World.size_drew] at this; injection e; omega⟩)).at_ hlj
          have hu : u3 = .int .i64 (pos (hash 0 l[k]) (hash 1 l[k]) n j) := by simpa [poss, hlj] using hx3.symm
          subst hu
          have hpb := pos_bd (hash 0 l[k]) (hash 1 l[k]) n j n1
          have hps := poss_succ l[k] n j
          generalize pos (hash 0 l[k]) (hash 1 l[k]) n j = p at *
          have i2 : (0 : Int) ≤ (j : Int) := by omega
          have i3 : (j : Int) < (3 : Int) := by omega
          have hblen : (setBits (built n 3 (l.take k)) (poss l[k] j n)).length = n := by rw [setBits_len, built_len]
          generalize hbs : setBits (built n 3 (l.take k)) (poss l[k] j n) = bs at *
          have hBS := keep hbs
          clear hbs
          obtain ⟨q, r, hpq, hr64⟩ : ∃ q r : Nat, p = 64 * (q : Int) + (r : Int) ∧ r < 64 := ⟨(p / 64).toNat, (p % 64).toNat, by omega, by omega⟩
          have hqn : q < n := by omega
          have hcg : wr.cell? ⟨g, q, none⟩ = some (.int .u64 (bs.getD q 0)) := by
            rw [hOwn.cellAt _ (by omega)]; simp [hblen, hqn]
          have hfg : wr.frozen? ⟨g, q, none⟩ = false := hOwn.frozenAt _
          have i4 : (0 : Int) ≤ (q : Int) := by omega
          have i5 : (q : Int) < (n : Int) := by omega
          have i6 : (0 : Int) ≤ (r : Int) := by omega
          have i7 : (r : Int) < 64 := by omega
          have e1 : p.tdiv 64 = (q : Int) := by rw [Int.tdiv_eq_ediv_of_nonneg hpb.1]; omega
          have e2 : p.tmod 64 = (r : Int) := by rw [Int.tmod_eq_emod_of_nonneg hpb.1]; omega
          have e3 : IntKind.i64.wrap (q : Int) = q := IntWalk.i64_in _ (by omega)
          have hBL := keep hblen
          have hPS := keep hps
          have hPQ := keep hpq
          clear hx3 hblen hps hpq
          go_wp2_with fail
          go_still_tail 17, (by kernel_rfl)
          change wpList _ _ _ _ _ wr.drew
          clear e1 e2 e3
          go_wp2
          go_roundw
          case rel =>
            refine ⟨j + 1, by omega, by go_num, ?_, grownBy_drew (grownBy_set hgi _ _)⟩
            have hst := (hOwn.stored q (.int .u64 (bits .or .u64 (bs[q]?.getD 0) (IntKind.u64.wrap (2 ^ r))))).1
            have hpq := hPQ.out
            have e1 : (p / 64).toNat = q := by omega
            have e2 : (p % 64).toNat = r := by omega
            rw [hPS.out, setBits_snoc, hBS.out, setBit, orBit, e1, e2, List.map_set]
            exact hst.drew
          case measure => simp [intOf]; omega
        · obtain rfl : j = 3 := by omega
          have hgf : W1.grownBy wr (some g) := grownBy_trans hgr2 hgi
          have hOwn' : wr.ownsRow (w.heap.size + 1) 67 1 (.slice (some ⟨g, 0, none⟩) n n) n ((built n 3 (l.take (k + 1))).map (.int .u64)) := by rw [built_succ n 3 l k hlt]; exact hOwn
          clear hOwn hgr2
          go_wp2
          go_roundw
          case rel => exact ⟨k + 1, by omega, by go_num, hOwn', hgf⟩
          case measure => simp [intOf]; omega
    · obtain rfl : k = l.length := by omega
      have hc60 : wr.cell? ⟨w1.heap.size, 0, none⟩ = some (.int .i64 3) := by rw [hBox'.cell]; rfl
      have hc61 : wr.cell? ⟨w1.heap.size, 1, none⟩ = some (.slice (some ⟨g, 0, none⟩) n n) := by rw [hBox'.cell]; rfl
      have hc40 : wr.cell? ⟨w.heap.size, 0, none⟩ = some (.int .i64 0) := by rw [hRes'.cell]; rfl
      have hc41 : wr.cell? ⟨w.heap.size, 1, none⟩ = some (.slice none 0 0) := by rw [hRes'.cell]; rfl
      have hf40 : wr.frozen? ⟨w.heap.size, 0, none⟩ = false := hRes'.frozen 0
      have hf41 : wr.frozen? ⟨w.heap.size, 1, none⟩ = false := hRes'.frozen 1
      rw [List.take_length] at hOwn
      have hbf : Below w.heap.size w wr := below_grown hbW hgr hbW.size (by omega)
      go_wp2
      refine bodyPost_ret (v := .tuple #[.agg #[.int .i64 3, .slice (some ⟨g, 0, none⟩) n n], .int .i64 0]) (by simp [results, Try.results17, go_sem, hc40, hc41]) rfl ⟨_, rfl, ?_, ?_⟩
      · rw [hFw.out]
        refine own_base (base := w.heap.size + 1) ?_ (by omega)
        exact ownsRow_setCell_below (ownsRow_setCell_below hOwn (by simp) _) (by simp) _
      · exact (hbf.setCell (by simp) _).setCell (by simp) _
end Go.Proofs.Ytfainbgbeojcpaa
