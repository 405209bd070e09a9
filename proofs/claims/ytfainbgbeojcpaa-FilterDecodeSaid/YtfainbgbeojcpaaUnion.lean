/- Check, Clone, Union and Same of the filter and its reference. -/
import Derived.Test.YtfainbgbeojcpaaNew
namespace Go.Proofs.Ytfainbgbeojcpaa
open Go.RowKit

/-- A filter with these numbers is valid. -/
def fok (h : Int) (n : Nat) : Bool := decide (1 ≤ h) && decide (h ≤ 8) && decide (1 ≤ n) && decide (n ≤ 1024)

theorem check_ok (h : Int) (A : Option Addr) (n c : Nat) (w : World) (hv : fok h n = true) :
    Calls Try.prog 41 #[.agg #[.int .i64 h, .slice A n c]] w fun e w' => e = .returned (.int .i64 0) ∧ Below w.heap.size w w' := by
  have hv' : ((1 ≤ h ∧ h ≤ 8) ∧ 1 ≤ n) ∧ n ≤ 1024 := by simpa [fok] using hv
  have a1 : decide (h < 1) = false := by simp; omega
  have a2 : decide (8 < h) = false := by simp; omega
  have a3 : decide ((n : Int) < 1) = false := by simp; omega
  have a4 : decide ((1024 : Int) < n) = false := by simp; omega
  go_enter Try.func41, Try.ntmps41
  go_wp2
  go_ret
  exact ⟨rfl, (Below.refl _ _).alloc (Nat.le_refl _) _⟩
theorem check_bad (h : Int) (A : Option Addr) (n c : Nat) (w : World) (hv : fok h n = false) :
    Calls Try.prog 41 #[.agg #[.int .i64 h, .slice A n c]] w fun e w' => e = .returned (.int .i64 2) ∧ Below w.heap.size w w' := by
  have hv' : h < 1 ∨ 8 < h ∨ (n : Int) < 1 ∨ (1024 : Int) < n := by
    have : ¬ (fok h n = true) := by rw [hv]; simp
    simp only [fok, Bool.and_eq_true, decide_eq_true_eq] at this
    omega
  go_enter Try.func41, Try.ntmps41
  go_wp2
  all_goals go_ret
  all_goals exact ⟨rfl, (Below.refl _ _).alloc (Nat.le_refl _) _⟩
theorem refCheck_ok (h : Int) (A : Option Addr) (n c : Nat) (w : World) (hv : fok h n = true) :
    Calls Try.prog 43 #[.agg #[.int .i64 h, .slice A n c]] w fun e w' => e = .returned (.int .i64 0) ∧ Below w.heap.size w w' := by
  have hv' : ((1 ≤ h ∧ h ≤ 8) ∧ 1 ≤ n) ∧ n ≤ 1024 := by simpa [fok] using hv
  have a1 : decide (h < 1) = false := by simp; omega
  have a2 : decide (8 < h) = false := by simp; omega
  have a3 : decide ((n : Int) < 1) = false := by simp; omega
  have a4 : decide ((1024 : Int) < n) = false := by simp; omega
  go_enter Try.func43, Try.ntmps43
  go_wp2
  go_ret
  exact ⟨rfl, (Below.refl _ _).alloc (Nat.le_refl _) _⟩
theorem refCheck_bad (h : Int) (A : Option Addr) (n c : Nat) (w : World) (hv : fok h n = false) :
    Calls Try.prog 43 #[.agg #[.int .i64 h, .slice A n c]] w fun e w' => e = .returned (.int .i64 2) ∧ Below w.heap.size w w' := by
  have hv' : h < 1 ∨ 8 < h ∨ (n : Int) < 1 ∨ (1024 : Int) < n := by
    have : ¬ (fok h n = true) := by rw [hv]; simp
    simp only [fok, Bool.and_eq_true, decide_eq_true_eq] at this
    omega
  go_enter Try.func43, Try.ntmps43
  go_wp2
  all_goals go_ret
  all_goals exact ⟨rfl, (Below.refl _ _).alloc (Nat.le_refl _) _⟩

/-- A copy of a slice of words that is not empty. -/
theorem clone_any (v : Value) (l : List Int) (w : World) (hs : Sl w (lt w.heap.size) 1 v l.length (l.map (.int .u64))) (h1 : 1 ≤ l.length) (h2 : l.length ≤ 100000) :
    Calls Try.prog 42 #[v] w fun e w' => ∃ v', e = .returned v' ∧ w'.ownsRow w.heap.size 67 1 v' l.length (l.map (.int .u64)) ∧ Below w.heap.size w w' := by
  obtain ⟨A, c, rfl, hc, hs⟩ := hs.form
  obtain ⟨b, o, rfl, hb, hrow⟩ := hs.row (by omega)
  have hn : ∀ W : World, (binOp .eql 25 (.slice (some ⟨b, o, none⟩) l.length c) (.slice none 0 0)).run Try.prog W = .ok (.bool false) W := fun W => Lib.run_eql_slice_nil W 25 67 _ _ _ _ _ Try.underlying25
  have hown := own_empty w 67 1
  have hs' := hs.below ((Below.refl _ w).alloc (Nat.le_refl _) (.cells #[] 67)) (Nat.le_refl _)
  go_enter Try.func42, Try.ntmps42
  go_wp2_with (refine wpList_appendS el25 rfl _ _ rfl w.heap.size _ _ _ rfl hown (lt w.heap.size) _ _ _ rfl hs' (oneCells _ (fun _ => rfl) _) (by unfold maxLen; omega) (by omega) (by simp) ?_; intro v' w' hown' hb' _)
  go_ret
  refine ⟨_, rfl, by simpa using hown', ((Below.refl _ w).alloc (Nat.le_refl _) _).trans hb'⟩

/-- The first k words combined. -/
def orUpto (l1 l2 : List Int) (k : Nat) : List Int := (List.range l1.length).map fun i => if i < k then bits .or .u64 (l1.getD i 0) (l2.getD i 0) else l1.getD i 0
def orZip (l1 l2 : List Int) : List Int := orUpto l1 l2 l1.length
theorem orUpto_len (l1 l2 : List Int) (k : Nat) : (orUpto l1 l2 k).length = l1.length := by simp [orUpto]
theorem orUpto_zero (l1 l2 : List Int) : orUpto l1 l2 0 = l1 := by
  apply List.ext_getElem
  · simp [orUpto]
  · intro i h1 h2; simp [orUpto, h2]
theorem orUpto_at (l1 l2 : List Int) (k : Nat) (h : k < l1.length) : (orUpto l1 l2 k)[k]? = some (l1.getD k 0) := by simp [orUpto, h]
theorem orUpto_succ (l1 l2 : List Int) (k : Nat) : (orUpto l1 l2 k).set k (bits .or .u64 (l1.getD k 0) (l2.getD k 0)) = orUpto l1 l2 (k + 1) := by
  apply List.ext_getElem
  · simp [orUpto]
  · intro i h1 h2
    simp only [List.getElem_set, orUpto, List.getElem_map, List.getElem_range]
    by_cases hik : k = i
    · subst hik; simp
    · rw [if_neg hik]
      by_cases hlt : i < k
      · rw [if_pos hlt, if_pos (by omega)]
      · rw [if_neg hlt, if_neg (by omega)]

set_option maxHeartbeats 1000000 in
theorem union_ok (h1 : Int) (l1 l2 : List Int) (s1 s2 : Value) (w : World) (hs1 : Sl w (lt w.heap.size) 1 s1 l1.length (l1.map (.int .u64))) (hs2 : Sl w (lt w.heap.size) 1 s2 l2.length (l2.map (.int .u64)))
    (hv : fok h1 l1.length = true) (hlen : l2.length = l1.length) :
    Calls Try.prog 20 #[.agg #[.int .i64 h1, s1], .agg #[.int .i64 h1, s2]] w fun e w' => ∃ v, e = .returned (.tuple #[.agg #[.int .i64 h1, v], .int .i64 0]) ∧ Sl w' (btw w.heap.size w'.heap.size) 1 v l1.length ((orZip l1 l2).map (.int .u64)) ∧ Below w.heap.size w w' := by
  have hv' : ((1 ≤ h1 ∧ h1 ≤ 8) ∧ 1 ≤ l1.length) ∧ l1.length ≤ 1024 := by simpa [fok] using hv
  rw [hlen] at hs2
  obtain ⟨A1, c1, rfl, hc1, hs1⟩ := hs1.form
  obtain ⟨A2, c2, rfl, hc2, hs2⟩ := hs2.form
  go_enter Try.func20, Try.ntmps20
  go_upto_region 5 with (go_at_call 41; refine (check_ok _ _ _ _ _ hv).mono ?_; rintro e w1 ⟨rfl, hb1⟩; have hH := Held.call (by first | assumption | exact Held.refl _ _) hb1 (Nat.le_refl _))
  have hk0 : w1.cell? ⟨w.heap.size, 0, none⟩ = some (.int .i64 h1) := (hH.1 _ _ (by simp; omega)).trans (by simp [go_sem])
  have hk1 : w1.cell? ⟨w.heap.size, 1, none⟩ = some (.slice A1 l1.length c1) := (hH.1 _ _ (by simp; omega)).trans (by simp [go_sem])
  have hk2 : w1.cell? ⟨w.heap.size + 1, 1, none⟩ = some (.slice A2 l1.length c2) := (hH.1 _ _ (by simp)).trans (by simp [go_sem])
  have hR : Blk w1 (w.heap.size + 1 + 1) 27 #[.int .i64 0, .slice none 0 0] := by
    have h0 := (Blk.new ((w.alloc (.cells #[.int .i64 h1, .slice A1 l1.length c1] 27)).alloc (.cells #[.int .i64 h1, .slice A2 l1.length c2] 27)) 27 #[.int .i64 0, .slice none 0 0]).below hH.2.2 (by simp)
    simpa using h0
  have hbw : Below w.heap.size w w1 := ((((Below.refl _ w).alloc (Nat.le_refl _) _).alloc (by simp) _).alloc (by simp; omega) _).trans (hH.2.2.mono (by simp; omega))
  have hz2 := hR.lt
  have hz0 : w.heap.size < w1.heap.size := by omega
  have hz1 : w.heap.size + 1 < w1.heap.size := by omega
  have hS1 := hs1.below hbw (Nat.le_refl _)
  have hS2 := hs2.below hbw (Nat.le_refl _)
  have hslA := keep (fun (a : World) (h : Held w1.heap.size w1 a) => (hS1.under h.2.2 (fun b hb => Nat.lt_trans hb hz0)).mono (S' := lt a.heap.size) (fun b hb => Nat.lt_of_lt_of_le (Nat.lt_trans hb hz0) h.2.2.size))
  clear hH hs1 hs2 hb1
  obtain ⟨w0, rfl⟩ : ∃ w0 : World, w0 = w1 := ⟨_, rfl⟩
  go_cut [6] (fun s6 wc => ∃ g b cp, s6 = .pointer (some ⟨b, 0, none⟩) ∧ Blk wc b 27 #[.int .i64 h1, .slice (some ⟨g, 0, none⟩) l1.length cp] ∧ wc.ownsRow w0.heap.size 67 1 (.slice (some ⟨g, 0, none⟩) l1.length cp) l1.length (l1.map (.int .u64)) ∧ w0.heap.size ≤ b ∧ b ≠ g ∧ Below w0.heap.size w0 wc)
  case first =>
    go_region_held3 (Held w0.heap.size w0) (first | exact Held.start _ _ | exact Held.call (by assumption) (by assumption) (Nat.le_refl _) | exact Held.alloc (by assumption) _ (Nat.le_refl _) | ((repeat refine Held.set_ ?_ (by simp) _); assumption) | exact Held.realloc (by assumption) _ (by have h := hb3.size; simp at h; omega))
      (first | (go_at_call 42; refine (clone_any _ l1 _ (hslA.out _ (by assumption)) (by omega) (by omega)).mono ?_; rintro e w3 ⟨v3, rfl, hown3, hb3⟩; obtain ⟨g, cp, rfl, hg1, hg2⟩ := hown3.form (by omega); obtain ⟨hc3, hf3⟩ := bcell hb3; (try simp only [World.size_alloc, World.size_drew] at hc3 hf3 hg1)))
    all_goals go_wp2_with fail
    all_goals go_meet
    · have hz3 := hb3.size
      simp only [World.size_drew] at hz3
      exact ⟨g, _, cp, rfl, Blk.new _ _ _, hown3.alloc _, hz3, by omega, (by assumption : Held w0.heap.size w0 _).2.2⟩
    · have hBn := (Blk.new w0.drew 27 #[.int .i64 0, .slice none 0 0]).below hb3 (by simp)
      simp only [World.size_drew] at hBn
      have hB2 := (hBn.set_ 0 (.int .i64 h1)).set_ 1 (.slice (some ⟨g, 0, none⟩) l1.length cp)
      refine ⟨g, _, cp, rfl, hB2, ?_, Nat.le_refl _, by omega, (by assumption : Held w0.heap.size w0 _).2.2⟩
      refine own_base (base := w0.heap.size + 1) ?_ (by omega)
      exact ownsRow_setCell_below (ownsRow_setCell_below (by simpa using hown3) (by simp) _) (by simp) _
  case rest =>
    obtain ⟨g, b, cp, rfl, hBk, hOwn, hb0, hne, hbc⟩ := hcut
    have hk2c := (hbc.cell (p := ⟨w.heap.size + 1, 1, none⟩) hz1).trans hk2
    have hRc := hR.below hbc hz2
    have hS2c := hS2.below hbc (by omega)
    have hbl := hBk.lt
    have hgl := (hOwn.lt g rfl).1
    have hsc := hbc.size
    obtain ⟨W, rfl⟩ : ∃ W : World, W = wc := ⟨_, rfl⟩
    go_wp2_with fail
    go_loopw [44] (fun i wr => ∃ k : Nat, k ≤ l1.length ∧ i = .int .i64 k ∧ wr.ownsRow w0.heap.size 67 1 (.slice (some ⟨g, 0, none⟩) l1.length cp) l1.length ((orUpto l1 l2 k).map (.int .u64)) ∧ W.grownBy wr (some g)) (fun i _ => l1.length - (intOf i).toNat)
    case atStart => exact ⟨0, Nat.zero_le _, rfl, by rw [orUpto_zero]; exact hOwn, World.grownBy.refl _ _⟩
    case round =>
      obtain ⟨k, hk, rfl, hOwr, hgr⟩ := hrel
      have hBr := hBk.grown hgr (fun e => by injection e; omega)
      by_cases hlt : k < l1.length
      · obtain ⟨b2, o2, u2, rfl, hb2, hx2, hc2⟩ := (hS2c.grown hgr (fun b hb => ⟨by have hb' : b < w.heap.size := hb; omega, fun e => by have hb' : b < w.heap.size := hb; injection e; omega⟩)).at_ hlt
        have hu : u2 = .int .u64 (l2.getD k 0) := by simpa [show k < l2.length by omega] using hx2.symm
        subst hu
        have hcg : wr.cell? ⟨g, k, none⟩ = some (.int .u64 (l1.getD k 0)) := by
          rw [hOwr.cellAt _ (by omega), List.getElem?_map, orUpto_at l1 l2 k hlt]; rfl
        have hfg : wr.frozen? ⟨g, k, none⟩ = false := hOwr.frozenAt _
        have hcb : wr.cell? ⟨b, 1, none⟩ = some (.slice (some ⟨g, 0, none⟩) l1.length cp) := by rw [hBr.cell]; rfl
        have hst := (hOwr.stored k (.int .u64 (bits .or .u64 (l1.getD k 0) (l2.getD k 0)))).1
        rw [← List.map_set, orUpto_succ l1 l2 k] at hst
        generalize l1.getD k 0 = x1 at *
        generalize l2.getD k 0 = x2 at *
        clear hx2 hBr
        go_wp2
        go_roundw
        case rel => exact ⟨k + 1, by omega, by go_num, hst, grownBy_set hgr _ _⟩
        case measure => simp [intOf]; omega
      · obtain rfl : k = l1.length := by omega
        have hcb0 : wr.cell? ⟨b, 0, none⟩ = some (.int .i64 h1) := by rw [hBr.cell]; rfl
        have hcb1 : wr.cell? ⟨b, 1, none⟩ = some (.slice (some ⟨g, 0, none⟩) l1.length cp) := by rw [hBr.cell]; rfl
        have hRr := hRc.grown hgr (fun e => by injection e; omega)
        have hr0 : wr.cell? ⟨w.heap.size + 1 + 1, 0, none⟩ = some (.int .i64 0) := by rw [hRr.cell]; rfl
        have hr1 : wr.cell? ⟨w.heap.size + 1 + 1, 1, none⟩ = some (.slice none 0 0) := by rw [hRr.cell]; rfl
        have hf0 : wr.frozen? ⟨w.heap.size + 1 + 1, 0, none⟩ = false := hRr.frozen 0
        have hf1 : wr.frozen? ⟨w.heap.size + 1 + 1, 1, none⟩ = false := hRr.frozen 1
        have hbf : Below w.heap.size w wr := below_grown (bchain hbw hbc) hgr (by omega) (by omega)
        go_wp2
        refine bodyPost_ret (v := .tuple #[.agg #[.int .i64 h1, .slice (some ⟨g, 0, none⟩) l1.length cp], .int .i64 0]) (by simp [results, Try.results20, go_sem, hr0, hr1]) rfl ⟨_, rfl, ?_, ?_⟩
        · have := Sl.of_own_btw (ownsRow_setCell_below (ownsRow_setCell_below hOwr (a := ⟨w.heap.size + 1 + 1, 0, none⟩) hz2 (.int .i64 h1)) (a := ⟨w.heap.size + 1 + 1, 1, none⟩) hz2 (.slice (some ⟨g, 0, none⟩) l1.length cp))
          exact this.mono (fun b hb => ⟨by have := hb.1; omega, hb.2⟩)
        · exact (hbf.setCell (by simp; omega) _).setCell (by simp; omega) _

set_option maxHeartbeats 1000000 in
theorem refUnion_ok (h1 : Int) (l1 l2 : List Int) (s1 s2 : Value) (w : World) (hs1 : Sl w (lt w.heap.size) 1 s1 l1.length (l1.map (.int .u64))) (hs2 : Sl w (lt w.heap.size) 1 s2 l2.length (l2.map (.int .u64)))
    (hv : fok h1 l1.length = true) (hlen : l2.length = l1.length) :
    Calls Try.prog 21 #[.agg #[.int .i64 h1, s1], .agg #[.int .i64 h1, s2]] w fun e w' => ∃ v, e = .returned (.tuple #[.agg #[.int .i64 h1, v], .int .i64 0]) ∧ Sl w' (btw w.heap.size w'.heap.size) 1 v l1.length ((orZip l1 l2).map (.int .u64)) ∧ Below w.heap.size w w' := by
  have hv' : ((1 ≤ h1 ∧ h1 ≤ 8) ∧ 1 ≤ l1.length) ∧ l1.length ≤ 1024 := by simpa [fok] using hv
  rw [hlen] at hs2
  obtain ⟨A1, c1, rfl, hc1, hs1⟩ := hs1.form
  obtain ⟨A2, c2, rfl, hc2, hs2⟩ := hs2.form
  go_enter Try.func21, Try.ntmps21
  go_upto_region 5 with (go_at_call 43; refine (refCheck_ok _ _ _ _ _ hv).mono ?_; rintro e w1 ⟨rfl, hb1⟩; have hH := Held.call (by first | assumption | exact Held.refl _ _) hb1 (Nat.le_refl _))
  have hk0 : w1.cell? ⟨w.heap.size, 0, none⟩ = some (.int .i64 h1) := (hH.1 _ _ (by simp; omega)).trans (by simp [go_sem])
  have hk1 : w1.cell? ⟨w.heap.size, 1, none⟩ = some (.slice A1 l1.length c1) := (hH.1 _ _ (by simp; omega)).trans (by simp [go_sem])
  have hk2 : w1.cell? ⟨w.heap.size + 1, 1, none⟩ = some (.slice A2 l1.length c2) := (hH.1 _ _ (by simp)).trans (by simp [go_sem])
  have hR : Blk w1 (w.heap.size + 1 + 1) 27 #[.int .i64 0, .slice none 0 0] := by
    have h0 := (Blk.new ((w.alloc (.cells #[.int .i64 h1, .slice A1 l1.length c1] 27)).alloc (.cells #[.int .i64 h1, .slice A2 l1.length c2] 27)) 27 #[.int .i64 0, .slice none 0 0]).below hH.2.2 (by simp)
    simpa using h0
  have hbw : Below w.heap.size w w1 := ((((Below.refl _ w).alloc (Nat.le_refl _) _).alloc (by simp) _).alloc (by simp; omega) _).trans (hH.2.2.mono (by simp; omega))
  have hz2 := hR.lt
  have hz0 : w.heap.size < w1.heap.size := by omega
  have hz1 : w.heap.size + 1 < w1.heap.size := by omega
  have hS1 := hs1.below hbw (Nat.le_refl _)
  have hS2 := hs2.below hbw (Nat.le_refl _)
  have hslA := keep (fun (a : World) (h : Held w1.heap.size w1 a) => (hS1.under h.2.2 (fun b hb => Nat.lt_trans hb hz0)).mono (S' := lt a.heap.size) (fun b hb => Nat.lt_of_lt_of_le (Nat.lt_trans hb hz0) h.2.2.size))
  clear hH hs1 hs2 hb1
  obtain ⟨w0, rfl⟩ : ∃ w0 : World, w0 = w1 := ⟨_, rfl⟩
  go_cut [6] (fun s6 wc => ∃ g b cp, s6 = .pointer (some ⟨b, 0, none⟩) ∧ Blk wc b 27 #[.int .i64 h1, .slice (some ⟨g, 0, none⟩) l1.length cp] ∧ wc.ownsRow w0.heap.size 67 1 (.slice (some ⟨g, 0, none⟩) l1.length cp) l1.length (l1.map (.int .u64)) ∧ w0.heap.size ≤ b ∧ b ≠ g ∧ Below w0.heap.size w0 wc)
  case first =>
    go_region_held3 (Held w0.heap.size w0) (first | exact Held.start _ _ | exact Held.call (by assumption) (by assumption) (Nat.le_refl _) | exact Held.alloc (by assumption) _ (Nat.le_refl _) | ((repeat refine Held.set_ ?_ (by simp) _); assumption) | exact Held.realloc (by assumption) _ (by have h := hb3.size; simp at h; omega))
      (first | (refine step_appendS el25 (by rfl) _ _ (by rfl) _ _ 0 [] (by rfl) (World.ownsRow_nil _ _ _ _) _ _ _ _ (by rfl) (hslA.out _ (by assumption)) (oneCells _ (fun _ => rfl) _) (by unfold maxLen; omega) (by omega) (Nat.le_refl _) ?_; intro v3 w3 hown3 hb3x hg3; have hb3 := below_of_none hg3; rw [Nat.zero_add, List.nil_append] at hown3; obtain ⟨g, cp, rfl, hg1, hg2⟩ := hown3.form (by omega); obtain ⟨hc3, hf3⟩ := bcell hb3; (try simp only [World.size_alloc, World.size_drew] at hc3 hf3 hg1)))
    all_goals go_wp2_with fail
    all_goals go_meet
    · have hz3 := hb3.size
      simp only [World.size_drew] at hz3
      exact ⟨g, _, cp, rfl, Blk.new _ _ _, hown3.alloc _, hz3, by omega, (by assumption : Held w0.heap.size w0 _).2.2⟩
    · have hBn := (Blk.new w0.drew 27 #[.int .i64 0, .slice none 0 0]).below hb3 (by simp)
      simp only [World.size_drew] at hBn
      have hB2 := (hBn.set_ 0 (.int .i64 h1)).set_ 1 (.slice (some ⟨g, 0, none⟩) l1.length cp)
      refine ⟨g, _, cp, rfl, hB2, ?_, Nat.le_refl _, by omega, (by assumption : Held w0.heap.size w0 _).2.2⟩
      refine own_base (base := w0.heap.size + 1) ?_ (by omega)
      exact ownsRow_setCell_below (ownsRow_setCell_below (by simpa using hown3) (by simp) _) (by simp) _
  case rest =>
    obtain ⟨g, b, cp, rfl, hBk, hOwn, hb0, hne, hbc⟩ := hcut
    have hk2c := (hbc.cell (p := ⟨w.heap.size + 1, 1, none⟩) hz1).trans hk2
    have hRc := hR.below hbc hz2
    have hS2c := hS2.below hbc (by omega)
    have hbl := hBk.lt
    have hgl := (hOwn.lt g rfl).1
    have hsc := hbc.size
    obtain ⟨W, rfl⟩ : ∃ W : World, W = wc := ⟨_, rfl⟩
    go_wp2_with fail
    go_loopw [7] (fun i wr => ∃ k : Nat, k ≤ l1.length ∧ i = .int .i64 k ∧ wr.ownsRow w0.heap.size 67 1 (.slice (some ⟨g, 0, none⟩) l1.length cp) l1.length ((orUpto l1 l2 k).map (.int .u64)) ∧ W.grownBy wr (some g)) (fun i _ => l1.length - (intOf i).toNat)
    case atStart => exact ⟨0, Nat.zero_le _, rfl, by rw [orUpto_zero]; exact hOwn, World.grownBy.refl _ _⟩
    case round =>
      obtain ⟨k, hk, rfl, hOwr, hgr⟩ := hrel
      have hBr := hBk.grown hgr (fun e => by injection e; omega)
      by_cases hlt : k < l1.length
      · obtain ⟨b2, o2, u2, rfl, hb2, hx2, hc2⟩ := (hS2c.grown hgr (fun b hb => ⟨by have hb' : b < w.heap.size := hb; omega, fun e => by have hb' : b < w.heap.size := hb; injection e; omega⟩)).at_ hlt
        have hu : u2 = .int .u64 (l2.getD k 0) := by simpa [show k < l2.length by omega] using hx2.symm
        subst hu
        have hcg : wr.cell? ⟨g, k, none⟩ = some (.int .u64 (l1.getD k 0)) := by
          rw [hOwr.cellAt _ (by omega), List.getElem?_map, orUpto_at l1 l2 k hlt]; rfl
        have hfg : wr.frozen? ⟨g, k, none⟩ = false := hOwr.frozenAt _
        have hcb : wr.cell? ⟨b, 1, none⟩ = some (.slice (some ⟨g, 0, none⟩) l1.length cp) := by rw [hBr.cell]; rfl
        have hst := (hOwr.stored k (.int .u64 (bits .or .u64 (l1.getD k 0) (l2.getD k 0)))).1
        rw [← List.map_set, orUpto_succ l1 l2 k] at hst
        generalize l1.getD k 0 = x1 at *
        generalize l2.getD k 0 = x2 at *
        clear hx2 hBr
        have hk2r : wr.cell? ⟨w.heap.size + 1, 1, none⟩ = some (.slice (some ⟨b2, o2, none⟩) l1.length c2) := (World.cell?_of_block (hgr.block (w.heap.size + 1) (by omega) (fun e => by injection e; omega))).trans hk2c
        have i0 : (0 : Int) ≤ (k : Int) := by omega
        have i1 : (k : Int) < (l1.length : Int) := by omega
        go_wp2_with fail
        go_still_tail 12, (by kernel_rfl)
        change wpList _ _ _ _ _ wr.drew
        go_wp2
        go_roundw
        case rel => exact ⟨k + 1, by omega, by go_num, hst.drew, grownBy_drew (grownBy_set hgr _ _)⟩
        case measure => simp [intOf]; omega
      · have hk2r : wr.cell? ⟨w.heap.size + 1, 1, none⟩ = some (.slice A2 l1.length c2) := (World.cell?_of_block (hgr.block (w.heap.size + 1) (by omega) (fun e => by injection e; omega))).trans hk2c
        obtain rfl : k = l1.length := by omega
        have hcb0 : wr.cell? ⟨b, 0, none⟩ = some (.int .i64 h1) := by rw [hBr.cell]; rfl
        have hcb1 : wr.cell? ⟨b, 1, none⟩ = some (.slice (some ⟨g, 0, none⟩) l1.length cp) := by rw [hBr.cell]; rfl
        have hRr := hRc.grown hgr (fun e => by injection e; omega)
        have hr0 : wr.cell? ⟨w.heap.size + 1 + 1, 0, none⟩ = some (.int .i64 0) := by rw [hRr.cell]; rfl
        have hr1 : wr.cell? ⟨w.heap.size + 1 + 1, 1, none⟩ = some (.slice none 0 0) := by rw [hRr.cell]; rfl
        have hf0 : wr.frozen? ⟨w.heap.size + 1 + 1, 0, none⟩ = false := hRr.frozen 0
        have hf1 : wr.frozen? ⟨w.heap.size + 1 + 1, 1, none⟩ = false := hRr.frozen 1
        have hbf : Below w.heap.size w wr := below_grown (bchain hbw hbc) hgr (by omega) (by omega)
        go_wp2
        refine bodyPost_ret (v := .tuple #[.agg #[.int .i64 h1, .slice (some ⟨g, 0, none⟩) l1.length cp], .int .i64 0]) (by simp [results, Try.results21, go_sem, hr0, hr1]) rfl ⟨_, rfl, ?_, ?_⟩
        · have := Sl.of_own_btw (ownsRow_setCell_below (ownsRow_setCell_below hOwr (a := ⟨w.heap.size + 1 + 1, 0, none⟩) hz2 (.int .i64 h1)) (a := ⟨w.heap.size + 1 + 1, 1, none⟩) hz2 (.slice (some ⟨g, 0, none⟩) l1.length cp))
          exact this.mono (fun b hb => ⟨by have := hb.1; omega, hb.2⟩)
        · exact (hbf.setCell (by simp; omega) _).setCell (by simp; omega) _

theorem union_bad (h1 h2 : Int) (A1 A2 : Option Addr) (n1 c1 n2 c2 : Nat) (w : World) (hv : fok h1 n1 = false ∨ fok h2 n2 = false) :
    Calls Try.prog 20 #[.agg #[.int .i64 h1, .slice A1 n1 c1], .agg #[.int .i64 h2, .slice A2 n2 c2]] w fun e w' => e = .returned (.tuple #[.agg #[.int .i64 0, .slice none 0 0], .int .i64 2]) ∧ Below w.heap.size w w' := by
  by_cases hv1 : fok h1 n1 = false
  · go_enter Try.func20, Try.ntmps20
    go_wp2_with (go_at_call 41; refine (check_bad _ _ _ _ _ hv1).mono ?_; rintro e w1 ⟨rfl, hb1⟩; have hH := Held.call (by first | assumption | exact Held.refl _ _) hb1 (Nat.le_refl _))
    have hbw : Below w.heap.size w w1 := ((((Below.refl _ w).alloc (Nat.le_refl _) _).alloc (by simp) _).alloc (by simp; omega) _).trans (hH.2.2.mono (by simp; omega))
    refine bodyPost_ret (v := .tuple #[.agg #[.int .i64 0, .slice none 0 0], .int .i64 2]) (by simp [results, Try.results20, go_sem, hH.1]) rfl ⟨rfl, ?_⟩
    exact (hbw.setCell (by simp; omega) _).setCell (by simp; omega) _
  · have hv1' : fok h1 n1 = true := by simpa using hv1
    have hv2 : fok h2 n2 = false := hv.resolve_left hv1
    go_enter Try.func20, Try.ntmps20
    go_wp2_with fail
    refine (check_ok _ _ _ _ _ hv1').mono ?_; rintro e w1 ⟨rfl, hb1⟩; have hH1 := Held.call (Held.refl _ _) hb1 (Nat.le_refl _)
    go_wp2_with fail
    refine (check_bad _ _ _ _ _ hv2).mono ?_; rintro e w2 ⟨rfl, hb2⟩; have hH := Held.call hH1 hb2 (Nat.le_refl _)
    clear hH1
    go_wp2_with fail
    have hbw : Below w.heap.size w w2 := ((((Below.refl _ w).alloc (Nat.le_refl _) _).alloc (by simp) _).alloc (by simp; omega) _).trans (hH.2.2.mono (by simp; omega))
    refine bodyPost_ret (v := .tuple #[.agg #[.int .i64 0, .slice none 0 0], .int .i64 2]) (by simp [results, Try.results20, go_sem, hH.1]) rfl ⟨rfl, ?_⟩
    exact (hbw.setCell (by simp; omega) _).setCell (by simp; omega) _

theorem union_type (h1 h2 : Int) (A1 A2 : Option Addr) (n1 c1 n2 c2 : Nat) (w : World) (hv1 : fok h1 n1 = true) (hv2 : fok h2 n2 = true) (hne : h1 ≠ h2 ∨ n1 ≠ n2) :
    Calls Try.prog 20 #[.agg #[.int .i64 h1, .slice A1 n1 c1], .agg #[.int .i64 h2, .slice A2 n2 c2]] w fun e w' => e = .returned (.tuple #[.agg #[.int .i64 0, .slice none 0 0], .int .i64 18]) ∧ Below w.heap.size w w' := by
  by_cases hh : h1 = h2
  · have hn : n1 ≠ n2 := hne.resolve_left (fun h => h hh)
    subst hh
    have d1 : ((n1 : Int) != (n2 : Int)) = true := by simp; omega
    go_enter Try.func20, Try.ntmps20
    go_wp2_with fail
    refine (check_ok _ _ _ _ _ hv1).mono ?_; rintro e w1 ⟨rfl, hb1⟩; have hH1 := Held.call (Held.refl _ _) hb1 (Nat.le_refl _)
    go_wp2_with fail
    refine (check_ok _ _ _ _ _ hv2).mono ?_; rintro e w2 ⟨rfl, hb2⟩; have hH := Held.call hH1 hb2 (Nat.le_refl _)
    clear hH1
    go_wp2_with fail
    have hbw : Below w.heap.size w w2 := ((((Below.refl _ w).alloc (Nat.le_refl _) _).alloc (by simp) _).alloc (by simp; omega) _).trans (hH.2.2.mono (by simp; omega))
    refine bodyPost_ret (v := .tuple #[.agg #[.int .i64 0, .slice none 0 0], .int .i64 18]) (by simp [results, Try.results20, go_sem, hH.1]) rfl ⟨rfl, ?_⟩
    exact (hbw.setCell (by simp; omega) _).setCell (by simp; omega) _
  · have d1 : (h1 != h2) = true := by simpa using hh
    go_enter Try.func20, Try.ntmps20
    go_wp2_with fail
    refine (check_ok _ _ _ _ _ hv1).mono ?_; rintro e w1 ⟨rfl, hb1⟩; have hH1 := Held.call (Held.refl _ _) hb1 (Nat.le_refl _)
    go_wp2_with fail
    refine (check_ok _ _ _ _ _ hv2).mono ?_; rintro e w2 ⟨rfl, hb2⟩; have hH := Held.call hH1 hb2 (Nat.le_refl _)
    clear hH1
    go_wp2_with fail
    have hbw : Below w.heap.size w w2 := ((((Below.refl _ w).alloc (Nat.le_refl _) _).alloc (by simp) _).alloc (by simp; omega) _).trans (hH.2.2.mono (by simp; omega))
    refine bodyPost_ret (v := .tuple #[.agg #[.int .i64 0, .slice none 0 0], .int .i64 18]) (by simp [results, Try.results20, go_sem, hH.1]) rfl ⟨rfl, ?_⟩
    exact (hbw.setCell (by simp; omega) _).setCell (by simp; omega) _

theorem refUnion_bad (h1 h2 : Int) (A1 A2 : Option Addr) (n1 c1 n2 c2 : Nat) (w : World) (hv : fok h1 n1 = false ∨ fok h2 n2 = false) :
    Calls Try.prog 21 #[.agg #[.int .i64 h1, .slice A1 n1 c1], .agg #[.int .i64 h2, .slice A2 n2 c2]] w fun e w' => e = .returned (.tuple #[.agg #[.int .i64 0, .slice none 0 0], .int .i64 2]) ∧ Below w.heap.size w w' := by
  by_cases hv1 : fok h1 n1 = false
  · go_enter Try.func21, Try.ntmps21
    go_wp2_with (go_at_call 43; refine (refCheck_bad _ _ _ _ _ hv1).mono ?_; rintro e w1 ⟨rfl, hb1⟩; have hH := Held.call (by first | assumption | exact Held.refl _ _) hb1 (Nat.le_refl _))
    have hbw : Below w.heap.size w w1 := ((((Below.refl _ w).alloc (Nat.le_refl _) _).alloc (by simp) _).alloc (by simp; omega) _).trans (hH.2.2.mono (by simp; omega))
    refine bodyPost_ret (v := .tuple #[.agg #[.int .i64 0, .slice none 0 0], .int .i64 2]) (by simp [results, Try.results21, go_sem, hH.1]) rfl ⟨rfl, ?_⟩
    exact (hbw.setCell (by simp; omega) _).setCell (by simp; omega) _
  · have hv1' : fok h1 n1 = true := by simpa using hv1
    have hv2 : fok h2 n2 = false := hv.resolve_left hv1
    go_enter Try.func21, Try.ntmps21
    go_wp2_with fail
    refine (refCheck_ok _ _ _ _ _ hv1').mono ?_; rintro e w1 ⟨rfl, hb1⟩; have hH1 := Held.call (Held.refl _ _) hb1 (Nat.le_refl _)
    go_wp2_with fail
    refine (refCheck_bad _ _ _ _ _ hv2).mono ?_; rintro e w2 ⟨rfl, hb2⟩; have hH := Held.call hH1 hb2 (Nat.le_refl _)
    clear hH1
    go_wp2_with fail
    have hbw : Below w.heap.size w w2 := ((((Below.refl _ w).alloc (Nat.le_refl _) _).alloc (by simp) _).alloc (by simp; omega) _).trans (hH.2.2.mono (by simp; omega))
    refine bodyPost_ret (v := .tuple #[.agg #[.int .i64 0, .slice none 0 0], .int .i64 2]) (by simp [results, Try.results21, go_sem, hH.1]) rfl ⟨rfl, ?_⟩
    exact (hbw.setCell (by simp; omega) _).setCell (by simp; omega) _

theorem refUnion_type (h1 h2 : Int) (A1 A2 : Option Addr) (n1 c1 n2 c2 : Nat) (w : World) (hv1 : fok h1 n1 = true) (hv2 : fok h2 n2 = true) (hne : h1 ≠ h2 ∨ n1 ≠ n2) :
    Calls Try.prog 21 #[.agg #[.int .i64 h1, .slice A1 n1 c1], .agg #[.int .i64 h2, .slice A2 n2 c2]] w fun e w' => e = .returned (.tuple #[.agg #[.int .i64 0, .slice none 0 0], .int .i64 18]) ∧ Below w.heap.size w w' := by
  by_cases hh : h1 = h2
  · have hn : n1 ≠ n2 := hne.resolve_left (fun h => h hh)
    subst hh
    have d1 : ((n1 : Int) != (n2 : Int)) = true := by simp; omega
    go_enter Try.func21, Try.ntmps21
    go_wp2_with fail
    refine (refCheck_ok _ _ _ _ _ hv1).mono ?_; rintro e w1 ⟨rfl, hb1⟩; have hH1 := Held.call (Held.refl _ _) hb1 (Nat.le_refl _)
    go_wp2_with fail
    refine (refCheck_ok _ _ _ _ _ hv2).mono ?_; rintro e w2 ⟨rfl, hb2⟩; have hH := Held.call hH1 hb2 (Nat.le_refl _)
    clear hH1
    go_wp2_with fail
    have hbw : Below w.heap.size w w2 := ((((Below.refl _ w).alloc (Nat.le_refl _) _).alloc (by simp) _).alloc (by simp; omega) _).trans (hH.2.2.mono (by simp; omega))
    refine bodyPost_ret (v := .tuple #[.agg #[.int .i64 0, .slice none 0 0], .int .i64 18]) (by simp [results, Try.results21, go_sem, hH.1]) rfl ⟨rfl, ?_⟩
    exact (hbw.setCell (by simp; omega) _).setCell (by simp; omega) _
  · have d1 : (h1 != h2) = true := by simpa using hh
    go_enter Try.func21, Try.ntmps21
    go_wp2_with fail
    refine (refCheck_ok _ _ _ _ _ hv1).mono ?_; rintro e w1 ⟨rfl, hb1⟩; have hH1 := Held.call (Held.refl _ _) hb1 (Nat.le_refl _)
    go_wp2_with fail
    refine (refCheck_ok _ _ _ _ _ hv2).mono ?_; rintro e w2 ⟨rfl, hb2⟩; have hH := Held.call hH1 hb2 (Nat.le_refl _)
    clear hH1
    go_wp2_with fail
    have hbw : Below w.heap.size w w2 := ((((Below.refl _ w).alloc (Nat.le_refl _) _).alloc (by simp) _).alloc (by simp; omega) _).trans (hH.2.2.mono (by simp; omega))
    refine bodyPost_ret (v := .tuple #[.agg #[.int .i64 0, .slice none 0 0], .int .i64 18]) (by simp [results, Try.results21, go_sem, hH.1]) rfl ⟨rfl, ?_⟩
    exact (hbw.setCell (by simp; omega) _).setCell (by simp; omega) _

theorem same_true (h : Int) (l : List Int) (s1 s2 : Value) (w : World) (hs1 : Sl w (lt w.heap.size) 1 s1 l.length (l.map (.int .u64))) (hs2 : Sl w (lt w.heap.size) 1 s2 l.length (l.map (.int .u64))) (hm : l.length ≤ 1000000) :
    Calls Try.prog 22 #[.agg #[.int .i64 h, s1], .agg #[.int .i64 h, s2]] w fun e w' => e = .returned (.bool true) ∧ Below w.heap.size w w' := by
  obtain ⟨A1, c1, rfl, hc1, hs1⟩ := hs1.form
  obtain ⟨A2, c2, rfl, hc2, hs2⟩ := hs2.form
  go_enter Try.func22, Try.ntmps22
  go_wp2
  obtain ⟨W, hW⟩ : ∃ W, W = (w.alloc (.cells #[.int .i64 h, .slice A1 l.length c1] 27)).alloc (.cells #[.int .i64 h, .slice A2 l.length c2] 27) := ⟨_, rfl⟩
  have hk1 : W.cell? ⟨w.heap.size, 1, none⟩ = some (.slice A1 l.length c1) := by subst hW; simp [go_sem]
  have hk2 : W.cell? ⟨w.heap.size + 1, 1, none⟩ = some (.slice A2 l.length c2) := by subst hW; simp [go_sem]
  have hbW : Below w.heap.size w W := hW ▸ (((Below.refl _ w).alloc (Nat.le_refl _) _).alloc (by simp) _)
  have hz : W.heap.size = w.heap.size + 2 := by subst hW; simp
  rw [← hW]
  clear hW
  have hS1 := hs1.below hbW (Nat.le_refl _)
  have hS2 := hs2.below hbW (Nat.le_refl _)
  go_loopw [5] (fun i wr => ∃ k : Nat, k ≤ l.length ∧ i = .int .i64 k ∧ Below W.heap.size W wr) (fun i _ => l.length - (intOf i).toNat)
  case atStart => exact ⟨0, Nat.zero_le _, rfl, Below.refl _ _⟩
  case round =>
    obtain ⟨k, hk, rfl, hb⟩ := hrel
    have hk1r := (hb.cell (p := ⟨w.heap.size, 1, none⟩) (by simp; omega)).trans hk1
    have hk2r := (hb.cell (p := ⟨w.heap.size + 1, 1, none⟩) (by simp; omega)).trans hk2
    by_cases hlt : k < l.length
    · obtain ⟨b1, o1, u1, rfl, hb1, hx1, hc1⟩ := (hS1.below hb (by omega)).at_ hlt
      obtain ⟨b2, o2, u2, rfl, hb2, hx2, hc2⟩ := (hS2.below hb (by omega)).at_ hlt
      have hu : u1 = .int .u64 l[k] := by simpa [hlt] using hx1.symm
      have hu2 : u2 = .int .u64 l[k] := by simpa [hlt] using hx2.symm
      subst hu hu2
      have hi1 : (0 : Int) ≤ (k : Int) := by omega
      have hi2 : (k : Int) < (l.length : Int) := by omega
      clear hx1 hx2 hk1 hk2
      go_wp2
      go_quiet (fail)
      go_wp2
      go_roundw
      case rel => exact ⟨k + 1, by omega, by go_num, below_drewN hb _⟩
      case measure => simp [intOf]; omega
    · clear hk1 hk2
      go_wp2
      go_ret
      exact ⟨rfl, bchain hbW hb⟩
end Go.Proofs.Ytfainbgbeojcpaa
