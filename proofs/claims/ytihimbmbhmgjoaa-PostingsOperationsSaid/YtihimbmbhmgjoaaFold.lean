/- Contracts of All and Any of package postings and of the reference. -/
import Derived.Test.YtihimbmbhmgjoaaLattice
import Derived.Test.YtihimbmbhmgjoaaPick
namespace Go.Proofs.Ytihimbmbhmgjoaa
open Go.RowKit

theorem clone_ints (v : Value) (l : List Int) (w : World) (hs : Sl w (lt w.heap.size) 1 v l.length (l.map (.int .i64))) (h2 : l.length ≤ 100000) :
    Calls Try.prog 58 #[v] w (NewInts w l) := by
  obtain ⟨A, c, rfl, hc, hs⟩ := hs.form
  have hn : ∀ W : World, (binOp .eql 26 (.slice A l.length c) (.slice none 0 0)).run Try.prog W = .ok (.bool A.isNone) W := fun W => Lib.run_eql_slice_nil W 26 3 _ _ _ _ _ Try.underlying26
  cases A with
  | none =>
    have h0 : l = [] := by
      rcases Nat.eq_zero_or_pos l.length with h | h
      · exact List.length_eq_zero_iff.1 h
      · obtain ⟨b, o, hA, _⟩ := hs.row h
        cases hA
    subst h0
    simp only [Option.isNone_none, List.length_nil] at hn
    go_enter Try.func58, Try.ntmps58
    go_wp2_with fail
    go_ret
    exact ⟨_, rfl, World.ownsRow_nil _ _ _ _, Below.refl _ _⟩
  | some p =>
    simp only [Option.isNone_some] at hn
    have hown := own_empty w 3 1
    have hs' := hs.below ((Below.refl _ w).alloc (Nat.le_refl _) (.cells #[] 3)) (Nat.le_refl _)
    go_enter Try.func58, Try.ntmps58
    go_wp2_with (refine wpList_appendS el26 rfl _ _ rfl w.heap.size _ _ _ rfl hown (lt w.heap.size) _ _ _ rfl hs' (oneCells _ (fun _ => rfl) _) (by unfold maxLen; omega) (by omega) (by simp) ?_; intro v' w' hown' hb' _)
    go_ret
    exact ⟨_, rfl, by simpa using hown', ((Below.refl _ w).alloc (Nat.le_refl _) _).trans hb'⟩

theorem Each.get {w : World} {S : Nat → Prop} : ∀ {vs : List Value} {ls : List (List Int)}, Each w S vs ls → ∀ {k : Nat} (hk : k < ls.length), ∃ A c, vs[k]? = some (.slice A (ls[k]).length c) ∧ Sl w S 1 (.slice A (ls[k]).length c) (ls[k]).length ((ls[k]).map (.int .i64)) ∧ Post ls[k]
  | [], [], _, k, hk => by simp at hk
  | v :: vs, l :: ls, ⟨⟨A, c, hv⟩, h1, h2, h3⟩, 0, _ => by subst hv; exact ⟨A, c, rfl, h1, h2⟩
  | v :: vs, l :: ls, ⟨_, _, _, h3⟩, k + 1, hk => by
    obtain ⟨A, c, h4, h5, h6⟩ := Each.get h3 (k := k) (by simpa using hk)
    exact ⟨A, c, by simpa using h4, by simpa using h5, by simpa using h6⟩
theorem Each.below {w w' : World} {B : Nat} {vs : List Value} {ls : List (List Int)} (h : Each w (lt B) vs ls) (hb : Below B w w') : Each w' (lt B) vs ls := h.imp fun _ _ _ hs => hs.below hb (Nat.le_refl _)

/-- The first k of the other lists combined with the first one. -/
def foldL (op : List Int → List Int → List Int) (l : List Int) (rest : List (List Int)) : List Int := rest.foldl op l
theorem foldL_step (op : List Int → List Int → List Int) (l : List Int) (rest : List (List Int)) {k : Nat} (hk : k < rest.length) : foldL op l (rest.take (k + 1)) = op (foldL op l (rest.take k)) rest[k] := by
  unfold foldL
  rw [List.take_add_one, List.getElem?_eq_getElem hk, List.foldl_append]
  rfl

/-- What a combining function of two lists does. -/
def Comb (fn : Nat) (op : List Int → List Int → List Int) : Prop :=
  (∀ a b, (op a b).length ≤ a.length + b.length) ∧ ∀ (va vb : Value) (a b : List Int) (w : World), Sl w (lt w.heap.size) 1 va a.length (a.map (.int .i64)) → Sl w (lt w.heap.size) 1 vb b.length (b.map (.int .i64)) → a.length + b.length ≤ 1000000000 →
    Calls Try.prog fn #[va, vb] w (NewInts w (op a b))

theorem comb_and : Comb 13 andL := ⟨merged_len _, fun va vb a b w ha hb hl => and_any va vb a b w ha hb hl⟩
theorem comb_or : Comb 14 orL := ⟨merged_len _, fun va vb a b w ha hb hl => or_any va vb a b w ha hb hl⟩
theorem comb_refAnd : Comb 18 andL := ⟨merged_len _, fun va vb a b w ha hb hl => refAnd_any va vb a b w ha hb hl⟩
theorem comb_refOr : Comb 19 orL := ⟨merged_len _, fun va vb a b w ha hb hl => refOr_any va vb a b w ha hb hl⟩

set_option maxHeartbeats 1000000 in
theorem fold_any (fn : Nat) (op : List Int → List Int → List Int) (hen : ∀ (args : Array Value) (W : World), (callFunc fn args).run Try.prog W = .ok (.enter fn args) W) (hc : Comb fn op)
    (v : Value) (vs : List Value) (l : List Int) (rest : List (List Int)) (w : World) (hs : Sl w (lt w.heap.size) 1 v (rest.length + 1) vs) (hE : Each w (lt w.heap.size) vs (l :: rest)) (hn : rest.length ≤ 1000) :
    Calls Try.prog 45 #[v, .func (.func fn) #[] #[]] w (NewInts w (foldL op l rest)) := by
  have hC := keep hc
  clear hc
  obtain ⟨A, c, rfl, hcap, hs⟩ := hs.form
  obtain ⟨A0, c0, hv0, hs0, hP0⟩ := hE.get (k := 0) (by simp)
  simp only [List.getElem_cons_zero] at hv0 hs0 hP0
  have hP0l := hP0.2.2
  clear hP0
  obtain ⟨b1, o1, u1, rfl, hb1, hx1, hc1⟩ := hs.at_ (k := 0) (by omega)
  obtain rfl : u1 = .slice A0 l.length c0 := by rw [hx1] at hv0; injection hv0
  rw [Nat.add_zero] at hc1
  clear hx1 hv0
  obtain ⟨A1, hcut, hcap1, hs1⟩ := cut_one el24 hs
  have hi1 : (0 : Int) < ((rest.length + 1 : Nat) : Int) := by omega
  have hz1 : (((rest.length + 1 : Nat) : Int) == 0) = false := by simp; omega
  go_enter Try.func45, Try.ntmps45
  go_wp2_with fail
  refine (clone_ints _ l _ hs0 (by omega)).mono ?_
  rintro e w1 ⟨v1, rfl, hown1, hbw1⟩
  go_wp2_with fail
  go_loopw [5, 18] (fun v i wr => ∃ k : Nat, k ≤ rest.length ∧ i = .int .i64 k ∧ (foldL op l (rest.take k)).length ≤ 100 * (k + 1) ∧ wr.ownsRow w.heap.size 3 1 v (foldL op l (rest.take k)).length ((foldL op l (rest.take k)).map (.int .i64)) ∧ Below w.heap.size w wr) (fun _ i _ => rest.length - (intOf i).toNat)
  case atStart => exact ⟨0, Nat.zero_le _, rfl, by simpa [foldL] using hP0l, hown1, hbw1⟩
  case round =>
    obtain ⟨k, hk, rfl, hlen, hown, hb⟩ := hrel
    have hz := hb.size
    by_cases hlt : k < rest.length
    · have hd : decide ((k : Int) < rest.length) = true := by simp; omega
      have hj1 : (0 : Int) ≤ (k : Int) := by omega
      have hj2 : (k : Int) < (rest.length : Int) := by omega
      obtain ⟨Ak, ck, hvk, hsk, hPk⟩ := (hE.below hb).get (k := k + 1) (by simp; omega)
      simp only [List.getElem_cons_succ] at hvk hsk hPk
      obtain ⟨b2, o2, u2, rfl, hb2, hx2, hc2⟩ := (hs1.below hb (Nat.le_refl _)).at_ hlt
      obtain rfl : u2 = .slice Ak (rest[k]).length ck := by rw [List.getElem?_drop, Nat.add_comm] at hx2; rw [hx2] at hvk; injection hvk
      have hPl := hPk.2.2
      have hskw := hsk.more hz
      clear hx2 hvk hPk hsk
      have hstep := foldL_step op l rest hlt
      have hopl := hC.out.1 (foldL op l (rest.take k)) rest[k]
      generalize hF : foldL op l (rest.take k) = F at *
      have hS := Sl.of_own hown
      go_wp2_with fail
      refine (hC.out.2 _ _ F rest[k] _ hS hskw (by omega)).mono ?_
      rintro e w3 ⟨v3, rfl, hown3, hb3⟩
      go_wp2_with fail
      go_roundw
      case rel => exact ⟨k + 1, by omega, by go_num, by rw [hstep]; omega, by rw [hstep]; exact own_base hown3 hz, hb.trans (hb3.mono hz)⟩
      case measure => simp [intOf]; omega
    · obtain rfl : k = rest.length := by omega
      have hd : decide ((rest.length : Int) < rest.length) = false := by simp
      rw [List.take_length] at hown
      go_wp2_with fail
      go_ret
      exact ⟨_, rfl, hown, hb⟩

theorem fold_nil (fn : Nat) (w : World) : Calls Try.prog 45 #[.slice none 0 0, .func (.func fn) #[] #[]] w fun e w' => e = .returned (.slice none 0 0) ∧ Below w.heap.size w w' := by
  go_enter Try.func45, Try.ntmps45
  go_wp2_with fail
  go_ret
  exact ⟨rfl, Below.refl _ _⟩
theorem all_nil (w : World) : Calls Try.prog 21 #[.slice none 0 0] w fun e w' => e = .returned (.slice none 0 0) ∧ Below w.heap.size w w' := by
  go_enter Try.func21, Try.ntmps21
  go_wp2_with fail
  refine (fold_nil _ _).mono ?_
  rintro e w1 ⟨rfl, hb⟩
  go_wp2_with fail
  go_ret
  exact ⟨rfl, hb⟩
theorem any_nil (w : World) : Calls Try.prog 23 #[.slice none 0 0] w fun e w' => e = .returned (.slice none 0 0) ∧ Below w.heap.size w w' := by
  go_enter Try.func23, Try.ntmps23
  go_wp2_with fail
  refine (fold_nil _ _).mono ?_
  rintro e w1 ⟨rfl, hb⟩
  go_wp2_with fail
  go_ret
  exact ⟨rfl, hb⟩

section
variable (v : Value) (vs : List Value) (l : List Int) (rest : List (List Int)) (w : World) (hs : Sl w (lt w.heap.size) 1 v (rest.length + 1) vs) (hE : Each w (lt w.heap.size) vs (l :: rest)) (hn : rest.length ≤ 1000)
include hs hE hn
theorem all_any : Calls Try.prog 21 #[v] w (NewInts w (foldL andL l rest)) := by
  go_enter Try.func21, Try.ntmps21
  go_wp2_with fail
  refine (fold_any 13 andL (fun _ _ => rfl) comb_and v vs l rest _ hs hE hn).mono ?_
  rintro e w1 ⟨v1, rfl, hown, hb⟩
  go_wp2_with fail
  go_ret
  exact ⟨v1, rfl, hown, hb⟩
theorem any_any : Calls Try.prog 23 #[v] w (NewInts w (foldL orL l rest)) := by
  go_enter Try.func23, Try.ntmps23
  go_wp2_with fail
  refine (fold_any 14 orL (fun _ _ => rfl) comb_or v vs l rest _ hs hE hn).mono ?_
  rintro e w1 ⟨v1, rfl, hown, hb⟩
  go_wp2_with fail
  go_ret
  exact ⟨v1, rfl, hown, hb⟩

theorem refAll_any : Calls Try.prog 22 #[v] w (NewInts w (foldL andL l rest)) := by
  obtain ⟨A, c, rfl, hcap, hs⟩ := hs.form
  go_enter Try.func22, Try.ntmps22
  go_wp2_with fail
  go_loopw [3, 4] (fun v i wr => Below w.heap.size w wr ∧ ((v = .slice none 0 0 ∧ i = .int .i64 0) ∨ ∃ k : Nat, k ≤ rest.length ∧ i = .int .i64 ((k : Int) + 1) ∧ (foldL andL l (rest.take k)).length ≤ 100 * (k + 1) ∧ wr.ownsRow w.heap.size 3 1 v (foldL andL l (rest.take k)).length ((foldL andL l (rest.take k)).map (.int .i64)))) (fun _ i _ => rest.length + 1 - (intOf i).toNat)
  case atStart => exact ⟨Below.refl _ _, Or.inl ⟨rfl, rfl⟩⟩
  case round =>
    obtain ⟨hb, hrel⟩ := hrel
    have hz := hb.size
    rcases hrel with ⟨rfl, rfl⟩ | ⟨k, hk, rfl, hlen, hown⟩
    · obtain ⟨A0, c0, hv0, hs0, hP0⟩ := (hE.below hb).get (k := 0) (by simp)
      simp only [List.getElem_cons_zero] at hv0 hs0 hP0
      have hP0l := hP0.2.2
      clear hP0
      obtain ⟨b1, o1, u1, rfl, hb1, hx1, hc1⟩ := (hs.below hb (Nat.le_refl _)).at_ (k := 0) (by omega)
      obtain rfl : u1 = .slice A0 l.length c0 := by rw [hx1] at hv0; injection hv0
      rw [Nat.add_zero] at hc1
      clear hx1 hv0
      have hi1 : (0 : Int) < ((rest.length + 1 : Nat) : Int) := by omega
      have hd : decide ((0 : Int) < ((rest.length + 1 : Nat) : Int)) = true := by simp
      have hown0 := World.ownsRow_nil wr w.heap.size 3 1
      go_wp2_with (refine wpList_appendS el26 rfl _ _ rfl w.heap.size _ _ _ rfl hown0 (lt w.heap.size) _ _ _ rfl hs0 (oneCells _ (fun _ => rfl) _) (by unfold maxLen; omega) (by omega) hz ?_; intro v' w' hown' hb' _)
      go_roundw
      case rel => exact ⟨hb.trans hb', Or.inr ⟨0, Nat.zero_le _, rfl, by simpa [foldL] using hP0l, by simpa [foldL] using hown'⟩⟩
      case measure => simp [intOf]
    · by_cases hlt : k < rest.length
      · have hd : decide ((k : Int) + 1 < ((rest.length + 1 : Nat) : Int)) = true := by simp; omega
        have hj1 : (0 : Int) ≤ (k : Int) + 1 := by omega
        have hj2 : (k : Int) + 1 < ((rest.length + 1 : Nat) : Int) := by omega
        have hj3 : ((k : Int) + 1 == 0) = false := by simp; omega
        have hj4 : ((k : Int) + 1).toNat = k + 1 := by omega
        obtain ⟨Ak, ck, hvk, hsk, hPk⟩ := (hE.below hb).get (k := k + 1) (by simp; omega)
        simp only [List.getElem_cons_succ] at hvk hsk hPk
        obtain ⟨b2, o2, u2, rfl, hb2, hx2, hc2⟩ := (hs.below hb (Nat.le_refl _)).at_ (k := k + 1) (by omega)
        obtain rfl : u2 = .slice Ak (rest[k]).length ck := by rw [hx2] at hvk; injection hvk
        have hPl := hPk.2.2
        have hskw := hsk.more hz
        clear hx2 hvk hPk hsk
        have hstep := foldL_step andL l rest hlt
        have hopl := comb_refAnd.1 (foldL andL l (rest.take k)) rest[k]
        generalize hF : foldL andL l (rest.take k) = F at *
        have hS := Sl.of_own hown
        go_wp2_with fail
        refine (comb_refAnd.2 _ _ F rest[k] _ hS hskw (by omega)).mono ?_
        rintro e w3 ⟨v3, rfl, hown3, hb3⟩
        go_wp2_with fail
        go_roundw
        case rel => exact ⟨hb.trans (hb3.mono hz), Or.inr ⟨k + 1, by omega, by go_num, by rw [hstep]; omega, by rw [hstep]; exact own_base hown3 hz⟩⟩
        case measure => simp [intOf]; omega
      · obtain rfl : k = rest.length := by omega
        have hd : decide ((rest.length : Int) + 1 < ((rest.length + 1 : Nat) : Int)) = false := by simp
        rw [List.take_length] at hown
        go_wp2_with fail
        go_ret
        exact ⟨_, rfl, hown, hb⟩

theorem refAny_any : Calls Try.prog 24 #[v] w (NewInts w (foldL orL [] (l :: rest))) := by
  obtain ⟨A, c, rfl, hcap, hs⟩ := hs.form
  have hL : (l :: rest).length = rest.length + 1 := rfl
  generalize l :: rest = ls at *
  go_enter Try.func24, Try.ntmps24
  go_wp2_with fail
  go_loopw [3, 4] (fun v i wr => ∃ k : Nat, k ≤ rest.length + 1 ∧ i = .int .i64 k ∧ (foldL orL [] (ls.take k)).length ≤ 100 * k ∧ wr.ownsRow w.heap.size 3 1 v (foldL orL [] (ls.take k)).length ((foldL orL [] (ls.take k)).map (.int .i64)) ∧ Below w.heap.size w wr) (fun _ i _ => rest.length + 1 - (intOf i).toNat)
  case atStart => exact ⟨0, Nat.zero_le _, rfl, by simp [foldL], World.ownsRow_nil _ _ _ _, Below.refl _ _⟩
  case round =>
    obtain ⟨k, hk, rfl, hlen, hown, hb⟩ := hrel
    have hz := hb.size
    by_cases hlt : k < rest.length + 1
    · have hd : decide ((k : Int) < ((rest.length + 1 : Nat) : Int)) = true := by simp; omega
      have hj1 : (0 : Int) ≤ (k : Int) := by omega
      have hj2 : (k : Int) < ((rest.length + 1 : Nat) : Int) := by omega
      have hltl : k < ls.length := by omega
      obtain ⟨Ak, ck, hvk, hsk, hPk⟩ := (hE.below hb).get (k := k) hltl
      obtain ⟨b2, o2, u2, rfl, hb2, hx2, hc2⟩ := (hs.below hb (Nat.le_refl _)).at_ hlt
      obtain rfl : u2 = .slice Ak (ls[k]).length ck := by rw [hx2] at hvk; injection hvk
      have hPl := hPk.2.2
      have hskw := hsk.more hz
      clear hx2 hvk hPk hsk
      have hstep := foldL_step orL [] ls hltl
      have hopl := comb_refOr.1 (foldL orL [] (ls.take k)) ls[k]
      generalize hF : foldL orL [] (ls.take k) = F at *
      have hS := Sl.of_own hown
      go_wp2_with fail
      refine (comb_refOr.2 _ _ F ls[k] _ hS hskw (by omega)).mono ?_
      rintro e w3 ⟨v3, rfl, hown3, hb3⟩
      go_wp2_with fail
      go_roundw
      case rel => exact ⟨k + 1, by omega, by go_num, by rw [hstep]; omega, by rw [hstep]; exact own_base hown3 hz, hb.trans (hb3.mono hz)⟩
      case measure => simp [intOf]; omega
    · obtain rfl : k = rest.length + 1 := by omega
      have hd : decide (((rest.length + 1 : Nat) : Int) < ((rest.length + 1 : Nat) : Int)) = false := by simp
      rw [← hL, List.take_length] at hown
      go_wp2_with fail
      go_ret
      exact ⟨_, rfl, hown, hb⟩
end

theorem mg_nil : ∀ (f : Nat) (l : List Int), l.length ≤ f → mg (fun _ _ => true) f [] l = l
  | 0, [], _ => rfl
  | _ + 1, [], _ => rfl
  | f + 1, x :: xs, h => by simp only [mg, if_true]; rw [mg_nil f xs (by simpa using h)]; rfl
theorem or_nil (l : List Int) : orL [] l = l := mg_nil _ l (by simp)
end Go.Proofs.Ytihimbmbhmgjoaa
