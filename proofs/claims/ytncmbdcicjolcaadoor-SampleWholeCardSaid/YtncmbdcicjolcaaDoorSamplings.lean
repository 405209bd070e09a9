/- Rules of sampling: what Samplings makes, and both Weights. -/
import Derived.Test.YtncmbdcicjolcaaDoorSampleRef
import Derived.Test.YtncmbdcicjolcaaDoorMakeText
namespace Go.Proofs.YtncmbdcicjolcaaDoor
open Go.RowKit

theorem elSam : Elem Tryd.prog 29 33 2 24 (.agg #[.string .empty, .int .i64 0]) := ⟨Tryd.underlying29, by kernel_rfl, rfl, by decide⟩
/-- The cells of rules. -/
def sam (l : List (ByteArray × Int)) : List Value := l.flatMap fun p => [.string p.1, .int .i64 p.2]
theorem sam_snoc (l : List (ByteArray × Int)) (s : ByteArray) (x : Int) : sam (l ++ [(s, x)]) = sam l ++ [.string s, .int .i64 x] := by simp [sam]
theorem sam_len (l : List (ByteArray × Int)) : (sam l).length = l.length * 2 := by
  induction l with
  | nil => rfl
  | cons a l ih => simp [sam] at ih ⊢; omega
theorem sam_at (l : List (ByteArray × Int)) (k : Nat) (h : k < l.length) : (sam l)[k * 2]? = some (.string l[k].1) ∧ (sam l)[k * 2 + 1]? = some (.int .i64 l[k].2) := by
  induction l generalizing k with
  | nil => simp at h
  | cons a l ih =>
    cases k with
    | zero => simp [sam]
    | succ k =>
      have := ih k (by simpa using h)
      have e : (k + 1) * 2 = k * 2 + 2 := by omega
      simp only [sam, List.flatMap_cons] at this ⊢
      rw [e]
      simpa using this
theorem sam_one (l : List (ByteArray × Int)) : ∀ u ∈ sam l, u.oneCell' = true := by
  intro u hu
  simp only [sam, List.mem_flatMap] at hu
  obtain ⟨p, _, hp⟩ := hu
  simp at hp
  rcases hp with rfl | rfl <;> rfl
/-- The two cells of rule k. -/
theorem sam_cells {w : World} {S : Nat → Prop} {A : Option Addr} {c k : Nat} {l : List (ByteArray × Int)} (h : Sl w S 2 (.slice A l.length c) l.length (sam l)) (hk : k < l.length) :
    ∃ b o, A = some ⟨b, o, none⟩ ∧ S b ∧ w.cell? ⟨b, o + k * 2, none⟩ = some (.string l[k].1) ∧ w.cell? ⟨b, o + k * 2 + 1, none⟩ = some (.int .i64 l[k].2) := by
  obtain ⟨b, o, hA, hb, hrow⟩ := h.row (by omega)
  obtain ⟨h1, h2⟩ := sam_at l k hk
  exact ⟨b, o, hA, hb, hrow _ _ h1, by have := hrow _ _ h2; rwa [← Nat.add_assoc] at this⟩

/-- A weight. -/
def isWt : Option Value → Bool
  | some (.int .i64 x) => vld x
  | _ => false
theorem isWt_get {v : Option Value} (h : isWt v = true) : ∃ x : Int, v = some (.int .i64 x) ∧ vld x = true := by
  match v, h with
  | some (.int .i64 x), h => exact ⟨x, rfl, h⟩

def SamRes (w : World) (gc : Nat) (e : Ending) (w' : World) : Prop :=
  ∃ (v : Value) (l : List (ByteArray × Int)), e = .returned v ∧ l.length ≤ 2 ∧ (∀ p ∈ l, p.1.size ≤ 36 ∧ vld p.2 = true) ∧ w'.ownsRow w.heap.size 33 2 v l.length (sam l) ∧ Codes w' gc ∧ w.grownBy w' (some gc)

set_option maxHeartbeats 1000000 in
theorem samplings_any (gc : Nat) (w : World) (h : Codes w gc) : Calls Tryd.prog 11 #[.pointer (some ⟨gc, 0, none⟩)] w (SamRes w gc) := by
  have hl := h.lt_
  go_enter Tryd.func11, Tryd.ntmps11
  go_wp2_with fail
  refine (drawNext gc _ _ h (by omega) (by omega)).mono ?_
  rintro e w1 ⟨r, rfl, r0, r1, _, hC1, hg1⟩
  have r2 := r1 (by omega)
  clear r1
  go_wp2_with fail
  go_loopw [3, 4] (fun v n wr => ∃ (m : Int) (l : List (ByteArray × Int)), n = .int .i64 m ∧ 0 ≤ m ∧ m + l.length = r ∧ (∀ p ∈ l, p.1.size ≤ 36 ∧ vld p.2 = true) ∧ wr.ownsRow w.heap.size 33 2 v l.length (sam l) ∧ Codes wr gc ∧ w.grownBy wr (some gc))
    (fun _ n _ => (intOf n).toNat)
  case atStart => exact ⟨r, [], rfl, r0, by simp, by simp, World.ownsRow_nil _ _ _ _, hC1, hg1⟩
  case round =>
    clear hC1 hg1
    obtain ⟨m, l, rfl, hm0, hml, hll, hown, hC, hG⟩ := hrel
    have hm5 : m ≤ 5 := by omega
    have hl5 : (l.length : Int) ≤ 5 := by omega
    have HML := keep hml
    have HLL := keep hll
    clear hml hll
    by_cases hp : 0 < m
    · have hd : decide (0 < m) = true := by simpa using hp
      go_wp2_with fail
      refine (pick_lit gc _ _ _ hC (by rfl) (by omega) (by omega)).mono ?_
      rintro e w2 ⟨s2, rfl, hs2, hC2, hg2⟩
      replace hown := own_grown hown hg2 hl
      replace hG := grownBy_trans hG hg2
      clear hC hg2
      go_wp2_with fail
      refine (drawNext gc _ _ (hC2.alloc _) (by omega) (by omega)).mono ?_
      rintro e w3 ⟨q, rfl, q0, q1, _, hC3, hg3⟩
      have hz2 := hC2.lt_
      obtain ⟨k, rfl⟩ := Int.eq_ofNat_of_zero_le q0
      have hk : k < 6 := by have := q1 (by omega); omega
      obtain ⟨x, hx, hvx⟩ : ∃ x : Int, w3.cell? ⟨w2.heap.size, k, none⟩ = some (.int .i64 x) ∧ vld x = true := by
        obtain ⟨x, h1, h2⟩ := isWt_get (v := (#[.int .i64 1, .int .i64 2, .int .i64 5040, .int .i64 10, .int .i64 7, .int .i64 3] : Array Value)[k]?) (List.all_eq_true.1 (show ((List.range 6).all fun i => isWt (#[.int .i64 1, .int .i64 2, .int .i64 5040, .int .i64 10, .int .i64 7, .int .i64 3] : Array Value)[i]?) = true by decide) k (by simpa using hk))
        exact ⟨x, (((Blk.new w2 3 _).grown hg3 (fun e => by injection e; omega)).cell k).trans h1, h2⟩
      have i1 : (k : Int) < 6 := by omega
      replace hown := own_grown (hown.alloc (.cells #[.int .i64 1, .int .i64 2, .int .i64 5040, .int .i64 10, .int .i64 7, .int .i64 3] 3)) hg3 hl
      replace hG := grownBy_trans (grownBy_trans hG (World.grownBy_alloc _ _ _)) hg3
      clear hg3 q1 hC2
      have HVX := keep hvx
      clear hvx
      go_wp2_with (refine wpList_push elSam rfl rfl _ _ _ rfl rfl rfl w.heap.size _ (.agg #[.string s2, .int .i64 x]) _ _ rfl (fun _ => rfl) (fun _ => rfl) hown rfl (by simp [Value.cells, Value.oneCell']) (by omega) (by unfold maxLen; omega) (by omega) hG.size ?_; intro g cap w4 hown4 hb4 hg4 _ _)
      go_roundw
      case rel =>
        refine ⟨m - 1, l ++ [(s2, x)], by go_num, by omega, by have := HML.out; simp; omega, ?_, ?_, hC3.under hb4 hl, grownBy_below hG hb4⟩
        · intro p hp'
          rcases List.mem_append.1 hp' with h | h
          · exact HLL.out p h
          · simp at h; subst h; exact ⟨by show s2.size ≤ 36; omega, HVX.out⟩
        · rw [sam_snoc, List.length_append]
          exact hown4
      case measure => simp [intOf]; omega
    · have hd : decide (0 < m) = false := by simpa using hp
      go_wp2
      go_ret
      exact ⟨_, l, rfl, by have := HML.out; omega, HLL.out, hown, hC, hG⟩

/-- Does a rule apply to a trace? -/
def fits (t : ByteArray) (p : ByteArray × Int) : Bool := vld p.2 && pre p.1 t
/-- The weight of a trace. -/
def weightOf (l : List (ByteArray × Int)) (t : ByteArray) : Int := match l.find? (fits t) with | some p => p.2 | none => 1
def NoFit (l : List (ByteArray × Int)) (t : ByteArray) (k : Nat) : Prop := ∀ j (h : j < l.length), j < k → fits t l[j] = false
theorem weight_found {l : List (ByteArray × Int)} {t : ByteArray} {k : Nat} (hk : k < l.length) (hn : NoFit l t k) (hf : fits t l[k] = true) : weightOf l t = l[k].2 := by
  have : l.find? (fits t) = some l[k] := by
    rw [List.find?_eq_some_iff_getElem]
    refine ⟨hf, k, hk, rfl, fun j hj => ?_⟩
    rw [hn j (by omega) hj]; rfl
  rw [weightOf, this]
theorem weight_none {l : List (ByteArray × Int)} {t : ByteArray} (hn : NoFit l t l.length) : weightOf l t = 1 := by
  have : l.find? (fits t) = none := by
    rw [List.find?_eq_none]
    intro p hp
    obtain ⟨j, hj, rfl⟩ := List.getElem_of_mem hp
    rw [hn j hj hj]; simp
  rw [weightOf, this]
theorem NoFit.step {l : List (ByteArray × Int)} {t : ByteArray} {k : Nat} (h : NoFit l t k) (hk : k < l.length) (hf : fits t l[k] = false) : NoFit l t (k + 1) := by
  intro j hj hlt
  by_cases e : j = k
  · subst e; exact hf
  · exact h j hj (by omega)

set_option maxHeartbeats 1000000 in
theorem weight_any (v : Value) (l : List (ByteArray × Int)) (t : ByteArray) (w : World) (B : Nat) (hB : B ≤ w.heap.size) (hD : Divs w B) (h : Sl w (lt w.heap.size) 2 v l.length (sam l)) (hm : l.length ≤ 1000000) :
    Calls Tryd.prog 14 #[v, .string t] w fun e w' => e = .returned (.int .i64 (weightOf l t)) ∧ Below w.heap.size w w' := by
  obtain ⟨A, c, rfl, hc, h⟩ := h.form
  go_enter Tryd.func14, Tryd.ntmps14
  go_wp2_with fail
  go_loopw [6, 9] (fun _ i wr => ∃ k : Nat, k ≤ l.length ∧ i = .int .i64 k ∧ Hid (NoFit l t k) ∧ Below w.heap.size w wr) (fun _ i _ => l.length - (intOf i).toNat)
  case atStart => exact ⟨0, Nat.zero_le _, rfl, keep (fun j _ h => absurd h (by omega)), Below.refl _ _⟩
  case round =>
    obtain ⟨k, hk, rfl, hN, hbr⟩ := hrel
    by_cases hlt : k < l.length
    · obtain ⟨b, o, rfl, hb, hc0, hc1⟩ := sam_cells (h.below hbr (Nat.le_refl _)) hlt
      have hDr := hD.below (hbr.mono hB)
      have i1 : (k : Int) < (l.length : Int) := by omega
      obtain ⟨wo, rfl⟩ : ∃ wo : World, wo = wr := ⟨_, rfl⟩
      go_wp2_with fail
      have hDa : Divs (wo.alloc (.cells #[.string l[k].1, .int .i64 l[k].2] 33)) B := hDr.below ((Below.refl _ wo).alloc (Nat.le_trans hB hbr.size) _)
      have hba : Below w.heap.size w (wo.alloc (.cells #[.string l[k].1, .int .i64 l[k].2] 33)) := hbr.alloc hbr.size _
      refine (valid_any _ _ B hDa).mono ?_
      rintro e w1 ⟨he, rfl⟩
      cases hv : vld l[k].2
      · rw [hv] at he
        subst he
        have hF : fits t l[k] = false := by rw [fits, hv]; rfl
        have HF := keep hF
        clear hF hv
        go_wp2_with fail
        go_roundw
        case rel => exact ⟨k + 1, by omega, by go_num, keep (hN.out.step hlt HF.out), hba⟩
        case measure => simp [intOf]; omega
      · rw [hv] at he
        subst he
        have HV := keep hv
        clear hv
        go_wp2_with fail
        refine (strPrefix_any _ _ _).mono ?_
        rintro e w1 ⟨he, rfl⟩
        cases hp : pre l[k].1 t
        · rw [hp] at he
          subst he
          have hF : fits t l[k] = false := by rw [fits, HV.out, hp]; rfl
          have HF := keep hF
          clear hF hp
          go_wp2_with fail
          go_roundw
          case rel => exact ⟨k + 1, by omega, by go_num, keep (hN.out.step hlt HF.out), hba⟩
          case measure => simp [intOf]; omega
        · rw [hp] at he
          subst he
          have hF : fits t l[k] = true := by rw [fits, HV.out, hp]; rfl
          have HF := keep hF
          clear hF hp
          go_wp2_with fail
          go_ret
          exact ⟨ret_int (weight_found hlt hN.out HF.out).symm, hba⟩
    · obtain rfl : k = l.length := by omega
      go_wp2_with fail
      go_ret
      exact ⟨ret_int (weight_none hN.out).symm, hbr⟩

set_option maxHeartbeats 1000000 in
theorem refWeight_any (v : Value) (l : List (ByteArray × Int)) (t : ByteArray) (w : World) (S : Nat → Prop) (h : Sl w S 2 v l.length (sam l)) (hm : l.length ≤ 1000000) :
    Calls Tryd.prog 15 #[v, .string t] w fun e w' => e = .returned (.int .i64 (weightOf l t)) ∧ w = w' := by
  obtain ⟨A, c, rfl, hc, h⟩ := h.form
  go_enter Tryd.func15, Tryd.ntmps15
  go_wp2_with fail
  go_loop [5, 6] (fun i _ => ∃ k : Nat, k ≤ l.length ∧ i = .int .i64 k ∧ Hid (NoFit l t k)) (fun i _ => l.length - (intOf i).toNat)
  case atStart => exact ⟨0, Nat.zero_le _, rfl, keep (fun j _ h => absurd h (by omega))⟩
  case round =>
    obtain ⟨k, hk, rfl, hN⟩ := hrel
    by_cases hlt : k < l.length
    · obtain ⟨b, o, rfl, hb, hc0, hc1⟩ := sam_cells h hlt
      have i1 : (k : Int) < (l.length : Int) := by omega
      go_wp2_with fail
      refine (refValid_any _ _).mono ?_
      rintro e w1 ⟨he, rfl⟩
      cases hv : vld l[k].2
      · rw [hv] at he
        subst he
        have hF : fits t l[k] = false := by rw [fits, hv]; rfl
        have HF := keep hF
        clear hF hv
        go_wp2_with fail
        go_round
        case rel => exact ⟨k + 1, by omega, by go_num, keep (hN.out.step hlt HF.out)⟩
        case measure => simp [intOf]; omega
      · rw [hv] at he
        subst he
        have HV := keep hv
        clear hv
        generalize hpk : l[k].1 = pk at *
        have HPK := keep hpk
        clear hpk
        by_cases hlen : pk.size ≤ t.size
        · have d : decide (pk.size ≤ t.size) = true := by simpa using hlen
          cases hp : pre pk t
          · have hq : ((t.extract 0 pk.size).toList == pk.toList) = false := by rw [pre_list, hp]
            have hF : fits t l[k] = false := by rw [fits, HV.out, HPK.out, hp]; rfl
            have HF := keep hF
            clear hF hp
            go_wp2_with fail
            go_round
            case rel => exact ⟨k + 1, by omega, by go_num, keep (hN.out.step hlt HF.out)⟩
            case measure => simp [intOf]; omega
          · have hq : ((t.extract 0 pk.size).toList == pk.toList) = true := by rw [pre_list, hp]
            have hF : fits t l[k] = true := by rw [fits, HV.out, HPK.out, hp]; rfl
            have HF := keep hF
            clear hF hp
            go_wp2_with fail
            go_ret
            exact ⟨ret_int (weight_found hlt hN.out HF.out).symm, rfl⟩
        · have d : decide (pk.size ≤ t.size) = false := by simpa using hlen
          have hF : fits t l[k] = false := by rw [fits, HV.out, HPK.out, pre_short hlen]; rfl
          have HF := keep hF
          clear hF
          go_wp2_with fail
          go_round
          case rel => exact ⟨k + 1, by omega, by go_num, keep (hN.out.step hlt HF.out)⟩
          case measure => simp [intOf]; omega
    · obtain rfl : k = l.length := by omega
      go_wp2_with fail
      go_ret
      exact ⟨ret_int (weight_none hN.out).symm, rfl⟩
end Go.Proofs.YtncmbdcicjolcaaDoor
