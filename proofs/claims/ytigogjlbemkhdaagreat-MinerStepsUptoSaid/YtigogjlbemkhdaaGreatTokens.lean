/- template.Tokens: the tokens of a line. -/
import Derived.Test.YtigogjlbemkhdaaGreatTmAdd
import Derived.Test.YtigogjlbemkhdaaGreatShelf
namespace Go.Proofs.YtigogjlbemkhdaaGreat
open Go.RowKit Go.Lib
def spR (r : Nat) : Bool := decide (r = 32) || decide (r = 9)
def dgR (r : Nat) : Bool := decide (48 ≤ r) && decide (r ≤ 57)
theorem isSp (w : World) : PredAt Tryz.prog 68 #[] encR spR w := fun W r _ => by
  unfold FnGives
  rcases Nat.lt_trichotomy r 32 with h | rfl | h
  · by_cases h9 : r = 9
    · subst h9
      go_enter Tryz.func68, Tryz.ntmps68
      go_wp2
      go_ret
      exact ⟨rfl, 0, rfl⟩
    · have e1 : ((r : Int) == 32) = false := by simp; omega
      have e2 : ((r : Int) == 9) = false := by simp; omega
      have e3 : spR r = false := by simp [spR]; omega
      rw [e3]
      clear e3
      go_enter Tryz.func68, Tryz.ntmps68
      go_wp2
      go_ret
      exact ⟨rfl, 0, rfl⟩
  · go_enter Tryz.func68, Tryz.ntmps68
    go_wp2
    go_ret
    exact ⟨rfl, 0, rfl⟩
  · have e1 : ((r : Int) == 32) = false := by simp; omega
    have e2 : ((r : Int) == 9) = false := by simp; omega
    have e3 : spR r = false := by simp [spR]; omega
    rw [e3]
    clear e3
    go_enter Tryz.func68, Tryz.ntmps68
    go_wp2
    go_ret
    exact ⟨rfl, 0, rfl⟩
theorem isDg (w : World) : PredAt Tryz.prog 69 #[] encR dgR w := fun W r _ => by
  unfold FnGives
  by_cases h1 : 48 ≤ r <;> by_cases h2 : r ≤ 57
  all_goals
    have e3 : dgR r = (decide (48 ≤ r) && decide (r ≤ 57)) := rfl
    have z1 : (48 : Int) ≤ (r : Int) ↔ 48 ≤ r := by omega
    have z2 : (r : Int) ≤ 57 ↔ r ≤ 57 := by omega
    simp only [h1, h2, decide_true, decide_false, Bool.and_true, Bool.and_false] at e3
    rw [e3]
    clear e3
    go_enter Tryz.func69, Tryz.ntmps69
    go_wp2
    all_goals first | (exfalso; omega) | (go_ret; exact ⟨by first | rfl | simp, 0, rfl⟩)
def flds (s : ByteArray) : List ByteArray := Lib.goFieldsP spR s
theorem fields_any (s : ByteArray) (w : World) (hs : s.size ≤ 4294967296) : Calls Tryz.prog 46 #[.string s] w
    fun x w' => ∃ v, x = .returned v ∧ w'.ownsRow w.heap.size 9 1 v (flds s).length ((flds s).map .string) ∧ Below w.heap.size w w' := by
  have hc := Tryz.strings_FieldsFunc 68 #[] (fun args w => by kernel_rfl) spR s w hs (isSp w)
  have HC := keep hc
  clear hc
  go_enter Tryz.func46, Tryz.ntmps46
  go_wp2_with fail
  refine HC.out.mono ?_
  rintro e w1 ⟨A, rfl, _, ho, hb⟩
  have HO := keep ho
  clear ho
  go_wp2_with fail
  go_ret
  exact ⟨_, rfl, HO.out, hb⟩
def vr (s : ByteArray) : ByteArray := if 0 ≤ Lib.idxFunc dgR true s then ⟨#[]⟩ else s
theorem variable_any (s : ByteArray) (w : World) : Calls Tryz.prog 47 #[.string s] w fun x w' => x = .returned (.string (vr s)) ∧ Below w.heap.size w w' := by
  have hc := Tryz.strings_IndexFunc 69 #[] (fun args w => by kernel_rfl) dgR s w (isDg w)
  obtain ⟨n, hn⟩ : ∃ n, Lib.idxFunc dgR true s = n := ⟨_, rfl⟩
  have hv : vr s = if 0 ≤ n then ⟨#[]⟩ else s := by unfold vr; rw [hn]
  rw [hn] at hc
  rw [hv]
  have HC := keep hc
  clear hc hv hn
  by_cases h : 0 ≤ n
  · rw [if_pos h]
    go_enter Tryz.func47, Tryz.ntmps47
    go_wp2_with fail
    refine HC.out.mono ?_
    rintro e w1 ⟨rfl, hb⟩
    go_wp2_with fail
    go_ret
    exact ⟨rfl, hb⟩
  · rw [if_neg h]
    go_enter Tryz.func47, Tryz.ntmps47
    go_wp2_with fail
    refine HC.out.mono ?_
    rintro e w1 ⟨rfl, hb⟩
    go_wp2_with fail
    go_ret
    exact ⟨rfl, hb⟩
def tokF (l : List ByteArray) : Option (List ByteArray) := if l.length = 0 ∨ 60 < l.length then none else some (l.map vr)
def toks (s : ByteArray) : Option (List ByteArray) := tokF (flds s)
theorem mid_get {α : Type} (f : α → α) {l : List α} {k : Nat} (h : k < l.length) : ((l.take k).map f ++ l.drop k)[k]? = some l[k] := by
  have hl : ((l.take k).map f).length = k := by rw [List.length_map, List.length_take]; omega
  rw [List.getElem?_append_right (by omega), hl, Nat.sub_self, List.getElem?_drop, Nat.add_zero, List.getElem?_eq_getElem h]
theorem mid_set {α : Type} (f : α → α) {l : List α} {k : Nat} (h : k < l.length) : ((l.take k).map f ++ l.drop k).set k (f l[k]) = (l.take (k + 1)).map f ++ l.drop (k + 1) := by
  have hl : ((l.take k).map f).length = k := by rw [List.length_map, List.length_take]; omega
  rw [List.set_append_right _ _ (by omega), hl, Nat.sub_self, List.drop_eq_getElem_cons h, List.set_cons_zero, List.take_succ_eq_append_getElem h, List.map_append, List.append_assoc]
  rfl
def TokRes (o : Option (List ByteArray)) (w : World) (x : Ending) (w' : World) : Prop :=
  ∃ (v : Value) (T : List ByteArray), x = .returned (.tuple #[v, .bool o.isSome]) ∧ T = o.getD [] ∧ T.length ≤ 60 ∧ w'.ownsRow w.heap.size 9 1 v T.length (T.map .string) ∧ Below w.heap.size w w'
set_option maxHeartbeats 2000000 in
theorem tokens_any (s : ByteArray) (w : World) (hs : s.size ≤ 4294967296) : Calls Tryz.prog 26 #[.string s] w (TokRes (toks s) w) := by
  have HF := keep (fields_any s w hs)
  unfold toks
  generalize flds s = l at HF
  go_enter Tryz.func26, Tryz.ntmps26
  go_wp2_with fail
  refine HF.out.mono ?_
  rintro e w1 ⟨v, rfl, ho, hb⟩
  obtain ⟨A, c, rfl, _⟩ := own_sl ho
  have HO := keep ho
  clear ho HF
  by_cases h0 : l.length = 0
  · have ht : tokF l = none := if_pos (.inl h0)
    have h0' : (l.length : Int) = 0 := by omega
    have HT := keep ht
    clear ht
    go_wp2_with fail
    go_ret2
    exact ⟨_, [], by rw [HT.out]; rfl, by rw [HT.out]; rfl, by simp, World.ownsRow_nil _ _ _ _, hb⟩
  · by_cases h60 : 60 < l.length
    · have ht : tokF l = none := if_pos (.inr h60)
      have h0' : ¬ ((l.length : Int) = 0) := by omega
      have h1' : (60 : Int) < (l.length : Int) := by omega
      have d1 : ((l.length : Int) == 0) = false := by simpa using h0
      have HT := keep ht
      clear ht
      go_wp2_with fail
      go_ret2
      exact ⟨_, [], by rw [HT.out]; rfl, by rw [HT.out]; rfl, by simp, World.ownsRow_nil _ _ _ _, hb⟩
    · have ht : tokF l = some (l.map vr) := if_neg (by omega)
      have h0' : ¬ ((l.length : Int) = 0) := by omega
      have h1' : ¬ ((60 : Int) < (l.length : Int)) := by omega
      have h60' : l.length ≤ 60 := by omega
      have d1 : ((l.length : Int) == 0) = false := by simpa using h0
      have d2 : decide ((60 : Int) < (l.length : Int)) = false := by simpa using h1'
      have HT := keep ht
      clear ht h60
      go_wp2_with fail
      obtain ⟨g, hg⟩ : ∃ g, A = some ⟨g, 0, none⟩ := by
        rcases HO.out.2 with ⟨_, hz⟩ | ⟨g, cap, cur, hv, _⟩
        · exact absurd hz h0
        · injection hv with hv; exact ⟨g, hv⟩
      subst hg
      go_loopw [5, 6, 19] (fun _ _ i wr => ∃ k : Nat, k ≤ l.length ∧ i = .int .i64 k ∧ Hid (wr.ownsRow w.heap.size 9 1 (.slice (some ⟨g, 0, none⟩) l.length c) l.length (((l.take k).map vr ++ l.drop k).map .string)) ∧ Hid (Below w.heap.size w wr)) (fun _ _ i _ => l.length - (intOf i).toNat)
      case atStart => exact ⟨0, Nat.zero_le _, rfl, keep (by simpa using HO.out), keep hb⟩
      case round =>
        obtain ⟨k, hk, rfl, hO, hB⟩ := hrel
        obtain ⟨wo, rfl⟩ : ∃ wo : World, wo = wr := ⟨_, rfl⟩
        by_cases hlt : k < l.length
        · have hk2 : (((l.take k).map vr ++ l.drop k).map Value.string)[k]? = some (.string l[k]) := by rw [List.getElem?_map, mid_get vr hlt]; rfl
          have c0 : wo.cell? ⟨g, k, none⟩ = some (.string l[k]) := (own_cell hO.out rfl k (by omega)).trans hk2
          have hset : (((l.take k).map vr ++ l.drop k).map Value.string).set k (.string (vr l[k])) = (((l.take (k + 1)).map vr ++ l.drop (k + 1)).map Value.string) := by rw [← mid_set vr hlt, List.map_set]
          generalize l[k] = t at c0 hset
          have HSET := keep hset
          clear hset hk2
          have i1 : (k : Int) < (l.length : Int) := by omega
          have i2 : (k : Int) ≤ 1048576 := by omega
          go_wp2_with fail
          refine (variable_any t wo).mono ?_
          rintro e w2 ⟨rfl, hb2⟩
          have ho2 := own_bel hO.out hb2
          have f0 : w2.frozen? ⟨g, k, none⟩ = false := own_frozen ho2 rfl k
          have c2 : w2.cell? ⟨g, k, none⟩ = some (.string t) := (hb2.cell (p := ⟨g, k, none⟩) (hO.out.lt g rfl).2).trans c0
          have hst := own_store ho2 rfl k (.string (vr t))
          rw [HSET.out] at hst
          have hgw : w.heap.size ≤ g := (hO.out.lt g rfl).1
          have hbn := (hB.out.trans (hb2.mono hB.out.size)).setCell (p := ⟨g, k, none⟩) hgw (.string (vr t))
          have HST := keep hst
          clear hst ho2
          go_wp2_with fail
          go_roundw
          case rel => exact ⟨k + 1, by omega, by go_num, HST, keep hbn⟩
          case measure => simp [intOf]; omega
        · obtain rfl : k = l.length := by omega
          go_wp2_with fail
          go_ret2
          refine ⟨_, l.map vr, by rw [HT.out]; rfl, by rw [HT.out]; rfl, by rw [List.length_map]; exact h60', ?_, hB.out⟩
          have := hO.out
          rw [List.take_length, List.drop_length, List.append_nil] at this
          rw [List.length_map]
          exact this
end Go.Proofs.YtigogjlbemkhdaaGreat
