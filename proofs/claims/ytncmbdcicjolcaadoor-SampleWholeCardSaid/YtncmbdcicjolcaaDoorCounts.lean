/- Maps from strings to counts: what a map reads as after some increments, and the step of a range over such a map. -/
import Derived.Test.YtncmbdcicjolcaaDoorApply
import Derived.Maps.RangeWalk
import Derived.Maps.Views
import Derived.Maps.OwnOps
import Derived.Maps.OwnSet
import Derived.StringKeys
namespace Go.Proofs.YtncmbdcicjolcaaDoor
open Go.RowKit Go.Maps

theorem law9 : Keyed Tryd.prog 9 := string_keyed Tryd.underlying9
theorem zero3 (w : World) : (zeroValue 3).run Tryd.prog w = .ok (.int .i64 0) w := by kernel_rfl
theorem key9 {s : ByteArray} (h : s.size ≤ maxLen) : keyOf Tryd.prog 9 (.string s) = some (.string s.data.toList) := Go.WideMaps.keyOf_string_mk Tryd.underlying9 h
/-- The map reads as the numbers of the strings in a list. -/
def Cnt (D : DataW Unit) (T : List (List UInt8)) : Prop := IsMap D ∧ ∀ l zd, D.atKey (.string l) zd = if T.count l = 0 then zd else .lit (.int .i64 (T.count l))
theorem Cnt.empty : Cnt (.map []) [] := ⟨isMap_empty, fun l zd => by rfl⟩
theorem Cnt.step {D : DataW Unit} {T : List (List UInt8)} (h : Cnt D T) (l : List UInt8) {c : Int} (hc : c = T.count l + 1) : Cnt (D.put (.string l) (.lit (.int .i64 c))) (T ++ [l]) := by
  refine ⟨h.1.put _ _, fun m zd => ?_⟩
  rw [List.count_append]
  by_cases hm : m = l
  · subst hm
    rw [atKey_put_same h.1 (show WideAt.IsKeyLit (.string m) from trivial)]
    rw [if_neg (by simp)]
    rw [hc]
    simp
  · rw [atKey_put_other (by intro e; injection e with e; exact hm e), h.2]
    simp [Ne.symm hm]
theorem Cnt.look {D : DataW Unit} {T : List (List UInt8)} (h : Cnt D T) {l : List UInt8} {c : Int} (hat : D.atKey (.string l) (.lit (.int .i64 0)) = .lit (.int .i64 c)) : c = T.count l := by
  rw [h.2] at hat
  split at hat
  · next h0 => rw [h0]; injection hat with hat; injection hat with _ hat; exact hat.symm
  · injection hat with hat; injection hat with _ hat; exact hat.symm
theorem Cnt.entry {D : DataW Unit} {T : List (List UInt8)} (h : Cnt D T) {l : List UInt8} {c : Int} (hat : ∀ zd, D.atKey (.string l) zd = .lit (.int .i64 c)) : c = T.count l ∧ T.count l ≠ 0 := by
  have h1 := hat (.lit (.int .i64 (c + 1)))
  rw [h.2] at h1
  split at h1
  · injection h1 with h1; injection h1 with _ h1; omega
  · next h0 => injection h1 with h1; injection h1 with _ h1; exact ⟨h1.symm, h0⟩
theorem keyOf_string_inv9 {key : Value} {kl : Lit} (h : keyOf Tryd.prog 9 key = some kl) : ∃ s : ByteArray, key = .string s ∧ kl = .string s.data.toList ∧ s.size ≤ maxLen := by
  obtain ⟨s, rfl⟩ : ∃ s, key = .string s := by
    cases key <;> simp [keyOf, Tryd.underlying9, mapKey] at h
    exact ⟨_, rfl⟩
  simp [keyOf, Tryd.underlying9, mapKey] at h
  exact ⟨s, rfl, h.2.symm, h.1⟩
/-- The step of a range over such a map. -/
theorem wpList_next_si (w : World) {ops : Array Oper} {rest : List Oper} {o : Oper} {a : Act} {Q : Exit → Act → World → Prop} (hg : o.guard = none) (it : Operand) (hop : o.op = Op.next it false)
    (b r n : Nat) (D : DataW Unit) (left : Lit → Bool) (cnt : Nat) (hit : a.eval it = .pointer (some ⟨r, 0, none⟩)) (h : w.ranges Tryd.prog 9 (plainElem Tryd.prog 3) b r n D left cnt)
    (hDone : cnt = 0 → wpList Tryd.prog ops Q rest (a.put o.dst (.tuple #[.bool false])) w)
    (hMore : ∀ (s : ByteArray) (c : Int) (w' : World) (cnt' : Nat), s.size ≤ maxLen → (∀ zd, D.atKey (.string s.data.toList) zd = .lit (.int .i64 c)) → w'.ranges Tryd.prog 9 (plainElem Tryd.prog 3) b r n D (fun z => left z && !z.sameKey (.string s.data.toList)) cnt' → cnt' < cnt →
      w.grownBy w' (some r) → w'.heap.size = w.heap.size → (Instr.entry (.pointer (some ⟨r, 0, none⟩))).run Tryd.prog w' = .ok (.tuple #[.string s, .int .i64 c]) w' → wpList Tryd.prog ops Q rest (a.put o.dst (.tuple #[.bool true, .string s, .int .i64 c])) w') :
    wpList Tryd.prog ops Q (o :: rest) a w :=
  wpList_next_ranges w hg it hop 9 law9 (plainElem Tryd.prog 3) Value.string (Value.int .i64) (fun key kl hkey => by obtain ⟨x, rfl, _⟩ := keyOf_string_inv9 hkey; exact ⟨x, rfl⟩) (fun v y hv => by obtain ⟨c, rfl, _⟩ := plainElem_int_inv Tryd.underlying3 hv; exact ⟨c, rfl⟩)
    b r n D left cnt hit h (fun h0 _ => hDone h0) (fun x c kl y w' cnt' hkey hlk hv hat hrg hlt hgr hsz hen => by
      obtain ⟨x', ex, rfl, hx⟩ := keyOf_string_inv9 hkey
      cases ex
      obtain ⟨c', ec, rfl, hwc⟩ := plainElem_int_inv Tryd.underlying3 hv
      cases ec
      exact hMore x c w' cnt' hx hat hrg hlt hgr hsz hen)
/-- The traces of events. -/
def trs (E : List Ev) : List (List UInt8) := E.map fun e => e.tr.data.toList
theorem trs_take {E : List Ev} {k : Nat} (hk : k < E.length) : trs (E.take (k + 1)) = trs (E.take k) ++ [E[k].tr.data.toList] := by
  unfold trs
  rw [List.take_succ_eq_append_getElem hk, List.map_append]
  rfl
theorem trs_count_le (E : List Ev) (l : List UInt8) : (trs E).count l ≤ E.length := by
  have := List.count_le_length (l := trs E) (a := l)
  simpa [trs] using this
theorem ba_eq {a b : ByteArray} (h : a.data.toList = b.data.toList) : a = b := by
  cases a; cases b
  simp only [ByteArray.mk.injEq]
  exact Array.ext' h
/-- Events with one trace are kept or dropped together. -/
theorem smp_whole (l : List (ByteArray × Int)) (key : Int) (E : List Ev) (s : ByteArray) : (trs (smp l key E)).count s.data.toList = if keepB key s (weightOf l s) = true then (trs E).count s.data.toList else 0 := by
  induction E with
  | nil => simp [smp, trs]
  | cons e E ih =>
    have hc : smp l key (e :: E) = if keepB key e.tr (weightOf l e.tr) = true then { e with wt := weightOf l e.tr } :: smp l key E else smp l key E := by
      unfold smp
      cases h : keepB key e.tr (weightOf l e.tr) <;> simp [h]
    have ht : trs (e :: E) = e.tr.data.toList :: trs E := rfl
    rw [hc, ht]
    by_cases hs : e.tr.data.toList = s.data.toList
    · have := ba_eq hs
      have hx : ∀ (wt : Int) (Y : List Ev), trs ({ e with wt := wt } :: Y) = e.tr.data.toList :: trs Y := fun _ _ => rfl
      rw [← this] at ih ⊢
      split
      · next hk =>
        rw [if_pos hk] at ih
        rw [hx, List.count_cons_self, List.count_cons_self, ih]
      · next hk => rw [ih, if_neg hk]
    · have hn : (trs (if keepB key e.tr (weightOf l e.tr) = true then { e with wt := weightOf l e.tr } :: smp l key E else smp l key E)).count s.data.toList = (trs (smp l key E)).count s.data.toList := by
        split
        · have hx : trs ({ e with wt := weightOf l e.tr } :: smp l key E) = e.tr.data.toList :: trs (smp l key E) := rfl
          rw [hx, List.count_cons_of_ne hs]
        · rfl
      rw [hn, ih, List.count_cons_of_ne hs]
end Go.Proofs.YtncmbdcicjolcaaDoor
