/- Maps with ints as keys: which keys there are; the step of a range over such a map whose elements are strings. -/
import Derived.Test.YtgegmefnbkcdkaaDoorLib
import Derived.Maps.RangeWalk
import Derived.Maps.Views
import Derived.Maps.OwnOps
import Derived.Maps.StringElems
namespace Go.Proofs.YtgegmefnbkcdkaaDoor
open Go.RowKit Go.Maps
theorem lawI : Keyed Tryd.prog 3 := int_keyed Tryd.underlying3
theorem keyI {i : Int} (h : (Lit.int .i64 i).wf = true) : keyOf Tryd.prog 3 (.int .i64 i) = some (.int .i64 i) := keyOf_int_mk Tryd.underlying3 h
theorem wf_i64 {i : Int} (h0 : -9223372036854775808 ≤ i) (h1 : i ≤ 9223372036854775807) : (Lit.int .i64 i).wf = true := by
  simp [Lit.wf, IntKind.min, IntKind.max, IntKind.signed, IntKind.bits]
  omega
/-- The keys of a map. -/
def Kys (D : DataW Unit) (T : List Int) : Prop := IsMap D ∧ ∀ i : Int, has D (.int .i64 i) = T.contains i
theorem Kys.empty : Kys (.map []) [] := ⟨isMap_empty, fun _ => rfl⟩
theorem Kys.put {D : DataW Unit} {T : List Int} (h : Kys D T) (i : Int) (d : DataW Unit) : Kys (D.put (.int .i64 i) d) (T ++ [i]) := by
  refine ⟨h.1.put _ _, fun j => ?_⟩
  by_cases e : j = i
  · subst e
    rw [has_put_same h.1 (show WideAt.IsKeyLit (.int .i64 j) from trivial)]
    simp
  · rw [has_put_other (by intro e2; injection e2 with _ e2; exact e e2), h.2]
    simp [e]
/-- What a range over a map has visited. -/
def Vis (D : DataW Unit) (left : Lit → Bool) (ks : List Int) : Prop := ks.Nodup ∧ (∀ z, left z = (has D z && !ks.any fun x => z.sameKey (.int .i64 x))) ∧ ∀ x ∈ ks, has D (.int .i64 x) = true
theorem Vis.start (D : DataW Unit) : Vis D (has D) [] := ⟨List.nodup_nil, fun z => by simp, fun _ h => by cases h⟩
theorem sameKey_int (a b : Int) : (Lit.int .i64 a).sameKey (.int .i64 b) = decide (a = b) := by simp [Lit.sameKey]
theorem Vis.step {D : DataW Unit} {left : Lit → Bool} {ks : List Int} (h : Vis D left ks) {x : Int} (hl : left (.int .i64 x) = true) : Vis D (fun z => left z && !z.sameKey (.int .i64 x)) (ks ++ [x]) := by
  obtain ⟨h1, h2, h3⟩ := h
  have hx := h2 (.int .i64 x)
  rw [hl] at hx
  have hx' := hx.symm
  rw [Bool.and_eq_true] at hx'
  obtain ⟨ha, hb⟩ := hx'
  refine ⟨?_, fun z => ?_, fun y hy => ?_⟩
  · rw [List.nodup_append]
    refine ⟨h1, by simp, fun a ha' b hb' => ?_⟩
    rw [List.mem_singleton] at hb'
    subst hb'
    intro e
    subst e
    have : (ks.any fun y => (Lit.int .i64 a).sameKey (.int .i64 y)) = true := List.any_eq_true.2 ⟨a, ha', by rw [sameKey_int]; simp⟩
    rw [this] at hb
    cases hb
  · show (left z && !z.sameKey (Lit.int IntKind.i64 x)) = _
    rw [h2 z, List.any_append]
    simp [Bool.and_assoc]
  · rcases List.mem_append.1 hy with hy | hy
    · exact h3 y hy
    · rw [List.mem_singleton.1 hy]; exact ha
theorem Vis.done {D : DataW Unit} {left : Lit → Bool} {ks T : List Int} (h : Vis D left ks) (hd : ∀ z, left z = false) (hK : Kys D T) : ∀ i, i ∈ ks ↔ i ∈ T := by
  obtain ⟨_, h2, h3⟩ := h
  intro i
  constructor
  · intro hi
    have := h3 i hi
    rw [hK.2] at this
    simpa using this
  · intro hi
    have hh : has D (.int .i64 i) = true := by rw [hK.2]; simpa using hi
    have h4 := h2 (.int .i64 i)
    rw [hd, hh, Bool.true_and] at h4
    have h5 : (ks.any fun x => (Lit.int .i64 i).sameKey (.int .i64 x)) = true := by
      cases hq : ks.any fun x => (Lit.int .i64 i).sameKey (.int .i64 x)
      · rw [hq] at h4; cases h4
      · rfl
    obtain ⟨y, hy, e⟩ := List.any_eq_true.1 h5
    rw [sameKey_int] at e
    simp at e
    exact e ▸ hy
/-- The step of a range over such a map. -/
theorem wpList_next_is (w : World) {ops : Array Oper} {rest : List Oper} {o : Oper} {a : Act} {Q : Exit → Act → World → Prop} (hg : o.guard = none) (it : Operand) (hop : o.op = Op.next it false)
    (b r n : Nat) (D : DataW Unit) (left : Lit → Bool) (cnt : Nat) (hit : a.eval it = .pointer (some ⟨r, 0, none⟩)) (h : w.ranges Tryd.prog 3 (plainElem Tryd.prog 9) b r n D left cnt)
    (hDone : cnt = 0 → (∀ kl, left kl = false) → wpList Tryd.prog ops Q rest (a.put o.dst (.tuple #[.bool false])) w)
    (hMore : ∀ (x : Int) (s : ByteArray) (w' : World) (cnt' : Nat), (Lit.int .i64 x).wf = true → left (.int .i64 x) = true → w'.ranges Tryd.prog 3 (plainElem Tryd.prog 9) b r n D (fun z => left z && !z.sameKey (.int .i64 x)) cnt' → cnt' < cnt →
      w.grownBy w' (some r) → w'.heap.size = w.heap.size → (Instr.entry (.pointer (some ⟨r, 0, none⟩))).run Tryd.prog w' = .ok (.tuple #[.int .i64 x, .string s]) w' → wpList Tryd.prog ops Q rest (a.put o.dst (.tuple #[.bool true, .int .i64 x, .string s])) w') :
    wpList Tryd.prog ops Q (o :: rest) a w :=
  wpList_next_ranges w hg it hop 3 lawI (plainElem Tryd.prog 9) (Value.int .i64) Value.string (fun key kl hkey => by obtain ⟨x, rfl, _⟩ := Maps.keyOf_int_inv Tryd.underlying3 hkey; exact ⟨x, rfl⟩) (fun v y hv => by obtain ⟨c, rfl, _⟩ := plainElem_string_inv Tryd.underlying9 hv; exact ⟨c, rfl⟩)
    b r n D left cnt hit h (fun h0 hl => hDone h0 hl) (fun x c kl y w' cnt' hkey hlk hv hat hrg hlt hgr hsz hen => by
      obtain ⟨x', ex, rfl, hx⟩ := Maps.keyOf_int_inv Tryd.underlying3 hkey
      cases ex
      exact hMore x c w' cnt' hx hlk hrg hlt hgr hsz hen)
end Go.Proofs.YtgegmefnbkcdkaaDoor
