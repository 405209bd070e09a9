/- 'append(s[:i:i], x)': a slice without room is copied. -/
import Derived.Test.YtkjhnipjhefndaaLib
import Derived.ArgAppend
namespace Go.Proofs.Ytkjhnipjhefndaa
open Go.RowKit

theorem wpList_pushFull {P : Program} {t e size bytes : Nat} {z : Value} (E : Elem P t e size bytes z) {ops : Array Oper} {rest : List Oper} {o1 o2 : Oper} {a : Act} {w : World} {Q : Exit → Act → World → Prop}
    (hg1 : o1.guard = none) (hg2 : o2.guard = none) (x s : Operand) (d : Tmp) (hd : o1.dst = some d) (ho1 : o1.op = .buildSlice t 1 #[(0, x)])
    (ho2 : o2.op = .call { callee := .builtin .append, args := #[s, .tmp d], argTypes := #[t, t] })
    (S : Nat → Prop) (ao : Option Addr) (u : Value) (n : Nat) (xs : List Value) (hx : a.eval x = u) (hs : ∀ q, (a.put (some d) q).eval s = .slice ao n n) (hdv : ∀ q, (a.put (some d) q).eval (.tmp d) = q)
    (hsl : Sl w S size (.slice ao n n) n xs) (hS : ∀ b, S b → b < w.heap.size) (hu : u.cells.size = size) (h1 : ∀ c ∈ u.cells.toList, c.oneCell' = true) (hsz : size ≤ 16777216)
    (h63 : n + 1 ≤ maxLen) (hby : (n + 1) * bytes ≤ 140737488355328)
    (h : ∀ g cap w', w'.ownsRow w.heap.size e size (.slice (some ⟨g, 0, none⟩) (n + 1) cap) (n + 1) (xs ++ u.cells.toList) → Below w.heap.size w w' →
      wpList P ops Q rest ((a.put (some d) (.slice (some ⟨w.heap.size, 0, none⟩) 1 1)).put o2.dst (.slice (some ⟨g, 0, none⟩) (n + 1) cap)) w') :
    wpList P ops Q (o1 :: o2 :: rest) a w := by
  obtain ⟨i, hi, hz0, hz1, hz2⟩ := info_parts E.hi
  cases ao with
  | none =>
    obtain rfl : n = 0 := by
      rcases Nat.eq_zero_or_pos n with h0 | h0
      · exact h0
      · obtain ⟨_, _, h, _⟩ := hsl.row h0; cases h
    obtain rfl : xs = [] := List.eq_nil_of_length_eq_zero (by simpa using hsl.1)
    exact wpList_push E hg1 hg2 x s d hd ho1 ho2 w.heap.size (.slice none 0 0) u 0 [] hx hs hdv (World.ownsRow_nil w _ e size) hu h1 hsz h63 hby (Nat.le_refl _) fun g cap w' h2 h3 _ _ _ => h g cap w' h2 h3
  | some ad =>
    have holds : ∀ j c, xs[j]? = some c → (w.alloc (.cells u.cells e)).cell? (ad.add j) = some c := by
      intro j c hc
      rcases Nat.eq_zero_or_pos n with h0 | h0
      · subst h0
        obtain rfl : xs = [] := List.eq_nil_of_length_eq_zero (by simpa using hsl.1)
        simp at hc
      · obtain ⟨b, o, hA, hb, hrow⟩ := hsl.row h0
        injection hA with hA
        subst hA
        rw [Addr.add_lit]
        exact (((Below.refl _ w).alloc (Nat.le_refl _) (.cells u.cells e)).cell (p := ⟨b, o + j, none⟩) (hS b hb)).trans (hrow j c hc)
    refine wpList_plain hg1 fun K hK => ?_
    unfold Oper.wp execOp
    simp only [ho1, hx, Sem.run_bind, Sem.run_pure, List.map_toArray, List.map_cons, List.map_nil, run_buildSlice_one E u hu hsz, Result.andThen_ok]
    rw [Oper.upon_value, hd]
    refine hK _ _ ?_
    refine wpList_plain hg2 fun K hK => ?_
    obtain ⟨v', w', hrun, r1, r2⟩ := run_append_arg_grows (P := P) (w.alloc (.cells u.cells e)) t o2.type e i z size bytes E.ht hi hz0 hz1 hz2 E.hz E.hp ad n n xs hsl.1 holds
      ⟨w.heap.size, 0, none⟩ 1 1 u.cells.toList (by simp [hu])
      (fun j c hc => by
        rw [Addr.add_lit]
        have hc' : u.cells[j]? = some c := by simpa using hc
        simpa using hc') (by omega) h63 hby
    unfold Oper.wp execOp
    simp only [ho2, resolve, invoke, builtin, Sem.run_bind, Sem.run_pure, Result.andThen_ok, List.map_toArray, List.map_cons, List.map_nil, hs, hdv, hrun]
    refine hK _ _ ?_
    have hb1 : Below w.heap.size w w' := ⟨r2.os, r2.tape, r2.output, by have := r2.size; simp at this; omega, fun k hk => (r2.block k (by simp; omega) (by simp)).trans (Below.heap_alloc w _ k hk)⟩
    rcases r1.2 with ⟨_, hn⟩ | ⟨g, cap, cur, rfl, _⟩
    · omega
    · exact h g cap w' (own_base r1 (by simp)) hb1
end Go.Proofs.Ytkjhnipjhefndaa
