/- append onto a row of the call's own, elements of one cell: the old row reads as before. -/
import Derived.Test.YtgegmefnbkcdkaaLib
namespace Go.Proofs.Ytgegmefnbkcdkaa
open Go.RowKit

theorem run_append_keep {P : Program} {t e bytes : Nat} {z : Value} (E : Elem P t e 1 bytes z) (ty : TypeId) (w : World) (base g n cap : Nat) (xs : List Value) (hown : w.ownsRow base e 1 (.slice (some ⟨g, 0, none⟩) n cap) n xs)
    (S : Nat → Prop) (vx : Value) (m : Nat) (news : List Value) (hsrc : Sl w S 1 vx m news) (hm : 0 < m) (h1 : ∀ u ∈ news, u.oneCell' = true)
    (h63 : n + m ≤ maxLen) (hby : (n + m) * bytes ≤ 140737488355328) (hbase : base ≤ w.heap.size) :
    ∃ v' w', (Builtin.append_ #[t, t] ty #[.slice (some ⟨g, 0, none⟩) n cap, vx]).run P w = .ok v' w' ∧ w'.ownsRow base e 1 v' (n + m) (xs ++ news) ∧ Below base w w' ∧ w.grownBy w' (some g) ∧ w'.ownsRow base e 1 (.slice (some ⟨g, 0, none⟩) n cap) n xs := by
  obtain ⟨i, hi, hz0, hz1, hz2⟩ := info_parts E.hi
  obtain ⟨A, c, rfl, hc, hsrc⟩ := hsrc.form
  obtain ⟨b, o, rfl, hb, hrow⟩ := hsrc.row hm
  have hl : news.length = m * i.size := by rw [hz1]; exact hsrc.1
  have hnews : ∀ j u, news[j]? = some u → w.cell? ((⟨b, o, none⟩ : Addr).add j) = some u := fun j u hu => by rw [Addr.add_lit]; exact hrow j u hu
  have hsmall : n + m ≤ 9223372036854775807 := by simp only [maxLen] at h63; omega
  have hlen : (xs ++ news).length = (n + m) * 1 := by rw [List.length_append, hown.1, hsrc.1, Nat.add_mul]
  have hnl : news.length = m := by have := hsrc.1; omega
  have hxl : xs.length = n := by have := hown.1; omega
  rcases hown.2 with ⟨h0, _⟩ | ⟨g', cap', cur, hv, hbg, hg, hnc, hcm, hcs, htake⟩
  · cases h0
  injection hv with hv1 hv2 hv3
  injection hv1 with hv1
  injection hv1 with hv1
  subst hv1 hv3
  have hgl : g < w.heap.size := (Array.getElem?_eq_some_iff.1 hg).1
  by_cases hroom : n + m ≤ cap
  · have hr := run_append_room (P := P) w t ty e i E.ht hi g n cap cur hg ⟨b, o, none⟩ m c news hl hnews h1 hroom (by rw [hz1]; omega)
    rw [hz1] at hr
    refine ⟨_, _, hr, ⟨hlen, .inr ⟨g, cap, _, rfl, hbg, setRow_heap w g cur _ e _ hg, hroom, hcm, ?_, ?_⟩⟩, ?_, ?_, ⟨hown.1, .inr ⟨g, cap, _, rfl, hbg, setRow_heap w g cur _ e _ hg, hnc, hcm, ?_, ?_⟩⟩⟩
    · simp; omega
    · rw [htake, ← hlen]
      exact List.take_left
    · exact ⟨rfl, rfl, rfl, by simp, fun k hk => setRow_other w g k _ (by omega)⟩
    · exact ⟨rfl, rfl, rfl, by simp, fun k _ hk => setRow_other w g k _ (fun e => hk (by rw [e]))⟩
    · simp; omega
    · rw [htake]
      show List.take (n * 1) (xs ++ news ++ _) = xs
      rw [List.append_assoc, List.take_append_of_le_length (by omega), List.take_of_length_le (by omega)]
  · have holds : ∀ j u, xs[j]? = some u → w.cell? ((⟨g, 0, none⟩ : Addr).add j) = some u := hown.cells (g := g) rfl
    have hr := run_append_grow (P := P) w t ty e i z E.ht hi hz0 ⟨g, 0, none⟩ n cap xs (by rw [hz1]; exact hown.1) holds ⟨b, o, none⟩ m c news hl hnews (by omega) (by omega) (growslice_fits (by omega) (by rw [hz2]; exact hby))
    have hge := grownCap_ge w (n + m) cap e
    have hle := grownCap_le_maxLen w (n + m) cap e h63
    have hga : ∀ O : Obj, w.grownBy (w.drew.alloc O) none := fun O => ⟨rfl, rfl, rfl, by simp, fun k hk _ => Below.heap_alloc w.drew O k hk⟩
    refine ⟨_, _, hr, ⟨hlen, .inr ⟨w.heap.size, _, _, rfl, hbase, heap_alloc_new w.drew _, hge, hle, ?_, ?_⟩⟩, ?_, ?_, hown.kept (hga _) (by simp [Value.ownBlock])⟩
    · have := E.hz
      simp only [Array.size_append, List.size_toArray, size_zeroCells, this]
      omega
    · simp only [Array.toList_append, List.append_assoc]
      rw [← List.append_assoc, ← hlen]
      exact List.take_left
    · exact ⟨rfl, rfl, rfl, by simp, fun k hk => Below.heap_alloc w.drew _ k (by simp; omega)⟩
    · exact ⟨rfl, rfl, rfl, by simp, fun k hk _ => Below.heap_alloc w.drew _ k (by simpa using hk)⟩
theorem step_append_keep {P : Program} {t e bytes : Nat} {z : Value} (El : Elem P t e 1 bytes z) {ops : Array Oper} {o : Oper} {a : Act} {w : World} {K : Act → World → Prop} {Q : Exit → Act → World → Prop} {E : Prop} (hgd : o.guard = none)
    (s x : Operand) (ho : o.op = .call { callee := .builtin .append, args := #[s, x], argTypes := #[t, t] })
    (base g n cap : Nat) (xs : List Value) (hs : a.eval s = .slice (some ⟨g, 0, none⟩) n cap) (hown : w.ownsRow base e 1 (.slice (some ⟨g, 0, none⟩) n cap) n xs)
    (S : Nat → Prop) (vx : Value) (m : Nat) (news : List Value) (hx : a.eval x = vx) (hsrc : Sl w S 1 vx m news) (hm : 0 < m) (h1 : ∀ u ∈ news, u.oneCell' = true)
    (h63 : n + m ≤ maxLen) (hby : (n + m) * bytes ≤ 140737488355328) (hbase : base ≤ w.heap.size)
    (h : ∀ v' w', w'.ownsRow base e 1 v' (n + m) (xs ++ news) → Below base w w' → w.grownBy w' (some g) → w'.ownsRow base e 1 (.slice (some ⟨g, 0, none⟩) n cap) n xs → K (a.put o.dst v') w') :
    if Region.wanted o (yielded ops a.tmps) = true then Oper.wp P o a w K Q else E := by
  rw [if_pos (by simp [Region.wanted, hgd])]
  obtain ⟨v', w', hr, h2, h3, h4, h5⟩ := run_append_keep El o.type w base g n cap xs hown S vx m news hsrc hm h1 h63 hby hbase
  unfold Oper.wp execOp
  simp only [ho, resolve, invoke, builtin, Sem.run_bind, Sem.run_pure, Result.andThen_ok, List.map_toArray, List.map_cons, List.map_nil, hs, hx, hr]
  exact h v' w' h2 h3 h4 h5
/-- The slice of one element that 'append(xs, x)' makes first. -/
theorem sl_one (w : World) (t : TypeId) (u : Value) : Sl (w.alloc (.cells #[u] t)) (fun _ => True) 1 (.slice (some ⟨w.heap.size, 0, none⟩) 1 1) 1 [u] := by
  refine ⟨rfl, _, 1, rfl, Nat.le_refl _, fun _ => ⟨w.heap.size, 0, rfl, trivial, fun j v hv => ?_⟩⟩
  have hj : j = 0 := by have := (List.getElem?_eq_some_iff.1 hv).1; simp at this; omega
  subst hj
  simp at hv
  subst hv
  simp
end Go.Proofs.Ytgegmefnbkcdkaa
