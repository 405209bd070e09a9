/- Rows of our own that are edited in place: a store of many cells, copy, a longer view. No program in sight. -/
import Derived.Test.YtigogjlbemkhdaaGreatLib
import Derived.ArgAppend
import Derived.Laws.IdiomCopy
namespace Go.Proofs.YtigogjlbemkhdaaGreat
open Go.RowKit
section
variable {w : World} {base e size n g : Nat} {v : Value} {xs : List Value}
/-- A slice of our own that is not nil. -/
theorem own_at (h : w.ownsRow base e size v n xs) (hg : v.ownBlock = some g) : ∃ cap cur, v = .slice (some ⟨g, 0, none⟩) n cap ∧ base ≤ g ∧ w.heap[g]? = some (.cells cur e (0, 0)) ∧ n ≤ cap ∧ cap ≤ maxLen ∧ cur.size = cap * size ∧ cur.toList.take (n * size) = xs := by
  rcases h.2 with ⟨rfl, _⟩ | ⟨g', cap, cur, rfl, h1, h2, h3, h4, h5, h6⟩
  · cases hg
  · obtain rfl : g' = g := by injection hg
    exact ⟨cap, cur, rfl, h1, h2, h3, h4, h5, h6⟩
theorem own_mk {cap : Nat} {cur : Array Value} (h1 : base ≤ g) (h2 : w.heap[g]? = some (.cells cur e (0, 0))) (h3 : n ≤ cap) (h4 : cap ≤ maxLen) (h5 : cur.size = cap * size) :
    w.ownsRow base e size (.slice (some ⟨g, 0, none⟩) n cap) n (cur.toList.take (n * size)) :=
  ⟨by rw [List.length_take, Array.length_toList, h5, Nat.min_eq_left (Nat.mul_le_mul_right _ h3)], .inr ⟨g, cap, cur, rfl, h1, h2, h3, h4, h5, rfl⟩⟩
/-- A store into a row of our own. -/
theorem own_store (h : w.ownsRow base e size v n xs) (hg : v.ownBlock = some g) (o : Nat) (u : Value) : (w.setCell ⟨g, o, none⟩ u).ownsRow base e size v n (xs.set o u) := by
  obtain ⟨cap, cur, rfl, h1, h2, h3, h4, h5, rfl⟩ := own_at h hg
  have h7 := heap_setCell_same w g o cur e u h2
  have := own_mk (n := n) h1 h7 h3 h4 (by simpa using h5)
  rw [Array.toList_setIfInBounds, List.take_set] at this
  exact this
theorem splice_cons (xs : List Value) (o : Nat) (u : Value) (us : List Value) (h : o + (u :: us).length ≤ xs.length) :
    (xs.set o u).take (o + 1) ++ us ++ (xs.set o u).drop (o + 1 + us.length) = xs.take o ++ (u :: us) ++ xs.drop (o + (u :: us).length) := by
  simp only [List.length_cons] at h
  rw [List.take_succ_eq_append_getElem (by simp; omega), List.take_set_of_le (Nat.le_refl _), List.getElem_set_self, List.drop_set_of_lt (by omega)]
  simp only [List.append_assoc, List.cons_append, List.nil_append, List.length_cons]
  rw [show o + 1 + us.length = o + (us.length + 1) by omega]
theorem own_stores : ∀ (us : List Value) (o : Nat) {w : World} {xs : List Value}, w.ownsRow base e size v n xs → v.ownBlock = some g → o + us.length ≤ n * size → (w.setCells g o us).ownsRow base e size v n (xs.take o ++ us ++ xs.drop (o + us.length))
  | [], o, w, xs, h, _, _ => by simpa [World.setCells] using h
  | u :: us, o, w, xs, h, hg, ho => by
    have h1 := own_stores us (o + 1) (own_store h hg o u) hg (by simp only [List.length_cons] at ho; omega)
    rw [splice_cons xs o u us (by rw [h.1]; exact ho)] at h1
    exact h1
theorem grown_stores (g : Nat) : ∀ (us : List Value) (o : Nat) (w : World), w.grownBy (w.setCells g o us) (some g)
  | [], _, _ => World.grownBy.refl _ _
  | u :: us, o, w => grownBy_trans (grownBy_set (World.grownBy.refl w (some g)) o u) (grown_stores g us (o + 1) _)
/-- A row of our own, seen longer. -/
theorem own_longer {cap m : Nat} (h : w.ownsRow base e size (.slice (some ⟨g, 0, none⟩) n cap) n xs) (hm : n + m ≤ cap) :
    ∃ junk : List Value, junk.length = m * size ∧ w.ownsRow base e size (.slice (some ⟨g, 0, none⟩) (n + m) cap) (n + m) (xs ++ junk) := by
  obtain ⟨cap', cur, he, h1, h2, h3, h4, h5, rfl⟩ := own_at h rfl
  injection he with _ _ he
  subst he
  refine ⟨(cur.toList.drop (n * size)).take (m * size), ?_, ?_⟩
  · rw [List.length_take, List.length_drop, Array.length_toList, h5]
    have : (n + m) * size ≤ cap * size := Nat.mul_le_mul_right _ hm
    rw [Nat.add_mul] at this
    omega
  · have := own_mk (n := n + m) h1 h2 hm h4 h5
    rw [Nat.add_mul, List.take_add] at this
    exact this
/-- A row of our own, seen shorter. -/
theorem own_shorter {cap k : Nat} (h : w.ownsRow base e size (.slice (some ⟨g, 0, none⟩) n cap) n xs) (hk : k ≤ n) : w.ownsRow base e size (.slice (some ⟨g, 0, none⟩) k cap) k (xs.take (k * size)) := by
  obtain ⟨cap', cur, he, h1, h2, h3, h4, h5, rfl⟩ := own_at h rfl
  injection he with _ _ he
  subst he
  have := own_mk (n := k) h1 h2 (Nat.le_trans hk h3) h4 h5
  rw [List.take_take, Nat.min_eq_left (Nat.mul_le_mul_right _ hk)]
  exact this
theorem own_frozen (h : w.ownsRow base e size v n xs) (hg : v.ownBlock = some g) (i : Nat) : w.frozen? ⟨g, i, none⟩ = false := by
  obtain ⟨_, cur, _, _, h2, _⟩ := own_at h hg
  exact frozen_of_row w g i cur e h2
theorem own_some_cell (h : w.ownsRow base e size v n xs) (hg : v.ownBlock = some g) (i : Nat) (hi : i < n * size) : (w.cell? ⟨g, i, none⟩).isSome = true := by
  obtain ⟨cap, cur, _, _, h2, h3, _, h5, _⟩ := own_at h hg
  rw [cell_of_row w g i cur e (0, 0) h2]
  have : n * size ≤ cap * size := Nat.mul_le_mul_right _ h3
  rw [Array.getElem?_eq_getElem (by omega)]
  rfl
theorem own_cell (h : w.ownsRow base e size v n xs) (hg : v.ownBlock = some g) (i : Nat) (hi : i < n * size) : w.cell? ⟨g, i, none⟩ = xs[i]? := by
  have hl : i < xs.length := by rw [h.1]; exact hi
  have := h.cells hg i _ (List.getElem?_eq_getElem hl)
  rw [Addr.add_lit, Nat.zero_add] at this
  rw [this, List.getElem?_eq_getElem hl]
end
/-- copy of k cells, all read ahead of the first store. -/
theorem run_copy_k {P : Program} (w : World) (dT sT ty elem : TypeId) (size : Nat) (b o dLen dCap : Nat) (a : Addr) (sLen sCap : Nat) (cs : List Value)
    (hu : P.underlying dT = some (.slice elem)) (hs : (P.info? elem).map (·.size) = some size) (hn : cs.length = Nat.min sLen dLen * size)
    (hsrc : ∀ j v, cs[j]? = some v → w.cell? (a.add j) = some v) (hc : ∀ j, j < cs.length → (w.cell? ⟨b, o + j, none⟩).isSome = true) (hf : ∀ j, j < cs.length → w.frozen? ⟨b, o + j, none⟩ = false) (h1 : ∀ v ∈ cs, v.oneCell' = true) :
    (Builtin.copy_ #[dT, sT] ty #[.slice (some ⟨b, o, none⟩) dLen dCap, .slice (some a) sLen sCap]).run P w = .ok (goInt (Nat.min sLen dLen)) (w.setCells b o cs) := by
  have hl := run_loadCells_list (P := P) w a cs hsrc
  have hst := run_storeCells_cells (P := P) b o cs 0 w (by simpa using hc) (by simpa using hf) h1
  cases hq : P.info? elem with
  | none => simp [hq] at hs
  | some i =>
    have hi : i.size = size := by simpa [hq] using hs
    simp [Builtin.copy_, run_underlying hu, Builtin.lenOf, Builtin.firstCells, sizeOf, typeInfo, hq, hi, ← hn, hl, hst]
theorem Elem.size_ {P : Program} {t e size bytes : Nat} {z : Value} (E : Elem P t e size bytes z) : (P.info? e).map (·.size) = some size := by
  obtain ⟨i, hi, hz0, hz1, hz2⟩ := info_parts E.hi
  rw [hi, Option.map_some, hz1]
/-- 'copy(d, s)' into a row of our own. -/
theorem wpList_copyOwn {P : Program} {t e size bytes : Nat} {z : Value} (E : Elem P t e size bytes z) (w : World) {ops : Array Oper} {rest : List Oper} {o : Oper} {a : Act} {Q : Exit → Act → World → Prop} (hgd : o.guard = none) (d x : Operand)
    (ho : o.op = .call { callee := .builtin .copy, args := #[d, x], argTypes := #[t, t] }) {base n g : Nat} {v : Value} {xs : List Value} (hown : w.ownsRow base e size v n xs) (hg : v.ownBlock = some g)
    (at_ dLen dCap : Nat) (hd : a.eval d = .slice (some ⟨g, at_, none⟩) dLen dCap) (src : Addr) (sLen sCap : Nat) (hx : a.eval x = .slice (some src) sLen sCap) (cs : List Value) (hn : cs.length = Nat.min sLen dLen * size)
    (hsrc : ∀ j u, cs[j]? = some u → w.cell? (src.add j) = some u) (hin : at_ + cs.length ≤ n * size) (h1 : ∀ u ∈ cs, u.oneCell' = true)
    (h : ∀ w', w'.ownsRow base e size v n (xs.take at_ ++ cs ++ xs.drop (at_ + cs.length)) → w.grownBy w' (some g) → wpList P ops Q rest (a.put o.dst (goInt (Nat.min sLen dLen))) w') : wpList P ops Q (o :: rest) a w := by
  have hr := run_copy_k (P := P) w t t o.type e size g at_ dLen dCap src sLen sCap cs E.ht E.size_ hn hsrc (fun j hj => own_some_cell hown hg _ (by omega)) (fun j _ => own_frozen hown hg _) h1
  refine wpList_plain hgd fun K hK => ?_
  unfold Oper.wp execOp
  simp only [ho, resolve, invoke, builtin, Sem.run_bind, Sem.run_pure, Result.andThen_ok, List.map_toArray, List.map_cons, List.map_nil, hd, hx, hr]
  exact hK _ _ (h _ (own_stores cs at_ hown hg hin) (grown_stores g cs at_ w))
theorem step_copyOwn {P : Program} {t e size bytes : Nat} {z : Value} (El : Elem P t e size bytes z) (w : World) {ops : Array Oper} {o : Oper} {a : Act} {K : Act → World → Prop} {Q : Exit → Act → World → Prop} {E : Prop} (hgd : o.guard = none) (d x : Operand)
    (ho : o.op = .call { callee := .builtin .copy, args := #[d, x], argTypes := #[t, t] }) {base n g : Nat} {v : Value} {xs : List Value} (hown : w.ownsRow base e size v n xs) (hg : v.ownBlock = some g)
    (at_ dLen dCap : Nat) (hd : a.eval d = .slice (some ⟨g, at_, none⟩) dLen dCap) (src : Addr) (sLen sCap : Nat) (hx : a.eval x = .slice (some src) sLen sCap) (cs : List Value) (hn : cs.length = Nat.min sLen dLen * size)
    (hsrc : ∀ j u, cs[j]? = some u → w.cell? (src.add j) = some u) (hin : at_ + cs.length ≤ n * size) (h1 : ∀ u ∈ cs, u.oneCell' = true)
    (h : ∀ w', w'.ownsRow base e size v n (xs.take at_ ++ cs ++ xs.drop (at_ + cs.length)) → w.grownBy w' (some g) → K (a.put o.dst (goInt (Nat.min sLen dLen))) w') :
    if Region.wanted o (yielded ops a.tmps) = true then Oper.wp P o a w K Q else E := by
  rw [if_pos (by simp [Region.wanted, hgd])]
  have hr := run_copy_k (P := P) w t t o.type e size g at_ dLen dCap src sLen sCap cs El.ht El.size_ hn hsrc (fun j hj => own_some_cell hown hg _ (by omega)) (fun j _ => own_frozen hown hg _) h1
  unfold Oper.wp execOp
  simp only [ho, resolve, invoke, builtin, Sem.run_bind, Sem.run_pure, Result.andThen_ok, List.map_toArray, List.map_cons, List.map_nil, hd, hx, hr]
  exact h _ (own_stores cs at_ hown hg hin) (grown_stores g cs at_ w)
/-- 'append(s[:k], src...)' where there is room: in place. -/
theorem run_append_in {P : Program} {t e size bytes : Nat} {z : Value} (E : Elem P t e size bytes z) (w : World) (ty : TypeId) (g sLen sCap : Nat) (a : Addr) (m c : Nat) (news : List Value) (hl : news.length = m * size)
    (hnews : ∀ j u, news[j]? = some u → w.cell? (a.add j) = some u) (h1 : ∀ u ∈ news, u.oneCell' = true) (hroom : sLen + m ≤ sCap)
    (hc : ∀ j, j < news.length → (w.cell? ⟨g, sLen * size + j, none⟩).isSome = true) (hf : ∀ j, j < news.length → w.frozen? ⟨g, sLen * size + j, none⟩ = false) :
    (Builtin.append_ #[t, t] ty #[.slice (some ⟨g, 0, none⟩) sLen sCap, .slice (some a) m c]).run P w = .ok (.slice (some ⟨g, 0, none⟩) (sLen + m) sCap) (w.setCells g (sLen * size) news) := by
  obtain ⟨i, hi, hz0, hz1, hz2⟩ := info_parts E.hi
  have hf' := run_firstCells_some (P := P) w size m a m c news hl hnews
  have hst := run_storeCells_cells (P := P) g (sLen * size) news 0 w (by simpa using hc) (by simpa using hf) h1
  simp only [Nat.add_zero] at hst
  simp [Builtin.append_, run_underlying E.ht, sizeOf, typeInfo, hi, hz1, Builtin.lenOf, hroom, hf', Addr.add_lit, hst]
/-- 'append(s[:k], make(S, m)...)' where there is no room: a new row. -/
theorem run_append_zeros {P : Program} {t e size bytes : Nat} {z : Value} (E : Elem P t e size bytes z) (w : World) (tn ty : TypeId) (kn : IntKind) (htn : P.underlying tn = some (.int kn)) (b : Addr) (n cap : Nat) (olds : List Value) (hlo : olds.length = n * size)
    (holds : ∀ j u, olds[j]? = some u → w.cell? (b.add j) = some u) (m : Nat) (h0 : 0 < m) (hg : cap < n + m) (h63 : n + m ≤ maxLen) (hby : (n + m) * bytes ≤ 140737488355328) :
    ∃ (h' c' : Nat) (zs : List Value) (w' : World), (Builtin.append_ #[t, tn] ty #[.slice (some b) n cap, .int .i64 m]).run P w = .ok (.slice (some ⟨h', 0, none⟩) (n + m) c') w' ∧ zs.length = m * size ∧
      w'.ownsRow w.heap.size e size (.slice (some ⟨h', 0, none⟩) (n + m) c') (n + m) (olds ++ zs) ∧ Below w.heap.size w w' := by
  obtain ⟨i, hi, hz0, hz1, hz2⟩ := info_parts E.hi
  have hp := E.hp
  have hzs := E.hz
  have hge := grownCap_ge w (n + m) cap e
  have hcm : grownCap w (n + m) cap e ≤ maxLen := grownCap_le_maxLen w (n + m) cap e h63
  unfold maxLen at h63
  have hfit : Builtin.nextslicecap (n + m) cap * i.bytes ≤ 281474976710656 := growslice_fits hg (by rw [hz2]; exact hby)
  have hn : ¬ (n + m ≤ cap) := by omega
  have hw : IntKind.i64.wrap (m : Int) = m := by rw [IntKind.wrap_i64]; omega
  have h63' : ¬ (9223372036854775807 < ((n : Int) + (m : Int))) := by omega
  have h48' : ¬ (281474976710656 < Builtin.nextslicecap (n + m) cap * i.bytes) := by omega
  have hmb : m * i.bytes ≤ 281474976710656 := by
    have : m * bytes ≤ (n + m) * bytes := Nat.mul_le_mul_right _ (by omega)
    rw [hz2]; omega
  have h48i : ¬ (281474976710656 < (m : Int) * (i.bytes : Int)) := by
    rw [← Int.natCast_mul]
    omega
  have hneg : ¬ ((m : Int) < 0) := by omega
  have hns : ¬ (m * size = 0) := Nat.mul_ne_zero (by omega) (by omega)
  have hm0 : ¬ (m = 0) := by omega
  have hs0 : ¬ (size = 0) := by omega
  have hfo := run_firstCells_some (P := P) w.drew size n b n cap olds hlo (by simpa using holds)
  have hr : (Builtin.append_ #[t, tn] ty #[.slice (some b) n cap, .int .i64 m]).run P w = .ok (.slice (some ⟨w.heap.size, 0, none⟩) (n + m) (grownCap w (n + m) cap e))
      (w.drew.alloc (.cells (olds.toArray ++ Builtin.zeroCells z.cells m ++ Builtin.zeroCells z.cells (grownCap w (n + m) cap e - (n + m))) e)) := by
    simp [Builtin.append_, run_underlying E.ht, run_underlying htn, sizeOf, typeInfo, zeroValue, hi, hz0, hz1, asInt, asIntOf, hw, hneg, hn, h63', h48', h48i, Question.forced, hfo, newRow, grownCap]
    intro h
    exact absurd h hns
  refine ⟨_, _, (Builtin.zeroCells z.cells m).toList, _, hr, by rw [Array.length_toList, size_zeroCells, hzs], ?_, ?_⟩
  · have h7 := heap_alloc_new w.drew (.cells (olds.toArray ++ Builtin.zeroCells z.cells m ++ Builtin.zeroCells z.cells (grownCap w (n + m) cap e - (n + m))) e)
    have := own_mk (base := w.heap.size) (n := n + m) (size := size) (Nat.le_refl _) h7 hge hcm (by
      simp only [Array.size_append, List.size_toArray, size_zeroCells, hzs, hlo, ← Nat.add_mul]
      congr 1
      omega)
    have hl : (olds ++ (Builtin.zeroCells z.cells m).toList).length = (n + m) * size := by simp [size_zeroCells, hzs, hlo, Nat.add_mul]
    rw [Array.toList_append, Array.toList_append, ← hl, List.take_left] at this
    exact this
  · exact ((Below.refl _ w).drew).alloc (by simp) _
/-- 'clear(s)' at a part of a row of our own. -/
theorem run_clear_k {P : Program} {t e size bytes : Nat} {z : Value} (E : Elem P t e size bytes z) (h1 : ∀ u ∈ z.cells.toList, u.oneCell' = true) (w : World) (ty : TypeId) (b o n c : Nat) (hn : 0 < n)
    (hc : ∀ j, j < n * size → (w.cell? ⟨b, o + j, none⟩).isSome = true) (hf : ∀ j, j < n * size → w.frozen? ⟨b, o + j, none⟩ = false) :
    (Builtin.clear_ #[t] ty #[.slice (some ⟨b, o, none⟩) n c]).run P w = .ok (.tuple #[]) (w.setCells b o (Builtin.zeroCells z.cells n).toList) := by
  obtain ⟨i, hi, hz0, hz1, hz2⟩ := info_parts E.hi
  have hl : (Builtin.zeroCells z.cells n).toList.length = n * size := by rw [Array.length_toList, size_zeroCells, E.hz]
  have hst := run_storeCells_cells (P := P) b o (Builtin.zeroCells z.cells n).toList 0 w (by rw [hl]; simpa using hc) (by rw [hl]; simpa using hf) (by
    intro u hu
    simp only [Builtin.zeroCells, Array.toList_map, List.mem_map] at hu
    obtain ⟨j, hj, rfl⟩ := hu
    have hp : j % z.cells.size < z.cells.size := Nat.mod_lt _ (by have := E.hp; have := E.hz; omega)
    rw [getElem!_pos z.cells _ hp]
    exact h1 _ (Array.getElem_mem_toList hp))
  simp only [Nat.add_zero] at hst
  obtain ⟨m, rfl⟩ : ∃ m, n = m + 1 := ⟨n - 1, by omega⟩
  simp [Builtin.clear_, run_underlying E.ht, zeroValue, typeInfo, hi, hz0, hst]
theorem ins_list (xs junk news : List Value) (n i k : Nat) (hxl : xs.length = n * k) (hjl : junk.length = 1 * k) (hnl : news.length = k) (hi : i < n) :
    ((xs ++ junk).take ((i + 1) * k) ++ xs.drop (i * k) ++ (xs ++ junk).drop ((i + 1) * k + (xs.drop (i * k)).length)).take (i * k) ++ news ++
      ((xs ++ junk).take ((i + 1) * k) ++ xs.drop (i * k) ++ (xs ++ junk).drop ((i + 1) * k + (xs.drop (i * k)).length)).drop (i * k + news.length) = xs.take (i * k) ++ news ++ xs.drop (i * k) := by
  have e1 : (i + 1) * k = i * k + k := by rw [Nat.add_mul, Nat.one_mul]
  have e2 : (i + 1) * k ≤ n * k := Nat.mul_le_mul_right _ hi
  have h1 : ((xs ++ junk).take ((i + 1) * k)).length = i * k + k := by rw [List.length_take, List.length_append]; omega
  have h2 : (xs ++ junk).drop ((i + 1) * k + (xs.drop (i * k)).length) = [] := List.drop_eq_nil_of_le (by rw [List.length_append, List.length_drop]; omega)
  rw [h2, List.append_nil, hnl]
  have h3 : ((xs ++ junk).take ((i + 1) * k) ++ xs.drop (i * k)).take (i * k) = xs.take (i * k) := by
    rw [List.take_append_of_le_length (by omega), List.take_take, Nat.min_eq_left (by omega), List.take_append_of_le_length (by omega)]
  have h4 : ((xs ++ junk).take ((i + 1) * k) ++ xs.drop (i * k)).drop (i * k + k) = xs.drop (i * k) := by rw [← h1]; exact List.drop_left
  rw [h3, h4]
theorem ins_list2 (xs zs news : List Value) (n i k : Nat) (hxl : xs.length = n * k) (hzl : zs.length = (n + 1 - i) * k) (hnl : news.length = k) (hi : i < n) :
    ((xs.take (i * k) ++ zs).take (i * k) ++ news ++ (xs.take (i * k) ++ zs).drop (i * k + news.length)).take ((i + 1) * k) ++ xs.drop (i * k) ++
      ((xs.take (i * k) ++ zs).take (i * k) ++ news ++ (xs.take (i * k) ++ zs).drop (i * k + news.length)).drop ((i + 1) * k + (xs.drop (i * k)).length) = xs.take (i * k) ++ news ++ xs.drop (i * k) := by
  have e1 : (i + 1) * k = i * k + k := by rw [Nat.add_mul, Nat.one_mul]
  have e2 : i * k ≤ n * k := Nat.mul_le_mul_right _ (Nat.le_of_lt hi)
  have e3 : (n + 1 - i) * k = n * k + k - i * k := by rw [Nat.sub_mul, Nat.add_mul, Nat.one_mul]
  have h1 : (xs.take (i * k)).length = i * k := by rw [List.length_take]; omega
  have h2 : (xs.take (i * k) ++ zs).take (i * k) = xs.take (i * k) := by rw [List.take_append_of_le_length (by omega), List.take_take, Nat.min_self]
  rw [h2]
  have h3 : (xs.take (i * k) ++ news).length = (i + 1) * k := by rw [List.length_append, h1, hnl, e1]
  have h5 : (xs.take (i * k) ++ news ++ (xs.take (i * k) ++ zs).drop (i * k + news.length)).drop ((i + 1) * k + (xs.drop (i * k)).length) = [] := by
    refine List.drop_eq_nil_of_le ?_
    simp only [List.length_append, List.length_drop, List.length_take]
    omega
  rw [h5, List.append_nil, List.take_append_of_le_length (by omega), ← h3, List.take_length]
theorem grownBy_fresh {a b c : World} {row : Option Nat} {g : Nat} (h : a.grownBy b row) (k : b.grownBy c (some g)) (hg : a.heap.size ≤ g) : a.grownBy c row :=
  ⟨k.os.trans h.os, k.tape.trans h.tape, k.output.trans h.output, Nat.le_trans h.size k.size, fun i hi hne => (k.block i (Nat.lt_of_lt_of_le hi h.size) (by intro e; injection e with e; omega)).trans (h.block i hi hne)⟩
/-- 'append(s[:k], s[j:]...)' in place, as a step of a region that draws. -/
theorem step_appendIn {P : Program} {t e size bytes : Nat} {z : Value} (El : Elem P t e size bytes z) (w : World) {ops : Array Oper} {o : Oper} {a : Act} {K : Act → World → Prop} {Q : Exit → Act → World → Prop} {E : Prop} (hgd : o.guard = none) (d x : Operand)
    (ho : o.op = .call { callee := .builtin .append, args := #[d, x], argTypes := #[t, t] }) {base n g cap : Nat} {xs : List Value} (hown : w.ownsRow base e size (.slice (some ⟨g, 0, none⟩) n cap) n xs)
    (k : Nat) (hd : a.eval d = .slice (some ⟨g, 0, none⟩) k cap) (src : Addr) (m sCap : Nat) (hx : a.eval x = .slice (some src) m sCap) (cs : List Value) (hn : cs.length = m * size)
    (hsrc : ∀ j u, cs[j]? = some u → w.cell? (src.add j) = some u) (hin : k + m ≤ n) (hnc : n ≤ cap) (h1 : ∀ u ∈ cs, u.oneCell' = true)
    (h : ∀ w', w'.ownsRow base e size (.slice (some ⟨g, 0, none⟩) n cap) n (xs.take (k * size) ++ cs ++ xs.drop (k * size + cs.length)) → w.grownBy w' (some g) → K (a.put o.dst (.slice (some ⟨g, 0, none⟩) (k + m) cap)) w') :
    if Region.wanted o (yielded ops a.tmps) = true then Oper.wp P o a w K Q else E := by
  rw [if_pos (by simp [Region.wanted, hgd])]
  have hfit : k * size + cs.length ≤ n * size := by rw [hn, ← Nat.add_mul]; exact Nat.mul_le_mul_right _ hin
  have hr := run_append_in El w o.type g k cap src m sCap cs hn hsrc h1 (by omega) (fun j hj => own_some_cell hown rfl _ (by omega)) (fun j _ => own_frozen hown rfl _)
  unfold Oper.wp execOp
  simp only [ho, resolve, invoke, builtin, Sem.run_bind, Sem.run_pure, Result.andThen_ok, List.map_toArray, List.map_cons, List.map_nil, hd, hx, hr]
  exact h _ (own_stores cs _ hown rfl hfit) (grown_stores g cs _ w)
/-- 'clear(s)' at a part of a row of our own. -/
theorem wpList_clearOwn {P : Program} {t e size bytes : Nat} {z : Value} (E : Elem P t e size bytes z) (h1 : ∀ u ∈ z.cells.toList, u.oneCell' = true) (w : World) {ops : Array Oper} {rest : List Oper} {o : Oper} {a : Act} {Q : Exit → Act → World → Prop} (hgd : o.guard = none) (d : Operand)
    (ho : o.op = .call { callee := .builtin .clear, args := #[d], argTypes := #[t] }) {base n g : Nat} {v : Value} {xs : List Value} (hown : w.ownsRow base e size v n xs) (hg : v.ownBlock = some g)
    (at_ dLen dCap : Nat) (hd : a.eval d = .slice (some ⟨g, at_, none⟩) dLen dCap) (hp : 0 < dLen) (hin : at_ + dLen * size ≤ n * size)
    (h : ∀ w' zs, zs.length = dLen * size → w'.ownsRow base e size v n (xs.take at_ ++ zs ++ xs.drop (at_ + zs.length)) → w.grownBy w' (some g) → wpList P ops Q rest (a.put o.dst (.tuple #[])) w') : wpList P ops Q (o :: rest) a w := by
  have hr := run_clear_k E h1 w o.type g at_ dLen dCap hp (fun j hj => own_some_cell hown hg _ (by omega)) (fun j _ => own_frozen hown hg _)
  have hl : (Builtin.zeroCells z.cells dLen).toList.length = dLen * size := by rw [Array.length_toList, size_zeroCells, E.hz]
  refine wpList_plain hgd fun K hK => ?_
  unfold Oper.wp execOp
  simp only [ho, resolve, invoke, builtin, Sem.run_bind, Sem.run_pure, Result.andThen_ok, List.map_toArray, List.map_cons, List.map_nil, hd, hr]
  exact hK _ _ (h _ _ hl (own_stores _ at_ hown hg (by rw [hl]; exact hin)) (grown_stores g _ at_ w))
/-- What is left of a row behind the deletion of element i. -/
theorem del_list (xs zs : List Value) (n i k d : Nat) (hxl : xs.length = n * k) (hi : i < n) :
    ((xs.take (i * k) ++ xs.drop ((i + 1) * k) ++ xs.drop (i * k + (xs.drop ((i + 1) * k)).length)).take ((n - 1) * k) ++ zs ++
      (xs.take (i * k) ++ xs.drop ((i + 1) * k) ++ xs.drop (i * k + (xs.drop ((i + 1) * k)).length)).drop d).take ((n - 1) * k) = xs.take (i * k) ++ xs.drop ((i + 1) * k) := by
  have e1 : (i + 1) * k = i * k + k := by rw [Nat.add_mul, Nat.one_mul]
  have e2 : (i + 1) * k ≤ n * k := Nat.mul_le_mul_right _ hi
  have e3 : (n - 1) * k = n * k - k := by rw [Nat.sub_mul, Nat.one_mul]
  have h1 : (xs.take (i * k) ++ xs.drop ((i + 1) * k)).length = (n - 1) * k := by rw [List.length_append, List.length_take, List.length_drop]; omega
  rw [← h1, List.take_left, List.append_assoc, List.take_left]
theorem own_empty2 (w : World) (e size : Nat) : (w.alloc (.cells #[] e)).ownsRow w.heap.size e size (.slice (some ⟨w.heap.size, 0, none⟩) 0 0) 0 [] := own_empty w e size
theorem own_bel {w w' : World} {base e size n : Nat} {v : Value} {xs : List Value} (h : w.ownsRow base e size v n xs) (hb : Below w.heap.size w w') : w'.ownsRow base e size v n xs :=
  h.kept (row := none) ⟨hb.os, hb.tape, hb.output, hb.size, fun i hi _ => hb.block i hi⟩ (by cases v.ownBlock <;> simp)
theorem own_sl {w : World} {base e size n : Nat} {v : Value} {xs : List Value} (h : w.ownsRow base e size v n xs) : ∃ A c, v = .slice A n c ∧ n ≤ c := by
  rcases h.2 with ⟨rfl, rfl⟩ | ⟨g, cap, cur, rfl, _, _, hnc, _⟩
  · exact ⟨_, _, rfl, Nat.le_refl _⟩
  · exact ⟨_, _, rfl, hnc⟩
end Go.Proofs.YtigogjlbemkhdaaGreat
