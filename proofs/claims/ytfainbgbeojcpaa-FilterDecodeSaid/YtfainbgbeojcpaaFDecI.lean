/- What the boxes of filter.Decode hold between two rounds of its loops. -/
import Derived.Test.YtfainbgbeojcpaaFRefL
import Derived.Test.YtfainbgbeojcpaaFBack
namespace Go.Proofs.Ytfainbgbeojcpaa
open Go.RowKit Go.Shelf

theorem cells_row {W : World} {b t : Nat} {cs : Array Value} {row : Option Nat} (h : Blk W b t cs) (hr : ∀ r, row = some r → ∃ o : Obj, W.heap[r]? = some o ∧ o.isCells = false) : some b ≠ row := by
  intro e
  obtain ⟨o, ho, hc⟩ := hr b e.symm
  rw [show W.heap[b]? = _ from h] at ho
  cases ho
  cases hc
theorem own_cells {w : World} {B e k : Nat} {v : Value} {xs : List Value} (h : w.ownsRow B e 1 v k xs) : ∀ i, v.ownBlock = some i → ∃ cur, w.heap[i]? = some (.cells cur e (0, 0)) := by
  intro i hi
  rcases h.2 with ⟨rfl, _⟩ | ⟨g, cap, cur, rfl, _, hg, _⟩
  · cases hi
  · obtain rfl : g = i := by simpa [Value.ownBlock] using hi
    exact ⟨cur, hg⟩
theorem own_rowF {W : World} {B e k : Nat} {v : Value} {xs : List Value} {row : Option Nat} (h : W.ownsRow B e 1 v k xs) (hr : ∀ r, row = some r → ∃ o : Obj, W.heap[r]? = some o ∧ o.isCells = false) : v.ownBlock = none ∨ v.ownBlock ≠ row := by
  cases hv : v.ownBlock with
  | none => exact .inl rfl
  | some i =>
    refine .inr fun e => ?_
    obtain ⟨cur, hg⟩ := own_cells h i hv
    obtain ⟨o, ho, hc⟩ := hr i e.symm
    rw [hg] at ho
    cases ho
    cases hc
theorem own_weak {W : World} {B B' e k : Nat} {v : Value} {xs : List Value} (h : W.ownsRow B e 1 v k xs) (hB : B' ≤ B) : W.ownsRow B' e 1 v k xs :=
  ⟨h.1, h.2.imp id (fun ⟨g, cap, cur, h1, h2, h3⟩ => ⟨g, cap, cur, h1, Nat.le_trans hB h2, h3⟩)⟩

/-- The filter under way; the iterator's two boxes. -/
structure FJ (w : World) (hh : Nat) (sv vb : Value) (ws : List Int) (wr : World) : Prop where
  f : Blk wr (w.heap.size + 1) 27 #[.int .i64 hh, vb]
  r : Blk wr w.heap.size 27 #[.int .i64 0, .slice none 0 0]
  bs : Boxed wr (w.heap.size + 2) 36 sv
  bn : Boxed wr (w.heap.size + 2 + 1) 3 (.int .i64 8)
  o : wr.ownsRow (w.heap.size + 4) 67 1 vb ws.length (ws.map (.int .u64))
  b : Below w.heap.size w wr
section
variable {w wr wr' w' : World} {hh : Nat} {sv vb v' : Value} {ws ws' : List Int}
theorem FJ.z (h : FJ w hh sv vb ws wr) : w.heap.size + 4 ≤ wr.heap.size := by have := h.bn.lt; omega
theorem FJ.own {row : Option Nat} (h : FJ w hh sv vb ws wr) (hg : wr.grownBy wr' row) (hr : ∀ r, row = some r → w.heap.size ≤ r ∧ ∃ o : Obj, wr.heap[r]? = some o ∧ o.isCells = false) : FJ w hh sv vb ws wr' := by
  have hr' := fun r e => (hr r e).2
  exact ⟨h.f.grown hg (cells_row h.f hr'), h.r.grown hg (cells_row h.r hr'), h.bs.kept hg (cells_row h.bs hr'), h.bn.kept hg (cells_row h.bn hr'), h.o.kept hg (own_rowF h.o hr'), h.b.grown hg h.b.size (fun k e => (hr k e).1)⟩
theorem fj_own {β : Type} {B : Nat} (hB : w.heap.size ≤ B) : OwnFrom B (fun (_ : β) W' => FJ w hh sv vb ws W') := fun _ _ _ _ hs hg hr => hs.own hg (fun r e => ⟨Nat.le_trans hB (hr r e).1, (hr r e).2⟩)
theorem FJ.alloc (h : FJ w hh sv vb ws wr) (o : Obj) : FJ w hh sv vb ws (wr.alloc o) := h.own (World.grownBy_alloc wr o none) (fun r e => by cases e)
theorem FJ.store (h : FJ w hh sv vb ws wr) {B : Nat} (hB : w.heap.size + 4 ≤ B) (hs : vb.ownBlock ≠ some B) (u : Value) : FJ w hh sv vb ws (wr.setCell ⟨B, 0, none⟩ u) :=
  ⟨h.f.far (p := ⟨B, 0, none⟩) (by simp; omega) u, h.r.far (p := ⟨B, 0, none⟩) (by simp; omega) u, h.bs.other (by omega) u, h.bn.other (by omega) u, h.o.kept (grownBy_setCell' wr B u) (.inr hs), h.b.setCell (p := ⟨B, 0, none⟩) (by simp; omega) u⟩
theorem FJ.kp (h : FJ w hh sv vb ws wr) (k : FJ w hh sv v' ws' wr') : Kp2 (w.heap.size + 2) (w.heap.size + 2 + 1) wr wr' := ⟨k.bs.cell.trans h.bs.cell.symm, k.bn.cell.trans h.bn.cell.symm⟩
theorem FJ.push {x : Int} {ob : Obj} (h : FJ w hh sv vb ws wr) (ho : w'.ownsRow (w.heap.size + 4) 67 1 v' (ws.length + 1) (ws.map (.int .u64) ++ [.int .u64 x])) (hg : (wr.alloc ob).grownBy w' vb.ownBlock) :
    FJ w hh sv v' (ws ++ [x]) (w'.setCell ⟨w.heap.size + 1, 1, none⟩ v') ∧ KeepsOthers wr (w'.setCell ⟨w.heap.size + 1, 1, none⟩ v') ∧ w'.cell? ⟨w.heap.size + 1, 1, none⟩ = some vb ∧ w'.frozen? ⟨w.heap.size + 1, 1, none⟩ = false := by
  have hg' : wr.grownBy w' vb.ownBlock := ⟨hg.os, hg.tape, hg.output, by have := hg.size; simp at this; omega, fun k hk hne => (hg.block k (by simp; omega) hne).trans (Below.heap_alloc wr _ k hk)⟩
  have hb : Below (w.heap.size + 4) wr w' := ⟨hg'.os, hg'.tape, hg'.output, hg'.size, fun k hk => hg'.block k (by have := h.z; omega) (fun e => by have := (h.o.lt k e.symm).1; omega)⟩
  have hf := h.f.below hb (by omega)
  have hr := h.r.below hb (by omega)
  have hbs : Boxed w' (w.heap.size + 2) 36 sv := (hb.block _ (by omega)).trans h.bs
  have hbn : Boxed w' (w.heap.size + 2 + 1) 3 (.int .i64 8) := (hb.block _ (by omega)).trans h.bn
  have hko : KeepsOthers wr w' := ⟨hg'.size, fun k o hk ho => (hg'.block k (Array.getElem?_eq_some_iff.1 hk).1 (fun e => by
    obtain ⟨cur, hc⟩ := own_cells h.o k e.symm
    rw [hc] at hk
    cases hk
    cases ho)).trans hk⟩
  have hoo : (w'.setCell ⟨w.heap.size + 1, 1, none⟩ v').ownsRow (w.heap.size + 4) 67 1 v' (ws ++ [x]).length ((ws ++ [x]).map (.int .u64)) := by
    have := ho.kept (grownBy_set (World.grownBy.refl w' (some (w.heap.size + 1))) 1 v') (Or.inr (fun e => by have := (ho.lt _ e).1; omega))
    rw [List.length_append, List.map_append]
    exact this
  have keepB : ∀ {k t : Nat} {u : Value}, Boxed w' k t u → k ≠ w.heap.size + 1 → Boxed (w'.setCell ⟨w.heap.size + 1, 1, none⟩ v') k t u := fun {k t u} hk hne => (Below.heap_setCell w' ⟨w.heap.size + 1, 1, none⟩ v' k (by simpa using hne)).trans hk
  exact ⟨⟨hf.set_ 1 v', hr.far (p := ⟨w.heap.size + 1, 1, none⟩) (by simp) v', keepB hbs (by omega), keepB hbn (by omega), hoo, (h.b.trans (hb.mono (by omega))).setCell (p := ⟨w.heap.size + 1, 1, none⟩) (by simp) v'⟩,
    hko.trans (KeepsOthers.setCell _ _ _), hf.cell2.2, hf.frozen 1⟩
theorem FJ.start (w : World) (hh q : Nat) (sv : Value) : FJ w hh sv (.slice none 0 0) [] ((((((w.alloc (.cells #[.int .i64 0, .slice none 0 0] 27)).drewN q).alloc (.cells #[.int .i64 hh, .slice none 0 0] 27)).alloc (.cells #[sv] 36)).alloc (.cells #[.int .i64 8] 3))) := by
  have h := FI.start w hh q
  obtain ⟨W1, hW1⟩ : ∃ W1, ((w.alloc (.cells #[.int .i64 0, .slice none 0 0] 27)).drewN q).alloc (.cells #[.int .i64 hh, .slice none 0 0] 27) = W1 := ⟨_, rfl⟩
  have hsz : W1.heap.size = w.heap.size + 2 := by
    rw [← hW1]
    have e : ((w.alloc (.cells #[.int .i64 0, .slice none 0 0] 27)).drewN q).heap.size = w.heap.size + 1 := World.size_alloc ..
    rw [World.size_alloc, e]
  rw [hW1] at h ⊢
  have b1 := Boxed.new W1 36 sv
  have b2 := Boxed.new (W1.alloc (.cells #[sv] 36)) 3 (.int .i64 8)
  rw [World.size_alloc] at b2
  rw [hsz] at b1 b2
  exact ⟨(h.f.alloc _).alloc _, (h.r.alloc _).alloc _, b1.alloc _, b2, World.ownsRow_nil _ _ _ _, (h.b.alloc (by omega) _).alloc (by simp; omega) _⟩
theorem FJ.done {w5 : World} {A : Option Addr} {m c D : Nat} {o' : Obj} (h : FJ w hh sv (.slice A m c) ws wr) (hb : Below wr.heap.size wr w5) (hD : w.heap.size + 4 ≤ D) (hK : wr.heap[D]? = some (.deferred (some []))) :
    ((w5.setCell ⟨w.heap.size, 0, none⟩ (.int .i64 hh)).setCell ⟨w.heap.size, 1, none⟩ (.slice A m c)).heap[D]? = some (.deferred (some [])) ∧
    Sl (((w5.setCell ⟨w.heap.size, 0, none⟩ (.int .i64 hh)).setCell ⟨w.heap.size, 1, none⟩ (.slice A m c)).putObj D o') (btw w.heap.size (((w5.setCell ⟨w.heap.size, 0, none⟩ (.int .i64 hh)).setCell ⟨w.heap.size, 1, none⟩ (.slice A m c)).putObj D o').heap.size) 1 (.slice A m c) ws.length (ws.map (.int .u64)) ∧
    Below w.heap.size w (((w5.setCell ⟨w.heap.size, 0, none⟩ (.int .i64 hh)).setCell ⟨w.heap.size, 1, none⟩ (.slice A m c)).putObj D o') := by
  have hz := h.z
  have hbw := h.b.trans (hb.mono (by omega))
  have hK5 : w5.heap[D]? = some (.deferred (some [])) := (hb.block D (Array.getElem?_eq_some_iff.1 hK).1).trans hK
  have hK7 : ((w5.setCell ⟨w.heap.size, 0, none⟩ (.int .i64 hh)).setCell ⟨w.heap.size, 1, none⟩ (.slice A m c)).heap[D]? = some (.deferred (some [])) :=
    ((Below.heap_setCell _ ⟨w.heap.size, 1, none⟩ _ D (by simp; omega)).trans (Below.heap_setCell _ ⟨w.heap.size, 0, none⟩ _ D (by simp; omega))).trans hK5
  have k1 := h.o.kept (grownBy_of_below hb none) (by cases hv : Value.ownBlock (.slice A m c) <;> simp)
  have k2 := k1.kept (grownBy_set (World.grownBy.refl w5 (some w.heap.size)) 0 (.int .i64 hh)) (Or.inr (fun e => by have := (k1.lt _ e).1; omega))
  have k3 := k2.kept (grownBy_set (World.grownBy.refl (w5.setCell ⟨w.heap.size, 0, none⟩ (.int .i64 hh)) (some w.heap.size)) 1 (.slice A m c)) (Or.inr (fun e => by have := (k2.lt _ e).1; omega))
  refine ⟨hK7, (Sl.of_own_btw (ownsRow_putObj k3 _ hK7 rfl)).mono (fun b hb => ⟨by have := hb.1; omega, hb.2⟩), ?_⟩
  exact ((hbw.setCell (p := ⟨w.heap.size, 0, none⟩) (Nat.le_refl _) _).setCell (p := ⟨w.heap.size, 1, none⟩) (Nat.le_refl _) _).trans (belowK_b (w := w) (Nat.le_refl _) _ D _ _ (by omega) hK7 rfl rfl)
/-- .. where the check says no. -/
theorem FJ.bad {w5 : World} {D : Nat} {o' : Obj} (h : FJ w hh sv vb ws wr) (hb : Below wr.heap.size wr w5) (hD : w.heap.size + 4 ≤ D) (hK : wr.heap[D]? = some (.deferred (some []))) (u v : Value) :
    ((w5.setCell ⟨w.heap.size, 0, none⟩ u).setCell ⟨w.heap.size, 1, none⟩ v).heap[D]? = some (.deferred (some [])) ∧
    Below w.heap.size w (((w5.setCell ⟨w.heap.size, 0, none⟩ u).setCell ⟨w.heap.size, 1, none⟩ v).putObj D o') := by
  have hz := h.z
  have hbw := h.b.trans (hb.mono (by omega))
  have hK5 : w5.heap[D]? = some (.deferred (some [])) := (hb.block D (Array.getElem?_eq_some_iff.1 hK).1).trans hK
  have hK7 : ((w5.setCell ⟨w.heap.size, 0, none⟩ u).setCell ⟨w.heap.size, 1, none⟩ v).heap[D]? = some (.deferred (some [])) :=
    ((Below.heap_setCell _ ⟨w.heap.size, 1, none⟩ _ D (by simp; omega)).trans (Below.heap_setCell _ ⟨w.heap.size, 0, none⟩ _ D (by simp; omega))).trans hK5
  exact ⟨hK7, ((hbw.setCell (p := ⟨w.heap.size, 0, none⟩) (Nat.le_refl _) _).setCell (p := ⟨w.heap.size, 1, none⟩) (Nat.le_refl _) _).trans (belowK_b (w := w) (Nat.le_refl _) _ D _ _ (by omega) hK7 rfl rfl)⟩
end

/-- What the inner loop folds. -/
def accF (zs : List UInt8) (pre : List Nat) : Nat := pre.foldl (fun v y => (v * 256 % 18446744073709551616) ||| (zs[y]?.getD 0).toNat) 0
theorem accF_push (zs : List UInt8) (pre : List Nat) (y : Nat) : accF zs (pre ++ [y]) = (accF zs pre * 256 % 18446744073709551616) ||| (zs[y]?.getD 0).toNat := by simp [accF]
theorem or_gen (v z : Nat) (hz : z < 256) : bits .or .u64 (IntKind.u64.wrap ((v : Int) * 256)) (z : Int) = (((v * 256 % 18446744073709551616) ||| z : Nat) : Int) := by
  have e1 : IntKind.u64.wrap ((v : Int) * 256) = ((v * 256 % 18446744073709551616 : Nat) : Int) := by
    simp only [IntKind.wrap, IntKind.bits, IntKind.signed]
    simp
  rw [e1]
  exact u64_or_nat _ z (by omega) (by omega)
theorem or_nat_add (v z : Nat) (hv : v < 72057594037927936) (hz : z < 256) : (v * 256 % 18446744073709551616) ||| z = v * 256 + z := by
  rw [Nat.mod_eq_of_lt (by omega)]
  have := Nat.shiftLeft_add_eq_or_of_lt (i := 8) (b := z) (by omega) v
  rw [Nat.shiftLeft_eq] at this
  exact this.symm
theorem accF_dn (zs : List UInt8) (hz : zs.length = 8) : ∀ k, k ≤ 8 → accF zs (dn8 k) = wordF (zs.drop (8 - k))
  | 0, _ => by rw [List.drop_of_length_le (by omega)]; rfl
  | k + 1, hk => by
    have ih := accF_dn zs hz k (by omega)
    have hl : 7 - k < zs.length := by omega
    have hd := wordF_drop zs (7 - k) hl
    have hb := wordF_lt (zs.drop (8 - k)) 7 (by rw [List.length_drop]; omega)
    rw [dn8_succ, accF_push, ih, List.getElem?_eq_getElem hl, Option.getD_some, or_nat_add _ _ (by simpa using hb) (UInt8.toNat_lt _)]
    rw [show 8 - (k + 1) = 7 - k by omega, hd, show 7 - k + 1 = 8 - k by omega]
theorem accF_all (zs : List UInt8) (hz : zs.length = 8) : accF zs (dn8 8) = wordF zs := by
  rw [accF_dn zs hz 8 (Nat.le_refl _)]
  rfl
theorem ChAll.words {n : Nat} {pre : List (ChAt (8 * n))} (h : ChAll pre) (f : Nat → Int) : pre.map (fun x => f x.1) = (List.range n).map (fun i => f (8 * i)) := by
  have hl : pre.length = n := by
    have h1 := h.2
    have h2 := h.1
    unfold ChPre at h2
    rcases Nat.lt_or_ge n pre.length with hlt | hge
    · have e := congrArg (fun l => l[n]?) h2
      simp only [List.getElem?_map, List.getElem?_range hlt, List.getElem?_eq_getElem hlt, Option.map_some, Option.some.injEq] at e
      have := pre[n].2.2
      omega
    · omega
  have h2 := h.1
  unfold ChPre at h2
  rw [hl] at h2
  have : pre.map (fun x => f x.1) = (pre.map (·.1)).map f := by rw [List.map_map]; rfl
  rw [this, h2, List.map_map]
  rfl
end Go.Proofs.Ytfainbgbeojcpaa
