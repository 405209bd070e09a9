/- A strings.Builder that the call itself has made: contracts of copyCheck, WriteByte, Write and String. -/
import Derived.Test.YtimldjlegbdldaaRepairRef
import Derived.Test.YtimldjlegbdldaaSeqT
import Derived.Test.YtimldjlegbdldaaShelf
import Derived.Lib.OthersKept
namespace Go.Proofs.Ytimldjlegbdldaa
open Go.RowKit

theorem own_cells5 {w : World} {B e k : Nat} {v : Value} {xs : List Value} (h : w.ownsRow B e 1 v k xs) : ∀ i, v.ownBlock = some i → ∃ cur fz, w.heap[i]? = some (.cells cur e fz) := by
  intro i hi
  rcases h.2 with ⟨rfl, _⟩ | ⟨g, cap, cur, rfl, _, hg, _⟩
  · cases hi
  · obtain rfl : g = i := by simpa [Value.ownBlock] using hi
    exact ⟨cur, _, hg⟩
/-- The builder in block b holds the bytes l. -/
def Bld (w : World) (B b : Nat) (l : List UInt8) : Prop :=
  ∃ p v, (p = none ∨ p = some ⟨b, 0, none⟩) ∧ Blk w b 62 #[.pointer p, v] ∧ w.ownsRow B 5 1 v l.length (l.map ub) ∧ B ≤ b
/-- What a writer keeps. -/
structure WrB (B b : Nat) (w w' : World) : Prop where
  below : Below B w w'
  oth : Lib.OthersKept 5 (some b) w w'
theorem WrB.refl (B b : Nat) (w : World) : WrB B b w w := ⟨Below.refl _ _, Lib.OthersKept.refl _ _ _⟩
theorem WrB.drew (B b : Nat) (w : World) : WrB B b w w.drew := ⟨(Below.refl _ _).drew, (Lib.OthersKept.refl _ _ _).drew⟩
theorem WrB.trans {B b : Nat} {x y z : World} (h : WrB B b x y) (k : WrB B b y z) : WrB B b x z := ⟨h.below.trans k.below, h.oth.trans k.oth⟩
theorem WrB.boxed {B b k t : Nat} {w w' : World} {u : Value} (h : WrB B b w w') (hk : Boxed w k t u) (hne : k ≠ b) (ht : t ≠ 5) : Boxed w' k t u :=
  h.oth k _ hk (fun e => hne (by injection e)) (fun c fz e => by injection e; exact ht (by assumption))
theorem WrB.others {B b : Nat} {w w' : World} {l : List UInt8} (h : WrB B b w w') (hb : Bld w B b l) : KeepsOthers w w' :=
  ⟨h.below.size, fun k o hk ho => h.oth k o hk (fun e => by
    injection e with e
    subst e
    obtain ⟨p, v, _, hbk, _⟩ := hb
    rw [show w.heap[k]? = _ from hbk] at hk
    cases hk
    cases ho) (fun c fz e => by subst e; cases ho)⟩
theorem Bld.lt {w : World} {B b : Nat} {l : List UInt8} (h : Bld w B b l) : b < w.heap.size := by
  obtain ⟨p, v, _, hbk, _⟩ := h
  exact hbk.lt
theorem Bld.new (w : World) (B : Nat) (hB : B ≤ w.heap.size) : Bld (w.alloc (.cells #[.pointer none, .slice none 0 0] 62)) B w.heap.size [] :=
  ⟨none, .slice none 0 0, .inl rfl, Blk.new _ _ _, World.ownsRow_nil _ _ _ _, hB⟩
theorem blk_ne {w : World} {b B k : Nat} {cs : Array Value} {v : Value} {xs : List Value} (hb : Blk w b 62 cs) (h : w.ownsRow B 5 1 v k xs) : v.ownBlock ≠ some b := by
  intro e
  obtain ⟨cur, fz, hg⟩ := own_cells5 h b e
  rw [show w.heap[b]? = _ from hb] at hg
  injection hg with hg
  injection hg with _ h2 _
  exact absurd h2 (by decide)
/-- Whatever is neither the builder nor its row may change. -/
theorem Bld.kept {w w' : World} {B b : Nat} {l : List UInt8} {row : Option Nat} (h : Bld w B b l) (hg : w.grownBy w' row) (hr : ∀ r, row = some r → r ≠ b ∧ ∀ cur fz, w.heap[r]? ≠ some (.cells cur 5 fz)) : Bld w' B b l := by
  obtain ⟨p, v, hp, hbk, hown, hB⟩ := h
  refine ⟨p, v, hp, hbk.grown hg (fun e => (hr _ e.symm).1 rfl), hown.kept hg ?_, hB⟩
  cases hv : v.ownBlock with
  | none => exact .inl rfl
  | some i =>
    refine .inr fun e => ?_
    obtain ⟨cur, fz, hc⟩ := own_cells5 hown i hv
    exact (hr i e.symm).2 _ _ hc
theorem Bld.row {w w' : World} {B b : Nat} {l : List UInt8} {row : Option Nat} (h : Bld w B b l) (hg : w.grownBy w' row) (hr : ∀ r, row = some r → ∃ o : Obj, w.heap[r]? = some o ∧ o.isCells = false) : Bld w' B b l :=
  h.kept hg (fun r e => by
    obtain ⟨o, ho, hc⟩ := hr r e
    refine ⟨fun eb => ?_, fun cur fz hx => ?_⟩
    · subst eb
      obtain ⟨p, v, _, hbk, _⟩ := h
      rw [show w.heap[r]? = _ from hbk] at ho
      cases ho
      cases hc
    · rw [hx] at ho
      cases ho
      cases hc)
/-- A store into a box of another type. -/
theorem Bld.store {w : World} {B b k t : Nat} {l : List UInt8} {u x : Value} (h : Bld w B b l) (hk : Boxed w k t x) (hne : k ≠ b) (ht : t ≠ 5) : Bld (w.setCell ⟨k, 0, none⟩ u) B b l :=
  h.kept (grownBy_setCell' w k u) (fun r e => by
    injection e with e
    subst e
    refine ⟨hne, fun cur fz hx => ?_⟩
    rw [show w.heap[k]? = _ from hk] at hx
    injection hx with hx
    injection hx with _ h2 _
    exact ht h2)

theorem bytes_eq (l : List UInt8) : Lib.byteCells l = l.map ub := rfl
theorem Bld.is {w : World} {B b : Nat} {l : List UInt8} (h : Bld w B b l) : Lib.IsBuilderF 62 5 B b (Lib.byteCells l) w := by
  obtain ⟨p, v, hp, hbk, hown, hB⟩ := h
  have hne := blk_ne hbk hown
  have hf : w.ownsRowF B 5 1 v (Lib.byteCells l).length (Lib.byteCells l) := by
    have := World.ownsRowF_of hown
    rw [bytes_eq, List.length_map]
    exact this
  rcases hp with rfl | rfl
  · exact .inl ⟨hB, v, hbk, hf, hne⟩
  · exact .inr ⟨hB, v, hbk, hf, hne⟩

def EndsB (B b : Nat) (l : List UInt8) (v : Value) (w : World) (e : Ending) (w' : World) : Prop := e = .returned v ∧ Bld w' B b l ∧ WrB B b w w'
theorem sizeB : (Try.prog.info? 62).map (·.size) = some 2 := by kernel_rfl
theorem liesB : liesAt Try.prog Try.prog.depth 62 (2 / Try.prog.cellsOf 62) 0 62 1 = true := by kernel_rfl

set_option maxHeartbeats 1000000 in
theorem copyCheck_any (B b : Nat) (l : List UInt8) (w : World) (h : Bld w B b l) :
    Calls Try.prog 37 #[.pointer (some ⟨b, 0, none⟩)] w (EndsB B b l (.tuple #[]) w) := by
  obtain ⟨j, hj, hjs⟩ := Option.map_eq_some_iff.1 sizeB
  have hb := h
  obtain ⟨p, v, hp, hbk, hown, hB⟩ := h
  have h0 : w.cell? ⟨b, 0, none⟩ = some (.pointer p) := by rw [hbk.cell]; rfl
  have hfz := hbk.frozen 0
  have hsh : w.shape? b = some (62, 2) := by simp [World.shape?, show w.heap[b]? = _ from hbk]
  rcases hp with rfl | rfl
  · go_enter Try.func37, Try.ntmps37
    go_wp2
    rw [Lib.run_to_unsafe w ⟨b, 0, none⟩ Try.underlying60 Try.underlying77 hj (by rw [hjs]; decide) hsh (Nat.zero_lt_succ 1)]
    simp only [Result.andThen]
    rw [Oper.upon_value]
    go_wp2
    rw [run_callFunc_extern Try.func40 (by kernel_rfl) (by kernel_rfl) (by kernel_rfl) (e := Extern.AbiNoEscape.same) (by kernel_rfl)]
    rw [Lib.run_noEscape]
    simp only [Result.andThen]
    rw [Oper.upon_value]
    go_wp2
    rw [Lib.run_from_unsafe w ⟨b, 0, none⟩ Try.underlying77 Try.underlying60 hj hsh liesB]
    simp only [Result.andThen]
    rw [Oper.upon_value]
    go_wp2
    go_end0
    refine ⟨rfl, ⟨some ⟨b, 0, none⟩, v, .inr rfl, hbk.set_ 0 _, hown.kept (row := some b) (grownBy_set (World.grownBy.refl w (some b)) 0 _) (.inr (blk_ne hbk hown)), hB⟩, ⟨(Below.refl B w).setCell (p := ⟨b, 0, none⟩) hB _, (Lib.OthersKept.refl _ _ w).setCell ⟨b, 0, none⟩ rfl _⟩⟩
  · go_enter Try.func37, Try.ntmps37
    go_wp2
    rw [Lib.run_neq_ptr_same w _ Try.underlying60 hj]
    go_wp2
    go_end0
    exact ⟨rfl, hb, WrB.refl _ _ _⟩
/-- What an append and the store of its value do. -/
theorem Bld.put {w w' : World} {B b : Nat} {l l' : List UInt8} {p : Option Addr} {v v' : Value} (hp : p = none ∨ p = some ⟨b, 0, none⟩) (hbk : Blk w b 62 #[.pointer p, v]) (hown : w.ownsRow B 5 1 v l.length (l.map ub)) (hB : B ≤ b)
    (hown' : w'.ownsRow B 5 1 v' l'.length (l'.map ub)) (hg : w.grownBy w' v.ownBlock) :
    Blk w' b 62 #[.pointer p, v] ∧ Bld (w'.setCell ⟨b, 1, none⟩ v') B b l' ∧ WrB B b w (w'.setCell ⟨b, 1, none⟩ v') := by
  have hne := blk_ne hbk hown
  have hbk' := hbk.grown hg (fun e => hne e.symm)
  have hbel : Below B w w' := (Below.refl B w).grown hg (by have := hbk.lt; omega) (fun k hk => (hown.lt k hk).1)
  refine ⟨hbk', ⟨p, v', hp, hbk'.set_ 1 v', hown'.kept (row := some b) (grownBy_set (World.grownBy.refl w' (some b)) 1 _) (.inr (blk_ne hbk' hown')), hB⟩, ⟨hbel.setCell (p := ⟨b, 1, none⟩) hB _, ?_⟩⟩
  exact ((Lib.OthersKept.refl _ _ w).grown hg (own_cells5 hown)).setCell ⟨b, 1, none⟩ rfl _

set_option maxHeartbeats 1000000 in
theorem writeByte_any (B b : Nat) (l : List UInt8) (c : UInt8) (x : Int) (hx : ub c = .int .u8 x) (w : World) (h : Bld w B b l) (hm : l.length ≤ 100000000000) :
    Calls Try.prog 28 #[.pointer (some ⟨b, 0, none⟩), .int .u8 x] w (EndsB B b (l ++ [c]) .nilIface w) := by
  go_enter Try.func28, Try.ntmps28
  go_wp2_with fail
  refine (copyCheck_any B b l _ h).mono ?_
  rintro e w1 ⟨rfl, h1, hk1⟩
  obtain ⟨p, v, hp, hbk, hown, hB⟩ := h1
  have hz : B ≤ w1.heap.size := by have := hbk.lt; omega
  have c1 : w1.cell? ⟨b, 1, none⟩ = some v := by rw [hbk.cell]; rfl
  have hbd : l.length + 1 ≤ maxLen := by unfold maxLen; omega
  have HX := keep hx
  clear hx
  go_wp2_with (refine wpList_push1 elB rfl rfl _ _ _ rfl rfl rfl B v (.int .u8 x) l.length (l.map ub) rfl (fun _ => rfl) (fun _ => rfl) hown rfl hbd (by omega) hz ?_; intro g cap w2 hown2 hb2 hg2 _ _; have hput := Bld.put (l' := l ++ [c]) hp hbk hown hB (by rw [List.map_append, List.length_append, List.map_singleton, HX.out]; exact hown2) hg2; have hc2 := hput.1.cell2.2; have hf2 := hput.1.frozen 1)
  go_ret
  exact ⟨rfl, hput.2.1, hk1.trans hput.2.2⟩

set_option maxHeartbeats 1000000 in
theorem write_any (B b : Nat) (l m : List UInt8) (vm : Value) (w : World) (h : Bld w B b l) (hS : BSl w (lt B) vm m) (hm : l.length + m.length ≤ 100000000000) :
    Calls Try.prog 29 #[.pointer (some ⟨b, 0, none⟩), vm] w (EndsB B b (l ++ m) (.tuple #[.int .i64 m.length, .nilIface]) w) := by
  obtain ⟨A, c, rfl, hc, hS⟩ := hS.forms
  go_enter Try.func29, Try.ntmps29
  go_wp2_with fail
  refine (copyCheck_any B b l _ h).mono ?_
  rintro e w1 ⟨rfl, h1, hk1⟩
  obtain ⟨p, v, hp, hbk, hown, hB⟩ := h1
  have hS1 := hS.below hk1.below (Nat.le_refl _)
  have hz : B ≤ w1.heap.size := by have := hbk.lt; omega
  have c1 : w1.cell? ⟨b, 1, none⟩ = some v := by rw [hbk.cell]; rfl
  have hbd : l.length + m.length ≤ maxLen := by unfold maxLen; omega
  go_wp2_with (refine wpList_appendS elB rfl _ _ rfl B v l.length (l.map ub) rfl hown _ _ m.length (m.map ub) rfl hS1 (ub_one m) hbd (by omega) hz ?_; intro v2 w2 hown2 hb2 hg2; have hput := Bld.put (l' := l ++ m) hp hbk hown hB (by rw [List.map_append, List.length_append]; exact hown2) hg2; have hc2 := hput.1.cell2.2; have hf2 := hput.1.frozen 1; obtain ⟨A2, c2, rfl, _, _⟩ := (Sl.of_own hown2).form)
  go_ret2
  exact ⟨rfl, hput.2.1, hk1.trans hput.2.2⟩

theorem string_any (B b : Nat) (l : List UInt8) (w : World) (h : Bld w B b l) (hB : B ≤ w.heap.size) :
    Calls Try.prog 30 #[.pointer (some ⟨b, 0, none⟩)] w fun e w' => e = .returned (.string ⟨l.toArray⟩) ∧ WrB B b w w' :=
  (Try.Builder_String_any_k B b l w h.is hB).mono fun _ _ ⟨he, _, h1, h2⟩ => ⟨he, h1, h2⟩
end Go.Proofs.Ytimldjlegbdldaa
