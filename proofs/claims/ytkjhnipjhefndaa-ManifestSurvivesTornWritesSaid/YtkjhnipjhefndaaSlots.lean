/- For the statements about the slots: drawn manifests are small, a changed byte; the contracts of Recover and Write and of the reference's. -/
import Derived.Test.YtkjhnipjhefndaaAgree
import Derived.Test.YtkjhnipjhefndaaDec
import Derived.Test.YtkjhnipjhefndaaSame
import Derived.Test.YtkjhnipjhefndaaLawEnc
import Derived.Laws.BitsAllLaws
namespace Go.Proofs.Ytkjhnipjhefndaa
open Go.RowKit

theorem encT_len2 (l : List Tl) (n : Nat) (hn : n ≤ 1048576) (h : ∀ x ∈ l, x.rule.size ≤ n) : (encT l).length ≤ 10 + l.length * (n + 30) := by
  have h1 := uvar_len10 (zz_lt (l.length : Int))
  have h2 := flat_le encT1 l (n + 30) (fun x hx => by
    have a := uvar_len10 (zz_lt x.host)
    have b := uvar_len10 (zz_lt x.lines)
    have d := h x hx
    have c := uvar_len10 (n := x.rule.size) (by omega)
    unfold encT1
    simp only [List.length_append, Array.length_toList, ByteArray.size_data]
    omega)
  unfold encT
  rw [List.length_append]
  omega
/-- Small enough for the contracts of Decode. -/
structure Tiny (m : Man) : Prop where
  s : m.segs.length ≤ 20
  m_ : m.marks.length ≤ 20
  t : m.tals.length ≤ 20
  e : m.exps.length ≤ 20
  tb : ∀ x ∈ m.tals, x.rule.size ≤ 32
  eb : ∀ x ∈ m.exps, x.rule.size ≤ 32
theorem Tiny.len {m : Man} (h : Tiny m) : (encM m).length + 4 ≤ 100000 := by
  have h1 := encI_len [m.nu, m.nx, m.jo, (m.segs.length : Int)]
  have h2 := flat_le encS m.segs 70 (fun x _ => by have := encI_len [x.id, x.level, x.tier, x.count, x.lo, x.hi, x.size]; exact this)
  have h3 := encI_len [(m.marks.length : Int)]
  have h4 := flat_le encK m.marks 30 (fun x _ => by have := encI_len [x.host, x.file, x.off]; exact this)
  have h5 := encT_len2 m.tals 32 (by omega) h.tb
  have h6 := encT_len2 m.exps 32 (by omega) h.eb
  have a := h.s
  have b := h.m_
  have c := h.t
  have d := h.e
  simp only [encM, en5, en4, en3, en2, en1, List.length_append, List.length_cons, List.length_nil] at h1 h3 ⊢
  have : magicB.length = 4 := rfl
  have e1 : m.segs.length * 70 ≤ 20 * 70 := Nat.mul_le_mul_right _ a
  have e2 : m.marks.length * 30 ≤ 20 * 30 := Nat.mul_le_mul_right _ b
  have e3 : m.tals.length * (32 + 30) ≤ 20 * (32 + 30) := Nat.mul_le_mul_right _ c
  have e4 : m.exps.length * (32 + 30) ≤ 20 * (32 + 30) := Nat.mul_le_mul_right _ d
  omega
theorem Good.tiny {m : Man} (h : Good m) : Tiny m :=
  ⟨by have := h.sl; omega, by have := h.ml; omega, by have := h.tl; omega, by have := h.el; omega, fun x hx => (h.tk x hx).r, fun x hx => (h.ek x hx).r⟩
theorem encB_len (m : Man) : (encB m).length = (encM m).length + 4 := by unfold encB; rw [List.length_append]; rfl
theorem encB_ge (m : Man) : 8 ≤ (encB m).length := by rw [encB_len, encM_eq, List.length_append]; have : magicB.length = 4 := rfl; omega
theorem TlOk.i {B : Int} {t : Tl} (h : TlOk B t) (hB : B ≤ 1000000) : TlI t := by
  obtain ⟨a, b, c, d, e⟩ := h
  exact ⟨⟨by omega, by omega⟩, by omega, ⟨by omega, by omega⟩⟩
theorem Good.manI {m : Man} (h : Good m) : ManI m := by
  have t := h.tiny
  obtain ⟨t1, t2, t3, t4, _, _⟩ := t
  refine ⟨?_, ?_, ?_, ?_, ?_, fun x hx => (h.tk x hx).i (by omega), fun x hx => (h.ek x hx).i (by omega), by omega, by omega, by omega, by omega⟩
  · have := h.u0; have := h.u1; exact ⟨by omega, by omega⟩
  · have := h.x0; have := h.x1; exact ⟨by omega, by omega⟩
  · have := h.j0; have := h.j1; exact ⟨by omega, by omega⟩
  · intro x hx
    obtain ⟨a1, a2, a3, a4, a5, a6, a7, a8, a9, b1, b2, b3, b4⟩ := (h.s.2 x hx).2
    exact ⟨⟨by omega, by omega⟩, ⟨by omega, by omega⟩, ⟨by omega, by omega⟩, ⟨by omega, by omega⟩, ⟨by omega, by omega⟩, ⟨by omega, by omega⟩, ⟨by omega, by omega⟩⟩
  · intro x hx
    obtain ⟨a, b, c, d, e, f⟩ := h.mo x hx
    exact ⟨⟨by omega, by omega⟩, ⟨by omega, by omega⟩, ⟨by omega, by omega⟩⟩
theorem Decd.small {b : List UInt8} {m : Man} {er : Int} (h : Decd b m er) (hl : b.length ≤ 1000000) : Small m := by
  have hz : Small manZero := ⟨by simp [manZero], by simp [manZero], by simp [manZero], by simp [manZero]⟩
  rcases h with ⟨_, rfl, _⟩ | ⟨_, _, rfl, _⟩ | ⟨h8, _, m1, bad, hP, ⟨_, rfl, _⟩ | ⟨_, rfl, _⟩⟩
  · exact hz
  · exact hz
  · have hi := hP.in_ (by rw [List.length_drop, body_len h8]; omega)
    exact ⟨hi.ls, hi.lm, hi.lt_, hi.le⟩
  · exact hz
/-- A byte stored into a row of the call's own. -/
theorem OwnB.setAt {w : World} {base : Nat} {A : Option Addr} {c n i : Nat} {l : List UInt8} (h : OwnB w base (.slice A n c) l) (hi : i < l.length) (y : UInt8) :
    ∃ g, A = some ⟨g, 0, none⟩ ∧ base ≤ g ∧ g < w.heap.size ∧ n = l.length ∧ w.cell? ⟨g, i, none⟩ = some (ub l[i]) ∧ w.frozen? ⟨g, i, none⟩ = false ∧ OwnB (w.setCell ⟨g, i, none⟩ (ub y)) base (.slice A n c) (l.set i y) := by
  rcases h with ⟨_, rfl⟩ | ⟨g, cap, cur, fz, hv, hb, hg, hf, hlc, hcm, hcs, ht⟩
  · simp at hi
  · injection hv with h1 h2 h3
    subst h1 h2 h3
    have hicur : i < cur.size := by omega
    have hgl : g < w.heap.size := (Array.getElem?_eq_some_iff.1 hg).1
    have hcell : w.cell? ⟨g, i, none⟩ = some (ub l[i]) := by
      have e1 : w.cell? ⟨g, i, none⟩ = some cur[i] := by simp [World.cell?, hg, hicur]
      have e2 : (cur.toList.take l.length)[i]? = some (ub l[i]) := by rw [ht]; simp [hi]
      rw [List.getElem?_take, if_pos hi] at e2
      have e3 : cur.toList[i]? = some cur[i] := by simp [hicur]
      rw [e3] at e2
      injection e2 with e2
      rw [e1, e2]
    refine ⟨g, rfl, hb, hgl, rfl, hcell, hf.at_ hg hicur, .inr ⟨g, c, cur.setIfInBounds i (ub y), fz, by rw [List.length_set], hb, ?_, by simpa using hf, by rw [List.length_set]; exact hlc, hcm, by simpa using hcs, ?_⟩⟩
    · rw [setCell_eq_setRow w g i cur 5 fz (ub y) hg]
      exact setRow_heap w g cur _ 5 fz hg
    · rw [List.length_set, Array.toList_setIfInBounds, List.take_set, ht, List.map_set]
theorem xor_u8 (x y : UInt8) : bits .xor .u8 (x.toNat : Int) (y.toNat : Int) = (((x ^^^ y).toNat : Nat) : Int) := by
  rw [u8_xor_nat _ _ x.toNat_lt y.toNat_lt]
  simp
/-- Four slices of bytes in a list. -/
def Four (w : World) (B : Nat) (v : Value) : Prop := ∃ l, BSl w (lt B) v l ∧ l.length ≤ 1000000
theorem four_at {w : World} {g k : Nat} {t : TypeId} {v0 v1 v2 v3 : Value} (h : Blk w g t #[v0, v1, v2, v3]) {Q : Value → Prop} (h0 : Q v0) (h1 : Q v1) (h2 : Q v2) (h3 : Q v3) (hk : k < 4) :
    ∃ v, w.cell? ⟨g, k, none⟩ = some v ∧ Q v := by
  match k, hk with
  | 0, _ => exact ⟨v0, by rw [h.cell]; rfl, h0⟩
  | 1, _ => exact ⟨v1, by rw [h.cell]; rfl, h1⟩
  | 2, _ => exact ⟨v2, by rw [h.cell]; rfl, h2⟩
  | 3, _ => exact ⟨v3, by rw [h.cell]; rfl, h3⟩
/-- Bytes given as numbers. -/
theorem bsl_ints {w : World} {S : Nat → Prop} {v : Value} {bs : List Int} (hs : Sl w S 1 v bs.length (bs.map (.int .u8))) (hr : ∀ x ∈ bs, 0 ≤ x ∧ x ≤ 255) : BSl w S v (bs.map fun x => UInt8.ofNat x.toNat) := by
  have e : (bs.map fun x => UInt8.ofNat x.toNat).map ub = bs.map (.int .u8) := by
    rw [List.map_map]
    refine List.map_congr_left fun x hx => ?_
    obtain ⟨h0, h1⟩ := hr x hx
    exact ub_ofNat x h0 h1
  unfold BSl
  rw [e, List.length_map]
  exact hs
/-- The newest of two manifests that were decoded. -/
def rec2 (m0 : Man) (e0 : Int) (m1 : Man) (e1 : Int) : Man × Bool := if e0 = 0 ∧ (e1 ≠ 0 ∨ m1.nu ≤ m0.nu) then (m0, true) else if e1 = 0 then (m1, true) else (manZero, false)
def RecRes (w : World) (l0 l1 : List UInt8) (e : Ending) (w' : World) : Prop :=
  ∃ m0 e0 m1 e1 vS vM vT vE, Decd l0 m0 e0 ∧ Decd l1 m1 e1 ∧ e = .returned (.tuple #[.agg (manCells (rec2 m0 e0 m1 e1).1 vS vM vT vE), .bool (rec2 m0 e0 m1 e1).2]) ∧
    Lies w' (btw w.heap.size w'.heap.size) (rec2 m0 e0 m1 e1).1 vS vM vT vE ∧ Below w.heap.size w w'
/-- One step of the program's search. -/
def recStep (b : Man × Bool) (m : Man) (e : Int) : Man × Bool := if e = 0 ∧ (b.2 = false ∨ b.1.nu < m.nu) then (m, true) else b
theorem rec2_steps (m0 : Man) (e0 : Int) (m1 : Man) (e1 : Int) : recStep (recStep (manZero, false) m0 e0) m1 e1 = rec2 m0 e0 m1 e1 := by
  unfold recStep rec2
  by_cases h0 : e0 = 0
  · by_cases h1 : e1 = 0
    · by_cases h2 : m1.nu ≤ m0.nu
      · have h3 : ¬ m0.nu < m1.nu := by omega
        simp [h0, h1, h2, h3]
      · have h3 : m0.nu < m1.nu := by omega
        simp [h0, h1, h2, h3]
    · simp [h0, h1]
  · by_cases h1 : e1 = 0 <;> simp [h0, h1]
theorem Lies.more' {w : World} {a b a' b' : Nat} {m : Man} {vS vM vT vE : Value} (h : Lies w (btw a b) m vS vM vT vE) (ha : a' ≤ a) (hb : b ≤ b') : Lies w (btw a' b') m vS vM vT vE :=
  h.mono fun _ hk => ⟨Nat.le_trans ha hk.1, Nat.lt_of_lt_of_le hk.2 hb⟩
/-- What the search has found, at block gb. -/
structure Best (w : World) (base gb : Nat) (m : Man) (vS vM vT vE : Value) : Prop where
  b : Blk w gb 28 (manCells m vS vM vT vE)
  l : Lies w (btw base w.heap.size) m vS vM vT vE
section
variable {w w' : World} {base gb : Nat} {m : Man} {vS vM vT vE : Value}
theorem Best.below (h : Best w base gb m vS vM vT vE) (hb : Below w.heap.size w w') : Best w' base gb m vS vM vT vE :=
  ⟨h.b.below hb h.b.lt, ⟨(h.l.s.under hb (fun _ hk => hk.2)).mono (fun _ hk => ⟨hk.1, Nat.lt_of_lt_of_le hk.2 hb.size⟩), (h.l.m_.under hb (fun _ hk => hk.2)).mono (fun _ hk => ⟨hk.1, Nat.lt_of_lt_of_le hk.2 hb.size⟩),
    (h.l.t.under hb (fun _ hk => hk.2)).mono (fun _ hk => ⟨hk.1, Nat.lt_of_lt_of_le hk.2 hb.size⟩), (h.l.e.under hb (fun _ hk => hk.2)).mono (fun _ hk => ⟨hk.1, Nat.lt_of_lt_of_le hk.2 hb.size⟩)⟩⟩
end
/-- What the search has found behind k slots. -/
def RecAt (l0 l1 : List UInt8) : Nat → Man × Bool → Prop
  | 0, b => b = (manZero, false)
  | 1, b => ∃ m0 e0, Decd l0 m0 e0 ∧ b = recStep (manZero, false) m0 e0
  | _, b => ∃ m0 e0 m1 e1, Decd l0 m0 e0 ∧ Decd l1 m1 e1 ∧ b = recStep (recStep (manZero, false) m0 e0) m1 e1
theorem rec_next {l0 l1 : List UInt8} {v0 v1 : Value} {w : World} {S : Nat → Prop} (h0 : BSl w S v0 l0) (h1 : BSl w S v1 l1) (hl0 : l0.length ≤ 1000000) (hl1 : l1.length ≤ 1000000)
    (i0 : ∀ w, (Instr.index 58 (.agg #[v0, v1]) (.int .i64 0)).run Try.prog w = .ok v0 w) (i1 : ∀ w, (Instr.index 58 (.agg #[v0, v1]) (.int .i64 1)).run Try.prog w = .ok v1 w)
    {k : Nat} {b : Man × Bool} (h : RecAt l0 l1 k b) (hk : k < 2) :
    ∃ vx lx, (∀ w, (Instr.index 58 (.agg #[v0, v1]) (.int .i64 (k : Int))).run Try.prog w = .ok vx w) ∧ BSl w S vx lx ∧ lx.length ≤ 1000000 ∧ ∀ m e, Decd lx m e → RecAt l0 l1 (k + 1) (recStep b m e) := by
  obtain rfl | rfl : k = 0 ∨ k = 1 := by omega
  · have hb : b = (manZero, false) := h
    rw [hb]
    refine ⟨v0, l0, ?_, h0, hl0, fun m e hd => (show RecAt l0 l1 1 _ from ⟨m, e, hd, rfl⟩)⟩
    rw [show ((0 : Nat) : Int) = 0 from rfl]
    exact i0
  · obtain ⟨m0, e0, hd0, hb⟩ := (show ∃ m0 e0, Decd l0 m0 e0 ∧ b = recStep (manZero, false) m0 e0 from h)
    rw [hb]
    refine ⟨v1, l1, ?_, h1, hl1, fun m e hd => (show RecAt l0 l1 2 _ from ⟨m0, e0, m, e, hd0, hd, rfl⟩)⟩
    rw [show ((1 : Nat) : Int) = 1 from rfl]
    exact i1
theorem rec_end {l0 l1 : List UInt8} {k : Nat} {b : Man × Bool} (h : RecAt l0 l1 k b) (hk : k ≤ 2) (h2 : ¬ k < 2) : ∃ m0 e0 m1 e1, Decd l0 m0 e0 ∧ Decd l1 m1 e1 ∧ b = rec2 m0 e0 m1 e1 := by
  obtain rfl : k = 2 := by omega
  obtain ⟨m0, e0, m1, e1, a, b, c⟩ := h
  exact ⟨m0, e0, m1, e1, a, b, c.trans (rec2_steps _ _ _ _)⟩
theorem man_form {w : World} {S : Nat → Prop} {m : Man} {vS vM vT vE : Value} (h : Lies w S m vS vM vT vE) : ∃ A1 c1 A2 c2 A3 c3 A4 c4, vS = .slice A1 m.segs.length c1 ∧ vM = .slice A2 m.marks.length c2 ∧ vT = .slice A3 m.tals.length c3 ∧ vE = .slice A4 m.exps.length c4 := by
  obtain ⟨A1, c1, h1, _⟩ := h.s.form
  obtain ⟨A2, c2, h2, _⟩ := h.m_.form
  obtain ⟨A3, c3, h3, _⟩ := h.t.form
  obtain ⟨A4, c4, h4, _⟩ := h.e.form
  exact ⟨A1, c1, A2, c2, A3, c3, A4, c4, h1, h2, h3, h4⟩
set_option maxHeartbeats 1000000 in
set_option maxRecDepth 100000 in
theorem recover_any (v0 v1 : Value) (l0 l1 : List UInt8) (w : World) (h0 : BSl w (lt w.heap.size) v0 l0) (h1 : BSl w (lt w.heap.size) v1 l1) (hl0 : l0.length ≤ 1000000) (hl1 : l1.length ≤ 1000000) :
    Calls Try.prog 29 #[.agg #[v0, v1]] w (RecRes w l0 l1) := by
  obtain ⟨A0, n0, c0, rfl⟩ : ∃ A n c, v0 = .slice A n c := by obtain ⟨A, c, h, _⟩ := Sl.form h0; exact ⟨A, _, c, h⟩
  obtain ⟨A1, n1, c1, rfl⟩ : ∃ A n c, v1 = .slice A n c := by obtain ⟨A, c, h, _⟩ := Sl.form h1; exact ⟨A, _, c, h⟩
  obtain ⟨V0, hV0⟩ : ∃ V, V = Value.slice A0 n0 c0 := ⟨_, rfl⟩
  obtain ⟨V1, hV1⟩ : ∃ V, V = Value.slice A1 n1 c1 := ⟨_, rfl⟩
  have i0 : ∀ w, (Instr.index 58 (.agg #[.slice A0 n0 c0, .slice A1 n1 c1]) (.int .i64 0)).run Try.prog w = .ok (.slice A0 n0 c0) w := fun _ => by kernel_rfl
  have i1 : ∀ w, (Instr.index 58 (.agg #[.slice A0 n0 c0, .slice A1 n1 c1]) (.int .i64 1)).run Try.prog w = .ok (.slice A1 n1 c1) w := fun _ => by kernel_rfl
  go_enter Try.func29, Try.ntmps29
  go_upto_block 0 with (fail)
  obtain ⟨W, hW⟩ : ∃ W, W = ((w.alloc (.cells #[.slice A0 n0 c0, .slice A1 n1 c1] 58)).alloc (.cells manZ7 28)).alloc (.cells manZ7 28) := ⟨_, rfl⟩
  obtain ⟨p, hp⟩ : ∃ p, p = w.heap.size + 1 := ⟨_, rfl⟩
  obtain ⟨gb, hgb⟩ : ∃ gb, gb = p + 1 := ⟨_, rfl⟩
  have hp' : w.heap.size + 1 = p := hp.symm
  have hgb' : p + 1 = gb := hgb.symm
  rw [← hW]
  simp only [hp', hgb']
  have hbW : Below w.heap.size w W := by rw [hW]; exact (((Below.refl _ _).alloc (Nat.le_refl _) _).alloc (by simp) _).alloc (by simp; omega) _
  have hP : Blk W p 28 manZ7 := by
    rw [hW, hp]
    have := (Blk.new (w.alloc (.cells #[.slice A0 n0 c0, .slice A1 n1 c1] 58)) 28 manZ7).alloc (.cells manZ7 28)
    simpa using this
  have hB : Blk W gb 28 manZ7 := by
    rw [hW, hgb, hp]
    have := Blk.new ((w.alloc (.cells #[.slice A0 n0 c0, .slice A1 n1 c1] 58)).alloc (.cells manZ7 28)) 28 manZ7
    simpa using this
  have hBest : Best W (gb + 1) gb manZero (.slice none 0 0) (.slice none 0 0) (.slice none 0 0) (.slice none 0 0) := ⟨(show Blk W gb 28 (manCells manZero (.slice none 0 0) (.slice none 0 0) (.slice none 0 0) (.slice none 0 0)) from hB), lies_zero _ _⟩
  have hpb : p < gb := by omega
  have hpw : w.heap.size ≤ p := by omega
  have HP := keep hpw
  have h0' := h0
  have h1' := h1
  have hA : Hid (RecAt l0 l1 0 (manZero, false)) := keep (rfl : RecAt l0 l1 0 (manZero, false))
  clear hW hp hgb hp' hgb' hB hpw h0 h1
  have hzW := hbW.size
  go_wp2_with fail
  go_loopw [5, 7, 8, 9, 11] (fun f _ _ _ i wr => ∃ (k : Nat) (b : Man × Bool) (vS vM vT vE : Value), i = .int .i64 k ∧ k ≤ 2 ∧ f = .bool b.2 ∧ Hid (RecAt l0 l1 k b) ∧ Best wr (gb + 1) gb b.1 vS vM vT vE ∧ Blk wr p 28 manZ7 ∧ Below w.heap.size w wr) (fun _ _ _ _ i _ => 2 - (intOf i).toNat)
  case atStart => exact ⟨0, (manZero, false), _, _, _, _, rfl, by omega, rfl, hA, hBest, hP, hbW⟩
  case round =>
    obtain ⟨k, ⟨bm, bf⟩, vS, vM, vT, vE, rfl, hk, rfl, hR, hBe, hPr, hb⟩ := hrel
    obtain ⟨wq, rfl⟩ : ∃ wq : World, wq = wr := ⟨_, rfl⟩
    clear hBest hP
    simp only at hBe
    by_cases hlt : k < 2
    · have hsz := hb.size
      have h0q : BSl wq (lt w.heap.size) (.slice A0 n0 c0) l0 := Sl.below h0' hb (Nat.le_refl _)
      have h1q : BSl wq (lt w.heap.size) (.slice A1 n1 c1) l1 := Sl.below h1' hb (Nat.le_refl _)
      obtain ⟨vx, lx, hidx, hlx, hll, hnext⟩ := rec_next h0q h1q hl0 hl1 i0 i1 hR.out hlt
      have hlx' : BSl wq (lt wq.heap.size) vx lx := Sl.mono hlx (fun k hk => by have : k < w.heap.size := hk; show k < wq.heap.size; omega)
      have HN := keep hnext
      clear hR h0q h1q hlx hnext i0 i1
      go_wp2_with fail
      refine (decode_any vx lx wq hlx' hll).mono ?_
      rintro e w9 ⟨m1, er1, hD1, uS, uM, uT, uE, rfl, hL1, hb9⟩
      have HN1 := keep (HN.out m1 er1 hD1)
      obtain ⟨C1, d1, C2, d2, C3, d3, C4, d4, rfl, rfl, rfl, rfl⟩ := man_form hL1
      obtain ⟨E1, f1, E2, f2, E3, f3, E4, f4, rfl, rfl, rfl, rfl⟩ := man_form hBe.l
      clear hD1 HN hlx'
      go_upto_region 7 with fail
      obtain ⟨gm, hgm⟩ : ∃ gm, gm = w9.heap.size := ⟨_, rfl⟩
      obtain ⟨wa, hwa⟩ : ∃ wa, wa = w9.alloc (.cells #[.int .i64 m1.nu, .int .i64 m1.nx, .int .i64 m1.jo, .slice C1 m1.segs.length d1, .slice C2 m1.marks.length d2, .slice C3 m1.tals.length d3, .slice C4 m1.exps.length d4] 28) := ⟨_, rfl⟩
      rw [← hwa, ← hgm]
      have hba : Below w9.heap.size w9 wa := by rw [hwa]; exact (Below.refl _ _).alloc (Nat.le_refl _) _
      have hBm : Blk wa gm 28 #[.int .i64 m1.nu, .int .i64 m1.nx, .int .i64 m1.jo, .slice C1 m1.segs.length d1, .slice C2 m1.marks.length d2, .slice C3 m1.tals.length d3, .slice C4 m1.exps.length d4] := by rw [hwa, hgm]; exact Blk.new _ _ _
      have hqa := bchain hb9 hba
      have hBa := hBe.below hqa
      have hPa := hPr.below hqa hPr.lt
      have hbwa := hb.trans (hqa.mono hb.size)
      have hgbl := hBe.b.lt
      have hz9 := hb9.size
      have hza := hba.size
      have hgbm : gb < gm := by omega
      have hgbw : gb < wq.heap.size := hgbl
      have hLa : Lies wa (btw (gb + 1) wa.heap.size) m1 (.slice C1 m1.segs.length d1) (.slice C2 m1.marks.length d2) (.slice C3 m1.tals.length d3) (.slice C4 m1.exps.length d4) := by
        have h1 := hL1.mono (S' := btw (gb + 1) w9.heap.size) (fun k hk => ⟨by have := hk.1; omega, hk.2⟩)
        exact ⟨(h1.s.under hba (fun _ hk => hk.2)).mono (fun _ hk => ⟨hk.1, Nat.lt_of_lt_of_le hk.2 hza⟩), (h1.m_.under hba (fun _ hk => hk.2)).mono (fun _ hk => ⟨hk.1, Nat.lt_of_lt_of_le hk.2 hza⟩),
          (h1.t.under hba (fun _ hk => hk.2)).mono (fun _ hk => ⟨hk.1, Nat.lt_of_lt_of_le hk.2 hza⟩), (h1.e.under hba (fun _ hk => hk.2)).mono (fun _ hk => ⟨hk.1, Nat.lt_of_lt_of_le hk.2 hza⟩)⟩
      clear hwa hgm hba hL1 hb9 hBe hPr hb hqa hgbl
      have HTake : er1 = 0 → (bf = false ∨ bm.nu < m1.nu) → Hid (∀ wz, wz = put7 wa gb (.int .i64 m1.nu) (.int .i64 m1.nx) (.int .i64 m1.jo) (.slice C1 m1.segs.length d1) (.slice C2 m1.marks.length d2) (.slice C3 m1.tals.length d3) (.slice C4 m1.exps.length d4) →
          ∃ (k' : Nat) (b : Man × Bool) (vS vM vT vE : Value), Value.int .i64 ((k : Int) + 1) = .int .i64 k' ∧ k' ≤ 2 ∧ Value.bool true = .bool b.2 ∧ Hid (RecAt l0 l1 k' b) ∧ Best wz (gb + 1) gb b.1 vS vM vT vE ∧ Blk wz p 28 manZ7 ∧ Below w.heap.size w wz) := fun he hf => by
        intro wz hwz
        have hgr := put7_grown wa gb (.int .i64 m1.nu) (.int .i64 m1.nx) (.int .i64 m1.jo) (.slice C1 m1.segs.length d1) (.slice C2 m1.marks.length d2) (.slice C3 m1.tals.length d3) (.slice C4 m1.exps.length d4)
        rw [← hwz] at hgr
        have hst : recStep (bm, bf) m1 er1 = (m1, true) := by unfold recStep; rw [if_pos ⟨he, hf⟩]
        have hn := HN1.out
        rw [hst] at hn
        refine ⟨k + 1, (m1, true), .slice C1 m1.segs.length d1, .slice C2 m1.marks.length d2, .slice C3 m1.tals.length d3, .slice C4 m1.exps.length d4, by go_num, by omega, rfl, hn, ⟨?_, ?_⟩, hPa.grown hgr (fun e => by injection e; omega), below_grown hbwa hgr hbwa.size (by have := HP.out; omega)⟩
        · rw [hwz]
          exact put7_blk hBa.b _ _ _ _ _ _ _
        · have hc : ∀ k, btw (gb + 1) wa.heap.size k → k < wa.heap.size ∧ some k ≠ some gb := fun k hk => ⟨hk.2, fun e => by injection e with e; have := hk.1; omega⟩
          have hc2 : ∀ k, btw (gb + 1) wa.heap.size k → btw (gb + 1) wz.heap.size k := fun k hk => ⟨hk.1, Nat.lt_of_lt_of_le hk.2 hgr.size⟩
          exact ⟨(hLa.s.grown hgr hc).mono hc2, (hLa.m_.grown hgr hc).mono hc2, (hLa.t.grown hgr hc).mono hc2, (hLa.e.grown hgr hc).mono hc2⟩
      have HLeave : ¬ (er1 = 0 ∧ (bf = false ∨ bm.nu < m1.nu)) → Hid (∃ (k' : Nat) (b : Man × Bool) (vS vM vT vE : Value), Value.int .i64 ((k : Int) + 1) = .int .i64 k' ∧ k' ≤ 2 ∧ Value.bool bf = .bool b.2 ∧ Hid (RecAt l0 l1 k' b) ∧ Best wa (gb + 1) gb b.1 vS vM vT vE ∧ Blk wa p 28 manZ7 ∧ Below w.heap.size w wa) := fun hf => by
        have hst : recStep (bm, bf) m1 er1 = (bm, bf) := by unfold recStep; rw [if_neg hf]
        have hn := HN1.out
        rw [hst] at hn
        refine keep ?_
        exact ⟨k + 1, (bm, bf), .slice E1 bm.segs.length f1, .slice E2 bm.marks.length f2, .slice E3 bm.tals.length f3, .slice E4 bm.exps.length f4, by go_num, by omega, rfl, hn, hBa, hPa, hbwa⟩
      have hBb := hBa.b
      obtain ⟨a0, a1, a2, a3, a4, a5, a6⟩ := hBm.cell7
      have b0 : wa.cell? ⟨gb, 0, none⟩ = some (.int .i64 bm.nu) := hBb.cell7.1
      have b1 : wa.cell? ⟨gb, 1, none⟩ = some (.int .i64 bm.nx) := hBb.cell7.2.1
      have b2 : wa.cell? ⟨gb, 2, none⟩ = some (.int .i64 bm.jo) := hBb.cell7.2.2.1
      have b3 := hBb.cell7.2.2.2.1
      have b4 := hBb.cell7.2.2.2.2.1
      have b5 := hBb.cell7.2.2.2.2.2.1
      have b6 := hBb.cell7.2.2.2.2.2.2
      have g0 := hBb.frozen 0
      have g1 := hBb.frozen 1
      have g2 := hBb.frozen 2
      have g3 := hBb.frozen 3
      have g4 := hBb.frozen 4
      have g5 := hBb.frozen 5
      have g6 := hBb.frozen 6
      clear hBm hBb hBa hPa hbwa hLa HN1
      by_cases hE : er1 = 0
      · subst hE
        cases bf with
        | false =>
          have HT := HTake rfl (.inl rfl)
          clear HTake HLeave
          go_wp2_with fail
          go_roundw
          case rel => exact HT.out _ rfl
          case measure => simp [intOf]; omega
        | true =>
          by_cases hnu : bm.nu < m1.nu
          · have HT := HTake rfl (.inr hnu)
            clear HTake HLeave
            go_wp2_with fail
            go_roundw
            case rel => exact HT.out _ rfl
            case measure => simp [intOf]; omega
          · have HL := HLeave (fun h => h.2.elim (fun h => by cases h) hnu)
            clear HTake HLeave
            go_wp2_with fail
            go_roundw
            case rel => exact HL.out
            case measure => simp [intOf]; omega
      · have hE' : (er1 == 0) = false := by simpa using hE
        have HL := HLeave (fun h => hE h.1)
        clear HTake HLeave hE
        go_wp2_with fail
        go_roundw
        case rel => exact HL.out
        case measure => simp [intOf]; omega
    · obtain ⟨m0, e0, m1, e1, hD0, hD1, hbb⟩ := rec_end hR.out hk hlt
      obtain ⟨E1, f1, E2, f2, E3, f3, E4, f4, rfl, rfl, rfl, rfl⟩ := man_form hBe.l
      have hgr := put7_grown wq p (.int .i64 bm.nu) (.int .i64 bm.nx) (.int .i64 bm.jo) (.slice E1 bm.segs.length f1) (.slice E2 bm.marks.length f2) (.slice E3 bm.tals.length f3) (.slice E4 bm.exps.length f4)
      have HF : Hid (RecRes w l0 l1 (.returned (.tuple #[.agg #[.int .i64 bm.nu, .int .i64 bm.nx, .int .i64 bm.jo, .slice E1 bm.segs.length f1, .slice E2 bm.marks.length f2, .slice E3 bm.tals.length f3, .slice E4 bm.exps.length f4], .bool bf])) (put7 wq p (.int .i64 bm.nu) (.int .i64 bm.nx) (.int .i64 bm.jo) (.slice E1 bm.segs.length f1) (.slice E2 bm.marks.length f2) (.slice E3 bm.tals.length f3) (.slice E4 bm.exps.length f4))) := by
        have hc : ∀ k, btw (gb + 1) wq.heap.size k → k < wq.heap.size ∧ some k ≠ some p := fun k hk => ⟨hk.2, fun e => by injection e with e; have := hk.1; omega⟩
        have hc2 : ∀ k, btw (gb + 1) wq.heap.size k → btw w.heap.size (put7 wq p (.int .i64 bm.nu) (.int .i64 bm.nx) (.int .i64 bm.jo) (.slice E1 bm.segs.length f1) (.slice E2 bm.marks.length f2) (.slice E3 bm.tals.length f3) (.slice E4 bm.exps.length f4)).heap.size k := fun k hk => ⟨by have := hk.1; have := HP.out; omega, Nat.lt_of_lt_of_le hk.2 hgr.size⟩
        refine keep ⟨m0, e0, m1, e1, .slice E1 bm.segs.length f1, .slice E2 bm.marks.length f2, .slice E3 bm.tals.length f3, .slice E4 bm.exps.length f4, hD0, hD1, ?_, ?_, below_grown hb hgr hb.size (by have := HP.out; omega)⟩
        · rw [← hbb]
        · rw [← hbb]
          exact ⟨(hBe.l.s.grown hgr hc).mono hc2, (hBe.l.m_.grown hgr hc).mono hc2, (hBe.l.t.grown hgr hc).mono hc2, (hBe.l.e.grown hgr hc).mono hc2⟩
      obtain ⟨y0, y1, y2, y3, y4, y5, y6⟩ := (put7_blk hPr (.int .i64 bm.nu) (.int .i64 bm.nx) (.int .i64 bm.jo) (.slice E1 bm.segs.length f1) (.slice E2 bm.marks.length f2) (.slice E3 bm.tals.length f3) (.slice E4 bm.exps.length f4)).cell7
      obtain ⟨e0', e1', e2', e3', e4', e5', e6'⟩ := hPr.cell7
      have hBb := hBe.b
      have b0 : wq.cell? ⟨gb, 0, none⟩ = some (.int .i64 bm.nu) := hBb.cell7.1
      have b1 : wq.cell? ⟨gb, 1, none⟩ = some (.int .i64 bm.nx) := hBb.cell7.2.1
      have b2 : wq.cell? ⟨gb, 2, none⟩ = some (.int .i64 bm.jo) := hBb.cell7.2.2.1
      have b3 : wq.cell? ⟨gb, 3, none⟩ = some (.slice E1 bm.segs.length f1) := hBb.cell7.2.2.2.1
      have b4 : wq.cell? ⟨gb, 4, none⟩ = some (.slice E2 bm.marks.length f2) := hBb.cell7.2.2.2.2.1
      have b5 : wq.cell? ⟨gb, 5, none⟩ = some (.slice E3 bm.tals.length f3) := hBb.cell7.2.2.2.2.2.1
      have b6 : wq.cell? ⟨gb, 6, none⟩ = some (.slice E4 bm.exps.length f4) := hBb.cell7.2.2.2.2.2.2
      have g0 := hPr.frozen 0
      have g1 := hPr.frozen 1
      have g2 := hPr.frozen 2
      have g3 := hPr.frozen 3
      have g4 := hPr.frozen 4
      have g5 := hPr.frozen 5
      have g6 := hPr.frozen 6
      clear hgr hBb hBe hPr hb hR hD0 hD1 hbb i0 i1 hA HP h0' h1'
      subst hV0 hV1
      have hd : decide ((k : Int) < 2) = false := by simp; omega
      have hk2 : k = 2 := by omega
      subst hk2
      go_upto_region 10 with fail
      go_wp2_with fail
      refine bodyPost_ret (v := .tuple #[.agg #[.int .i64 bm.nu, .int .i64 bm.nx, .int .i64 bm.jo, .slice E1 bm.segs.length f1, .slice E2 bm.marks.length f2, .slice E3 bm.tals.length f3, .slice E4 bm.exps.length f4], .bool bf]) (by simp [results, Try.results29, go_sem, y0, y1, y2, y3, y4, y5, y6]) rfl ?_
      exact HF.out
def RRecRes (w : World) (l0 l1 : List UInt8) (e : Ending) (w' : World) : Prop :=
  ∃ m0 e0 m1 e1 vS vM vT vE, RDecd l0 m0 e0 ∧ RDecd l1 m1 e1 ∧ e = .returned (.tuple #[.agg (manCells (rec2 m0 e0 m1 e1).1 vS vM vT vE), .bool (rec2 m0 e0 m1 e1).2]) ∧
    Lies w' (btw w.heap.size w'.heap.size) (rec2 m0 e0 m1 e1).1 vS vM vT vE ∧ Below w.heap.size w w'
set_option maxHeartbeats 2000000 in
set_option maxRecDepth 100000 in
theorem refRecover_any (v0 v1 : Value) (l0 l1 : List UInt8) (w : World) (h0 : BSl w (lt w.heap.size) v0 l0) (h1 : BSl w (lt w.heap.size) v1 l1) (hl0 : l0.length ≤ 1000000) (hl1 : l1.length ≤ 1000000) :
    Calls Try.prog 30 #[.agg #[v0, v1]] w (RRecRes w l0 l1) := by
  obtain ⟨A0, n0, c0, rfl⟩ : ∃ A n c, v0 = .slice A n c := by obtain ⟨A, c, h, _⟩ := Sl.form h0; exact ⟨A, _, c, h⟩
  obtain ⟨A1, n1, c1, rfl⟩ : ∃ A n c, v1 = .slice A n c := by obtain ⟨A, c, h, _⟩ := Sl.form h1; exact ⟨A, _, c, h⟩
  go_enter Try.func30, Try.ntmps30
  go_upto_region 1 with fail
  obtain ⟨W, hW⟩ : ∃ W, W = (w.alloc (.cells #[.slice A0 n0 c0, .slice A1 n1 c1] 58)).alloc (.cells manZ7 28) := ⟨_, rfl⟩
  obtain ⟨gs, hgs⟩ : ∃ gs, gs = w.heap.size := ⟨_, rfl⟩
  obtain ⟨p, hp⟩ : ∃ p, p = gs + 1 := ⟨_, rfl⟩
  have hp' : gs + 1 = p := hp.symm
  rw [← hW, ← hgs]
  simp only [hp']
  have hbW : Below w.heap.size w W := by rw [hW]; exact ((Below.refl _ _).alloc (Nat.le_refl _) _).alloc (by simp) _
  have hS : Blk W gs 58 #[.slice A0 n0 c0, .slice A1 n1 c1] := by rw [hW, hgs]; exact (Blk.new _ _ _).alloc _
  have hP : Blk W p 28 manZ7 := by
    rw [hW, hp, hgs]
    have := Blk.new (w.alloc (.cells #[.slice A0 n0 c0, .slice A1 n1 c1] 58)) 28 manZ7
    simpa using this
  have HP := keep (show w.heap.size ≤ p by omega)
  have h0W : BSl W (lt W.heap.size) (.slice A0 n0 c0) l0 := Sl.more (Sl.below h0 hbW (Nat.le_refl _)) hbW.size
  have h1W : BSl W (lt W.heap.size) (.slice A1 n1 c1) l1 := Sl.more (Sl.below h1 hbW (Nat.le_refl _)) hbW.size
  clear hW hgs hp hp' h0 h1
  obtain ⟨s0, s1⟩ := hS.cell2
  go_wp2_with fail
  refine (refDecode_any _ l0 W h0W hl0).mono ?_
  rintro e w1 ⟨m0, e0, hD0, uS, uM, uT, uE, rfl, hL0, hb1⟩
  obtain ⟨C1, d1, C2, d2, C3, d3, C4, d4, rfl, rfl, rfl, rfl⟩ := man_form hL0
  clear h0W s0 s1
  go_upto_region 2 with fail
  obtain ⟨ga, hga⟩ : ∃ ga, ga = w1.heap.size := ⟨_, rfl⟩
  obtain ⟨wa, hwa⟩ : ∃ wa, wa = w1.alloc (.cells #[.int .i64 m0.nu, .int .i64 m0.nx, .int .i64 m0.jo, .slice C1 m0.segs.length d1, .slice C2 m0.marks.length d2, .slice C3 m0.tals.length d3, .slice C4 m0.exps.length d4] 28) := ⟨_, rfl⟩
  rw [← hwa, ← hga]
  have hba : Below w1.heap.size w1 wa := by rw [hwa]; exact (Below.refl _ _).alloc (Nat.le_refl _) _
  have hBa : Blk wa ga 28 #[.int .i64 m0.nu, .int .i64 m0.nx, .int .i64 m0.jo, .slice C1 m0.segs.length d1, .slice C2 m0.marks.length d2, .slice C3 m0.tals.length d3, .slice C4 m0.exps.length d4] := by rw [hwa, hga]; exact Blk.new _ _ _
  have hWa := bchain hb1 hba
  have hSa := hS.below hWa hS.lt
  have hPa := hP.below hWa hP.lt
  have hlp := hP.lt
  have h1a : BSl wa (lt wa.heap.size) (.slice A1 n1 c1) l1 := Sl.more (Sl.below h1W hWa (Nat.le_refl _)) hWa.size
  have hLa : Lies wa (btw (p + 1) wa.heap.size) m0 (.slice C1 m0.segs.length d1) (.slice C2 m0.marks.length d2) (.slice C3 m0.tals.length d3) (.slice C4 m0.exps.length d4) := by
    have hza := hba.size
    have h1 := hL0.mono (S' := btw (p + 1) w1.heap.size) (fun k hk => ⟨by have := hk.1; omega, hk.2⟩)
    exact ⟨(h1.s.under hba (fun _ hk => hk.2)).mono (fun _ hk => ⟨hk.1, Nat.lt_of_lt_of_le hk.2 hza⟩), (h1.m_.under hba (fun _ hk => hk.2)).mono (fun _ hk => ⟨hk.1, Nat.lt_of_lt_of_le hk.2 hza⟩),
      (h1.t.under hba (fun _ hk => hk.2)).mono (fun _ hk => ⟨hk.1, Nat.lt_of_lt_of_le hk.2 hza⟩), (h1.e.under hba (fun _ hk => hk.2)).mono (fun _ hk => ⟨hk.1, Nat.lt_of_lt_of_le hk.2 hza⟩)⟩
  have hbwa := bchain hbW hWa
  have hlpa : p < wa.heap.size := hPa.lt
  clear hwa hga hba hL0 hb1 hS hP hbW h1W hWa hlp
  obtain ⟨s0, s1⟩ := hSa.cell2
  go_wp2_with fail
  refine (refDecode_any _ l1 wa h1a hl1).mono ?_
  rintro e w2 ⟨m1, e1, hD1, uS, uM, uT, uE, rfl, hL1, hb2⟩
  obtain ⟨E1, f1, E2, f2, E3, f3, E4, f4, rfl, rfl, rfl, rfl⟩ := man_form hL1
  clear h1a s0 s1
  go_upto_region 3 with fail
  obtain ⟨gb, hgb⟩ : ∃ gb, gb = w2.heap.size := ⟨_, rfl⟩
  obtain ⟨wb, hwb⟩ : ∃ wb, wb = w2.alloc (.cells #[.int .i64 m1.nu, .int .i64 m1.nx, .int .i64 m1.jo, .slice E1 m1.segs.length f1, .slice E2 m1.marks.length f2, .slice E3 m1.tals.length f3, .slice E4 m1.exps.length f4] 28) := ⟨_, rfl⟩
  rw [← hwb, ← hgb]
  have hbb : Below w2.heap.size w2 wb := by rw [hwb]; exact (Below.refl _ _).alloc (Nat.le_refl _) _
  have hBb : Blk wb gb 28 #[.int .i64 m1.nu, .int .i64 m1.nx, .int .i64 m1.jo, .slice E1 m1.segs.length f1, .slice E2 m1.marks.length f2, .slice E3 m1.tals.length f3, .slice E4 m1.exps.length f4] := by rw [hwb, hgb]; exact Blk.new _ _ _
  have hWb := bchain hb2 hbb
  have hBa2 := hBa.below hWb hBa.lt
  have hPb := hPa.below hWb hPa.lt
  have hLb : Lies wb (btw (p + 1) wb.heap.size) m1 (.slice E1 m1.segs.length f1) (.slice E2 m1.marks.length f2) (.slice E3 m1.tals.length f3) (.slice E4 m1.exps.length f4) := by
    have hzb := hbb.size
    have h1 := hL1.mono (S' := btw (p + 1) w2.heap.size) (fun k hk => ⟨by have := hk.1; omega, hk.2⟩)
    exact ⟨(h1.s.under hbb (fun _ hk => hk.2)).mono (fun _ hk => ⟨hk.1, Nat.lt_of_lt_of_le hk.2 hzb⟩), (h1.m_.under hbb (fun _ hk => hk.2)).mono (fun _ hk => ⟨hk.1, Nat.lt_of_lt_of_le hk.2 hzb⟩),
      (h1.t.under hbb (fun _ hk => hk.2)).mono (fun _ hk => ⟨hk.1, Nat.lt_of_lt_of_le hk.2 hzb⟩), (h1.e.under hbb (fun _ hk => hk.2)).mono (fun _ hk => ⟨hk.1, Nat.lt_of_lt_of_le hk.2 hzb⟩)⟩
  have hLa2 : Lies wb (btw (p + 1) wb.heap.size) m0 (.slice C1 m0.segs.length d1) (.slice C2 m0.marks.length d2) (.slice C3 m0.tals.length d3) (.slice C4 m0.exps.length d4) := by
    have hz := hWb.size
    exact ⟨(hLa.s.under hWb (fun _ hk => hk.2)).mono (fun _ hk => ⟨hk.1, Nat.lt_of_lt_of_le hk.2 hz⟩), (hLa.m_.under hWb (fun _ hk => hk.2)).mono (fun _ hk => ⟨hk.1, Nat.lt_of_lt_of_le hk.2 hz⟩),
      (hLa.t.under hWb (fun _ hk => hk.2)).mono (fun _ hk => ⟨hk.1, Nat.lt_of_lt_of_le hk.2 hz⟩), (hLa.e.under hWb (fun _ hk => hk.2)).mono (fun _ hk => ⟨hk.1, Nat.lt_of_lt_of_le hk.2 hz⟩)⟩
  have hLa := hLa2
  have hbwb := bchain hbwa hWb
  clear hwb hgb hbb hL1 hb2 hSa hPa hbwa hWb hLa2 hBa hlpa
  obtain ⟨a0, a1, a2, a3, a4, a5, a6⟩ := hBa2.cell7
  obtain ⟨b0, b1, b2, b3, b4, b5, b6⟩ := hBb.cell7
  obtain ⟨q0, q1, q2, q3, q4, q5, q6⟩ := hPb.cell7
  have g0 := hPb.frozen 0
  have g1 := hPb.frozen 1
  have g2 := hPb.frozen 2
  have g3 := hPb.frozen 3
  have g4 := hPb.frozen 4
  have g5 := hPb.frozen 5
  have g6 := hPb.frozen 6
  clear hBa2 hBb
  by_cases hE0 : e0 = 0
  · by_cases hE1 : e1 = 0
    · by_cases hnu : m1.nu ≤ m0.nu
      · have hrec : rec2 m0 e0 m1 e1 = (m0, true) := by unfold rec2; rw [if_pos ⟨hE0, .inr hnu⟩]
        subst hE0 hE1
        have hgr := put7_grown wb p (.int .i64 m0.nu) (.int .i64 m0.nx) (.int .i64 m0.jo) (.slice C1 m0.segs.length d1) (.slice C2 m0.marks.length d2) (.slice C3 m0.tals.length d3) (.slice C4 m0.exps.length d4)
        have HF : Hid (RRecRes w l0 l1 (.returned (.tuple #[.agg #[.int .i64 m0.nu, .int .i64 m0.nx, .int .i64 m0.jo, .slice C1 m0.segs.length d1, .slice C2 m0.marks.length d2, .slice C3 m0.tals.length d3, .slice C4 m0.exps.length d4], .bool true])) (put7 wb p (.int .i64 m0.nu) (.int .i64 m0.nx) (.int .i64 m0.jo) (.slice C1 m0.segs.length d1) (.slice C2 m0.marks.length d2) (.slice C3 m0.tals.length d3) (.slice C4 m0.exps.length d4))) := by
          refine keep ⟨m0, _, m1, _, _, _, _, _, hD0, hD1, by (rw [hrec]; try rfl), ?_, below_grown hbwb hgr hbwb.size (by have := HP.out; omega)⟩
          rw [hrec]
          have hc : ∀ k, btw (p + 1) wb.heap.size k → k < wb.heap.size ∧ some k ≠ some p := fun k hk => ⟨hk.2, fun e => by injection e with e; have := hk.1; omega⟩
          have hc2 : ∀ k, btw (p + 1) wb.heap.size k → btw w.heap.size (put7 wb p (.int .i64 m0.nu) (.int .i64 m0.nx) (.int .i64 m0.jo) (.slice C1 m0.segs.length d1) (.slice C2 m0.marks.length d2) (.slice C3 m0.tals.length d3) (.slice C4 m0.exps.length d4)).heap.size k := fun k hk => ⟨by have := hk.1; have := HP.out; omega, Nat.lt_of_lt_of_le hk.2 hgr.size⟩
          exact ⟨(hLa.s.grown hgr hc).mono hc2, (hLa.m_.grown hgr hc).mono hc2, (hLa.t.grown hgr hc).mono hc2, (hLa.e.grown hgr hc).mono hc2⟩
        obtain ⟨y0, y1, y2, y3, y4, y5, y6⟩ := (put7_blk hPb (.int .i64 m0.nu) (.int .i64 m0.nx) (.int .i64 m0.jo) (.slice C1 m0.segs.length d1) (.slice C2 m0.marks.length d2) (.slice C3 m0.tals.length d3) (.slice C4 m0.exps.length d4)).cell7
        clear hgr hD0 hD1 hrec hLa hLb hbwb
        go_wp2_with fail
        refine bodyPost_ret (v := .tuple #[.agg #[.int .i64 m0.nu, .int .i64 m0.nx, .int .i64 m0.jo, .slice C1 m0.segs.length d1, .slice C2 m0.marks.length d2, .slice C3 m0.tals.length d3, .slice C4 m0.exps.length d4], .bool true]) (by simp [results, Try.results30, go_sem, y0, y1, y2, y3, y4, y5, y6]) rfl ?_
        exact HF.out
      · have hrec : rec2 m0 e0 m1 e1 = (m1, true) := by unfold rec2; rw [if_neg (fun h => h.2.elim (fun h => h hE1) hnu), if_pos hE1]
        subst hE0 hE1
        have hgr := put7_grown wb p (.int .i64 m1.nu) (.int .i64 m1.nx) (.int .i64 m1.jo) (.slice E1 m1.segs.length f1) (.slice E2 m1.marks.length f2) (.slice E3 m1.tals.length f3) (.slice E4 m1.exps.length f4)
        have HF : Hid (RRecRes w l0 l1 (.returned (.tuple #[.agg #[.int .i64 m1.nu, .int .i64 m1.nx, .int .i64 m1.jo, .slice E1 m1.segs.length f1, .slice E2 m1.marks.length f2, .slice E3 m1.tals.length f3, .slice E4 m1.exps.length f4], .bool true])) (put7 wb p (.int .i64 m1.nu) (.int .i64 m1.nx) (.int .i64 m1.jo) (.slice E1 m1.segs.length f1) (.slice E2 m1.marks.length f2) (.slice E3 m1.tals.length f3) (.slice E4 m1.exps.length f4))) := by
          refine keep ⟨m0, _, m1, _, _, _, _, _, hD0, hD1, by (rw [hrec]; try rfl), ?_, below_grown hbwb hgr hbwb.size (by have := HP.out; omega)⟩
          rw [hrec]
          have hc : ∀ k, btw (p + 1) wb.heap.size k → k < wb.heap.size ∧ some k ≠ some p := fun k hk => ⟨hk.2, fun e => by injection e with e; have := hk.1; omega⟩
          have hc2 : ∀ k, btw (p + 1) wb.heap.size k → btw w.heap.size (put7 wb p (.int .i64 m1.nu) (.int .i64 m1.nx) (.int .i64 m1.jo) (.slice E1 m1.segs.length f1) (.slice E2 m1.marks.length f2) (.slice E3 m1.tals.length f3) (.slice E4 m1.exps.length f4)).heap.size k := fun k hk => ⟨by have := hk.1; have := HP.out; omega, Nat.lt_of_lt_of_le hk.2 hgr.size⟩
          exact ⟨(hLb.s.grown hgr hc).mono hc2, (hLb.m_.grown hgr hc).mono hc2, (hLb.t.grown hgr hc).mono hc2, (hLb.e.grown hgr hc).mono hc2⟩
        obtain ⟨y0, y1, y2, y3, y4, y5, y6⟩ := (put7_blk hPb (.int .i64 m1.nu) (.int .i64 m1.nx) (.int .i64 m1.jo) (.slice E1 m1.segs.length f1) (.slice E2 m1.marks.length f2) (.slice E3 m1.tals.length f3) (.slice E4 m1.exps.length f4)).cell7
        clear hgr hD0 hD1 hrec hLa hLb hbwb
        go_wp2_with fail
        refine bodyPost_ret (v := .tuple #[.agg #[.int .i64 m1.nu, .int .i64 m1.nx, .int .i64 m1.jo, .slice E1 m1.segs.length f1, .slice E2 m1.marks.length f2, .slice E3 m1.tals.length f3, .slice E4 m1.exps.length f4], .bool true]) (by simp [results, Try.results30, go_sem, y0, y1, y2, y3, y4, y5, y6]) rfl ?_
        exact HF.out
    · have hrec : rec2 m0 e0 m1 e1 = (m0, true) := by unfold rec2; rw [if_pos ⟨hE0, .inl hE1⟩]
      have hx1 : (e1 == 0) = false := by simpa using hE1
      have hx2 : (e1 != 0) = true := by simpa using hE1
      subst hE0
      clear hE1
      · skip
        have hgr := put7_grown wb p (.int .i64 m0.nu) (.int .i64 m0.nx) (.int .i64 m0.jo) (.slice C1 m0.segs.length d1) (.slice C2 m0.marks.length d2) (.slice C3 m0.tals.length d3) (.slice C4 m0.exps.length d4)
        have HF : Hid (RRecRes w l0 l1 (.returned (.tuple #[.agg #[.int .i64 m0.nu, .int .i64 m0.nx, .int .i64 m0.jo, .slice C1 m0.segs.length d1, .slice C2 m0.marks.length d2, .slice C3 m0.tals.length d3, .slice C4 m0.exps.length d4], .bool true])) (put7 wb p (.int .i64 m0.nu) (.int .i64 m0.nx) (.int .i64 m0.jo) (.slice C1 m0.segs.length d1) (.slice C2 m0.marks.length d2) (.slice C3 m0.tals.length d3) (.slice C4 m0.exps.length d4))) := by
          refine keep ⟨m0, _, m1, _, _, _, _, _, hD0, hD1, by (rw [hrec]; try rfl), ?_, below_grown hbwb hgr hbwb.size (by have := HP.out; omega)⟩
          rw [hrec]
          have hc : ∀ k, btw (p + 1) wb.heap.size k → k < wb.heap.size ∧ some k ≠ some p := fun k hk => ⟨hk.2, fun e => by injection e with e; have := hk.1; omega⟩
          have hc2 : ∀ k, btw (p + 1) wb.heap.size k → btw w.heap.size (put7 wb p (.int .i64 m0.nu) (.int .i64 m0.nx) (.int .i64 m0.jo) (.slice C1 m0.segs.length d1) (.slice C2 m0.marks.length d2) (.slice C3 m0.tals.length d3) (.slice C4 m0.exps.length d4)).heap.size k := fun k hk => ⟨by have := hk.1; have := HP.out; omega, Nat.lt_of_lt_of_le hk.2 hgr.size⟩
          exact ⟨(hLa.s.grown hgr hc).mono hc2, (hLa.m_.grown hgr hc).mono hc2, (hLa.t.grown hgr hc).mono hc2, (hLa.e.grown hgr hc).mono hc2⟩
        obtain ⟨y0, y1, y2, y3, y4, y5, y6⟩ := (put7_blk hPb (.int .i64 m0.nu) (.int .i64 m0.nx) (.int .i64 m0.jo) (.slice C1 m0.segs.length d1) (.slice C2 m0.marks.length d2) (.slice C3 m0.tals.length d3) (.slice C4 m0.exps.length d4)).cell7
        clear hgr hD0 hD1 hrec hLa hLb hbwb
        go_wp2_with fail
        refine bodyPost_ret (v := .tuple #[.agg #[.int .i64 m0.nu, .int .i64 m0.nx, .int .i64 m0.jo, .slice C1 m0.segs.length d1, .slice C2 m0.marks.length d2, .slice C3 m0.tals.length d3, .slice C4 m0.exps.length d4], .bool true]) (by simp [results, Try.results30, go_sem, y0, y1, y2, y3, y4, y5, y6]) rfl ?_
        exact HF.out
  · by_cases hE1 : e1 = 0
    · have hrec : rec2 m0 e0 m1 e1 = (m1, true) := by unfold rec2; rw [if_neg (fun h => hE0 h.1), if_pos hE1]
      have hx1 : (e0 == 0) = false := by simpa using hE0
      subst hE1
      clear hE0
      · skip
        have hgr := put7_grown wb p (.int .i64 m1.nu) (.int .i64 m1.nx) (.int .i64 m1.jo) (.slice E1 m1.segs.length f1) (.slice E2 m1.marks.length f2) (.slice E3 m1.tals.length f3) (.slice E4 m1.exps.length f4)
        have HF : Hid (RRecRes w l0 l1 (.returned (.tuple #[.agg #[.int .i64 m1.nu, .int .i64 m1.nx, .int .i64 m1.jo, .slice E1 m1.segs.length f1, .slice E2 m1.marks.length f2, .slice E3 m1.tals.length f3, .slice E4 m1.exps.length f4], .bool true])) (put7 wb p (.int .i64 m1.nu) (.int .i64 m1.nx) (.int .i64 m1.jo) (.slice E1 m1.segs.length f1) (.slice E2 m1.marks.length f2) (.slice E3 m1.tals.length f3) (.slice E4 m1.exps.length f4))) := by
          refine keep ⟨m0, _, m1, _, _, _, _, _, hD0, hD1, by (rw [hrec]; try rfl), ?_, below_grown hbwb hgr hbwb.size (by have := HP.out; omega)⟩
          rw [hrec]
          have hc : ∀ k, btw (p + 1) wb.heap.size k → k < wb.heap.size ∧ some k ≠ some p := fun k hk => ⟨hk.2, fun e => by injection e with e; have := hk.1; omega⟩
          have hc2 : ∀ k, btw (p + 1) wb.heap.size k → btw w.heap.size (put7 wb p (.int .i64 m1.nu) (.int .i64 m1.nx) (.int .i64 m1.jo) (.slice E1 m1.segs.length f1) (.slice E2 m1.marks.length f2) (.slice E3 m1.tals.length f3) (.slice E4 m1.exps.length f4)).heap.size k := fun k hk => ⟨by have := hk.1; have := HP.out; omega, Nat.lt_of_lt_of_le hk.2 hgr.size⟩
          exact ⟨(hLb.s.grown hgr hc).mono hc2, (hLb.m_.grown hgr hc).mono hc2, (hLb.t.grown hgr hc).mono hc2, (hLb.e.grown hgr hc).mono hc2⟩
        obtain ⟨y0, y1, y2, y3, y4, y5, y6⟩ := (put7_blk hPb (.int .i64 m1.nu) (.int .i64 m1.nx) (.int .i64 m1.jo) (.slice E1 m1.segs.length f1) (.slice E2 m1.marks.length f2) (.slice E3 m1.tals.length f3) (.slice E4 m1.exps.length f4)).cell7
        clear hgr hD0 hD1 hrec hLa hLb hbwb
        go_wp2_with fail
        refine bodyPost_ret (v := .tuple #[.agg #[.int .i64 m1.nu, .int .i64 m1.nx, .int .i64 m1.jo, .slice E1 m1.segs.length f1, .slice E2 m1.marks.length f2, .slice E3 m1.tals.length f3, .slice E4 m1.exps.length f4], .bool true]) (by simp [results, Try.results30, go_sem, y0, y1, y2, y3, y4, y5, y6]) rfl ?_
        exact HF.out
    · have hrec : rec2 m0 e0 m1 e1 = (manZero, false) := by unfold rec2; rw [if_neg (fun h => hE0 h.1), if_neg hE1]
      have hx1 : (e0 == 0) = false := by simpa using hE0
      have hx2 : (e1 == 0) = false := by simpa using hE1
      clear hE0 hE1
      · skip
        have hgr := put7_grown wb p (.int .i64 0) (.int .i64 0) (.int .i64 0) (.slice none 0 0) (.slice none 0 0) (.slice none 0 0) (.slice none 0 0)
        have HF : Hid (RRecRes w l0 l1 (.returned (.tuple #[.agg manZ7, .bool false])) (put7 wb p (.int .i64 0) (.int .i64 0) (.int .i64 0) (.slice none 0 0) (.slice none 0 0) (.slice none 0 0) (.slice none 0 0))) := by
          refine keep ⟨m0, _, m1, _, _, _, _, _, hD0, hD1, by (rw [hrec]; try rfl), ?_, below_grown hbwb hgr hbwb.size (by have := HP.out; omega)⟩
          rw [hrec]
          exact lies_zero _ _
        obtain ⟨y0, y1, y2, y3, y4, y5, y6⟩ := (put7_blk hPb (.int .i64 0) (.int .i64 0) (.int .i64 0) (.slice none 0 0) (.slice none 0 0) (.slice none 0 0) (.slice none 0 0)).cell7
        clear hgr hD0 hD1 hrec hLa hLb hbwb
        go_wp2_with fail
        refine bodyPost_ret (v := .tuple #[.agg manZ7, .bool false]) (by simp [results, Try.results30, go_sem, y0, y1, y2, y3, y4, y5, y6]) rfl ?_
        exact HF.out
theorem rec_agree {l0 l1 : List UInt8} (hl0 : l0.length ≤ 1000000) (hl1 : l1.length ≤ 1000000) {m0 m1 m0' m1' : Man} {e0 e1 e0' e1' : Int} (h0 : Decd l0 m0 e0) (h1 : Decd l1 m1 e1) (h0' : RDecd l0 m0' e0') (h1' : RDecd l1 m1' e1') :
    rec2 m0' e0' m1' e1' = rec2 m0 e0 m1 e1 := by
  obtain ⟨rfl, rfl⟩ := dec_agree hl0 h0 h0'
  obtain ⟨rfl, rfl⟩ := dec_agree hl1 h1 h1'
  rfl
theorem rec2_small {l0 l1 : List UInt8} (hl0 : l0.length ≤ 1000000) (hl1 : l1.length ≤ 1000000) {m0 m1 : Man} {e0 e1 : Int} (h0 : Decd l0 m0 e0) (h1 : Decd l1 m1 e1) : Small (rec2 m0 e0 m1 e1).1 := by
  unfold rec2
  split
  · exact h0.small hl0
  · split
    · exact h1.small hl1
    · exact ⟨by simp [manZero], by simp [manZero], by simp [manZero], by simp [manZero]⟩
/-- The slots behind a manifest that is written. -/
def slotOut (m : Man) (l0 l1 : List UInt8) : List UInt8 × List UInt8 := if manErr m = 0 then (if m.nu % 2 = 0 then (encB m, l1) else (l0, encB m)) else (l0, l1)
def WriteRes (w : World) (m : Man) (l0 l1 : List UInt8) (e : Ending) (w' : World) : Prop :=
  ∃ u0 u1, e = .returned (.tuple #[.agg #[u0, u1], .int .i64 (manErr m)]) ∧ BSl w' (lt w'.heap.size) u0 (slotOut m l0 l1).1 ∧ BSl w' (lt w'.heap.size) u1 (slotOut m l0 l1).2 ∧ Below w.heap.size w w'
def WriteResS (w : World) (S : Nat → Prop) (m : Man) (l0 l1 : List UInt8) (e : Ending) (w' : World) : Prop :=
  ∃ u0 u1, e = .returned (.tuple #[.agg #[u0, u1], .int .i64 (manErr m)]) ∧ BSl w' (fun k => S k ∨ btw w.heap.size w'.heap.size k) u0 (slotOut m l0 l1).1 ∧ BSl w' (fun k => S k ∨ btw w.heap.size w'.heap.size k) u1 (slotOut m l0 l1).2 ∧ Below w.heap.size w w'
theorem WriteResS.res {w w' : World} {m : Man} {l0 l1 : List UInt8} {e : Ending} (h : WriteResS w (lt w.heap.size) m l0 l1 e w') : WriteRes w m l0 l1 e w' := by
  obtain ⟨u0, u1, h1, h2, h3, h4⟩ := h
  have hs := h4.size
  have hk : ∀ k, (lt w.heap.size k ∨ btw w.heap.size w'.heap.size k) → lt w'.heap.size k := fun k hk => hk.elim (fun h => Nat.lt_of_lt_of_le h hs) (fun h => h.2)
  exact ⟨u0, u1, h1, Sl.mono h2 hk, Sl.mono h3 hk, h4⟩
theorem manErr_nu {m : Man} (h : manErr m = 0) : 0 ≤ m.nu := by
  unfold manErr at h
  split at h
  · cases h
  · split at h
    · cases h
    · rename_i h2
      have : ¬ m.nu < 0 := fun h => h2 (.inl h)
      omega
set_option maxHeartbeats 2000000 in
set_option maxRecDepth 100000 in
theorem write_anyS (v0 v1 : Value) (l0 l1 : List UInt8) (m : Man) (vS vM vT vE : Value) (w : World) (S : Nat → Prop) (hSS : ∀ k, S k → k < w.heap.size) (h0 : BSl w S v0 l0) (h1 : BSl w S v1 l1) (hL : Lies w (lt w.heap.size) m vS vM vT vE) (hsm : Small m) (hT : (encM m).length + 4 ≤ 140737488355328) :
    Calls Try.prog 27 #[.agg #[v0, v1], .agg (manCells m vS vM vT vE)] w (WriteResS w S m l0 l1) := by
  obtain ⟨A0, n0, c0, rfl⟩ : ∃ A n c, v0 = .slice A n c := by obtain ⟨A, c, h, _⟩ := Sl.form h0; exact ⟨A, _, c, h⟩
  obtain ⟨A1, n1, c1, rfl⟩ : ∃ A n c, v1 = .slice A n c := by obtain ⟨A, c, h, _⟩ := Sl.form h1; exact ⟨A, _, c, h⟩
  obtain ⟨E1, f1, E2, f2, E3, f3, E4, f4, rfl, rfl, rfl, rfl⟩ := man_form hL
  go_enter Try.func27, Try.ntmps27
  go_upto_region 1 with fail
  obtain ⟨X, hX⟩ : ∃ X, X = manCells m (.slice E1 m.segs.length f1) (.slice E2 m.marks.length f2) (.slice E3 m.tals.length f3) (.slice E4 m.exps.length f4) := ⟨_, rfl⟩
  obtain ⟨W, hW⟩ : ∃ W, W = ((w.alloc (.cells #[.slice A0 n0 c0, .slice A1 n1 c1] 58)).alloc (.cells X 28)).alloc (.cells #[.slice none 0 0, .slice none 0 0] 58) := ⟨_, rfl⟩
  obtain ⟨gs, hgs⟩ : ∃ gs, gs = w.heap.size := ⟨_, rfl⟩
  obtain ⟨gm, hgm⟩ : ∃ gm, gm = gs + 1 := ⟨_, rfl⟩
  obtain ⟨gp, hgp⟩ : ∃ gp, gp = gm + 1 := ⟨_, rfl⟩
  have hgm' : gs + 1 = gm := hgm.symm
  have hgp' : gm + 1 = gp := hgp.symm
  rw [← hX, ← hW, ← hgs]
  simp only [hgm', hgp']
  have hbW : Below w.heap.size w W := by rw [hW]; exact (((Below.refl _ _).alloc (Nat.le_refl _) _).alloc (by simp) _).alloc (by simp; omega) _
  have hS : Blk W gs 58 #[.slice A0 n0 c0, .slice A1 n1 c1] := by rw [hW, hgs]; exact ((Blk.new _ _ _).alloc _).alloc _
  have hM : Blk W gm 28 X := by
    rw [hW, hgm, hgs]
    have := (Blk.new (w.alloc (.cells #[.slice A0 n0 c0, .slice A1 n1 c1] 58)) 28 X).alloc (.cells #[.slice none 0 0, .slice none 0 0] 58)
    simpa using this
  have hP : Blk W gp 58 #[.slice none 0 0, .slice none 0 0] := by
    rw [hW, hgp, hgm, hgs]
    have := Blk.new ((w.alloc (.cells #[.slice A0 n0 c0, .slice A1 n1 c1] 58)).alloc (.cells X 28)) 58 #[.slice none 0 0, .slice none 0 0]
    simpa using this
  have h0W : BSl W S (.slice A0 n0 c0) l0 := Sl.under h0 hbW hSS
  have h1W : BSl W S (.slice A1 n1 c1) l1 := Sl.under h1 hbW hSS
  have hLW := hL.below hbW
  have hgw : w.heap.size ≤ gs := by omega
  have hgsm : gs < gm := by omega
  have hgmp : gm < gp := by omega
  subst hX
  clear hW hgs hgm hgp hgm' hgp' h0 h1 hL
  obtain ⟨a0, a1, a2, a3, a4, a5, a6⟩ := hM.cell7
  go_wp2_with fail
  refine (encode_any m _ _ _ _ W hLW hsm hT).mono ?_
  rintro e w1 ⟨vN, rfl, hoN, hb1⟩
  obtain ⟨AN, nN, cN, rfl⟩ := hoN.shape
  obtain ⟨er, her⟩ : ∃ er, manErr m = er := ⟨_, rfl⟩
  have hM1 := hM.below hb1 hM.lt
  have hS1 := hS.below hb1 hS.lt
  have hP1 := hP.below hb1 hP.lt
  have hbw1 := bchain hbW hb1
  have hzW := hbW.size
  have h01 : BSl w1 S (.slice A0 n0 c0) l0 := Sl.under h0W hb1 (fun k hk => Nat.lt_of_lt_of_le (hSS k hk) hzW)
  have h11 : BSl w1 S (.slice A1 n1 c1) l1 := Sl.under h1W hb1 (fun k hk => Nat.lt_of_lt_of_le (hSS k hk) hzW)
  have hN1 : BSl w1 (btw W.heap.size w1.heap.size) (.slice AN nN cN) (encOut m) := hoN.sl
  have hpW : gp < W.heap.size := hP.lt
  rw [her]
  clear a0 a1 a2 a3 a4 a5 a6 hM hS hP hb1 h0W h1W hLW hoN hbW
  obtain ⟨a0, a1, a2, a3, a4, a5, a6⟩ := hM1.cell7
  obtain ⟨s0, s1⟩ := hS1.cell2
  obtain ⟨q0, q1⟩ := hP1.cell2
  have fs0 := hS1.frozen 0
  have fs1 := hS1.frozen 1
  have fp0 := hP1.frozen 0
  have fp1 := hP1.frozen 1
  have HER := keep her
  clear hM1 her
  by_cases hE : er = 0
  · have hnu := manErr_nu (HER.out.trans hE)
    have hout : encOut m = encB m := by unfold encOut; rw [if_pos (HER.out.trans hE)]
    rw [hout] at hN1
    subst hE
    rcases (by omega : m.nu % 2 = 0 ∨ m.nu % 2 = 1) with hr | hr
    · have hso : slotOut m l0 l1 = (encB m, l1) := by unfold slotOut; rw [if_pos HER.out]; rw [if_pos hr]
      have hS2 : Blk (w1.setCell ⟨gs, 0, none⟩ (.slice AN nN cN)) gs 58 #[.slice AN nN cN, .slice A1 n1 c1] := hS1.set_ 0 _
      have hP2 := hP1.far (p := ⟨gs, 0, none⟩) (by show gp ≠ gs; omega) (.slice AN nN cN)
      have hP3 : Blk (((w1.setCell ⟨gs, 0, none⟩ (.slice AN nN cN)).setCell ⟨gp, 0, none⟩ (.slice AN nN cN)).setCell ⟨gp, 1, none⟩ (.slice A1 n1 c1)) gp 58 #[.slice AN nN cN, .slice A1 n1 c1] := (hP2.set_ 0 _).set_ 1 _
      obtain ⟨t0, t1⟩ := hS2.cell2
      obtain ⟨y0, y1⟩ := hP3.cell2
      have hgr : w1.grownBy (w1.setCell ⟨gs, 0, none⟩ (.slice AN nN cN)) (some gs) := grownBy_set (World.grownBy.refl _ _) _ _
      have hgr2 : (w1.setCell ⟨gs, 0, none⟩ (.slice AN nN cN)).grownBy (((w1.setCell ⟨gs, 0, none⟩ (.slice AN nN cN)).setCell ⟨gp, 0, none⟩ (.slice AN nN cN)).setCell ⟨gp, 1, none⟩ (.slice A1 n1 c1)) (some gp) := grownBy_set (grownBy_set (World.grownBy.refl _ _) _ _) _ _
      have HF : Hid (WriteResS w S m l0 l1 (.returned (.tuple #[.agg #[.slice AN nN cN, .slice A1 n1 c1], .int .i64 0])) (((w1.setCell ⟨gs, 0, none⟩ (.slice AN nN cN)).setCell ⟨gp, 0, none⟩ (.slice AN nN cN)).setCell ⟨gp, 1, none⟩ (.slice A1 n1 c1))) := by
        have hs1 := hgr.size
        have hs2 := hgr2.size
        have hs0 := hbw1.size
        have k0 : ∀ {v l}, BSl w1 S v l → BSl (((w1.setCell ⟨gs, 0, none⟩ (.slice AN nN cN)).setCell ⟨gp, 0, none⟩ (.slice AN nN cN)).setCell ⟨gp, 1, none⟩ (.slice A1 n1 c1)) (fun k => S k ∨ btw w.heap.size (((w1.setCell ⟨gs, 0, none⟩ (.slice AN nN cN)).setCell ⟨gp, 0, none⟩ (.slice AN nN cN)).setCell ⟨gp, 1, none⟩ (.slice A1 n1 c1)).heap.size k) v l := fun h =>
          Sl.mono (Sl.grown (Sl.grown h hgr (fun k hk => by have hk' := hSS k hk; exact ⟨by omega, fun e => by injection e; omega⟩)) hgr2 (fun k hk => by have hk' := hSS k hk; exact ⟨by omega, fun e => by injection e; omega⟩)) (fun k hk => .inl hk)
        have k1 : ∀ {v l}, BSl w1 (btw W.heap.size w1.heap.size) v l → BSl (((w1.setCell ⟨gs, 0, none⟩ (.slice AN nN cN)).setCell ⟨gp, 0, none⟩ (.slice AN nN cN)).setCell ⟨gp, 1, none⟩ (.slice A1 n1 c1)) (fun k => S k ∨ btw w.heap.size (((w1.setCell ⟨gs, 0, none⟩ (.slice AN nN cN)).setCell ⟨gp, 0, none⟩ (.slice AN nN cN)).setCell ⟨gp, 1, none⟩ (.slice A1 n1 c1)).heap.size k) v l := fun h =>
          Sl.mono (Sl.grown (Sl.grown h hgr (fun k hk => ⟨by have := hk.2; omega, fun e => by injection e; have := hk.1; omega⟩)) hgr2 (fun k hk => ⟨by have := hk.2; omega, fun e => by injection e; have := hk.1; omega⟩)) (fun k hk => .inr ⟨by have := hk.1; omega, by have := hk.2; omega⟩)
        refine keep ⟨.slice AN nN cN, .slice A1 n1 c1, by rw [HER.out], ?_, ?_, below_grown (below_grown hbw1 hgr hbw1.size (by omega)) hgr2 (by omega) (by omega)⟩
        · rw [hso]; exact k1 hN1
        · rw [hso]; exact k0 h11
      have fq0 := hP2.frozen 0
      have fq1 := hP2.frozen 1
      obtain ⟨z0, z1⟩ := hP2.cell2
      clear hS1 hP1 hS2 hP2 hP3 hgr hgr2 hso hN1 hout h01 h11 hbw1
      go_wp2_with fail
      refine bodyPost_ret (v := .tuple #[.agg #[.slice AN nN cN, .slice A1 n1 c1], .int .i64 0]) (by simp [results, Try.results27, go_sem, y0, y1]) rfl ?_
      exact HF.out
    · have hso : slotOut m l0 l1 = (l0, encB m) := by unfold slotOut; rw [if_pos HER.out]; rw [if_neg (by omega)]
      have hS2 : Blk (w1.setCell ⟨gs, 1, none⟩ (.slice AN nN cN)) gs 58 #[.slice A0 n0 c0, .slice AN nN cN] := hS1.set_ 1 _
      have hP2 := hP1.far (p := ⟨gs, 1, none⟩) (by show gp ≠ gs; omega) (.slice AN nN cN)
      have hP3 : Blk (((w1.setCell ⟨gs, 1, none⟩ (.slice AN nN cN)).setCell ⟨gp, 0, none⟩ (.slice A0 n0 c0)).setCell ⟨gp, 1, none⟩ (.slice AN nN cN)) gp 58 #[.slice A0 n0 c0, .slice AN nN cN] := (hP2.set_ 0 _).set_ 1 _
      obtain ⟨t0, t1⟩ := hS2.cell2
      obtain ⟨y0, y1⟩ := hP3.cell2
      have hgr : w1.grownBy (w1.setCell ⟨gs, 1, none⟩ (.slice AN nN cN)) (some gs) := grownBy_set (World.grownBy.refl _ _) _ _
      have hgr2 : (w1.setCell ⟨gs, 1, none⟩ (.slice AN nN cN)).grownBy (((w1.setCell ⟨gs, 1, none⟩ (.slice AN nN cN)).setCell ⟨gp, 0, none⟩ (.slice A0 n0 c0)).setCell ⟨gp, 1, none⟩ (.slice AN nN cN)) (some gp) := grownBy_set (grownBy_set (World.grownBy.refl _ _) _ _) _ _
      have HF : Hid (WriteResS w S m l0 l1 (.returned (.tuple #[.agg #[.slice A0 n0 c0, .slice AN nN cN], .int .i64 0])) (((w1.setCell ⟨gs, 1, none⟩ (.slice AN nN cN)).setCell ⟨gp, 0, none⟩ (.slice A0 n0 c0)).setCell ⟨gp, 1, none⟩ (.slice AN nN cN))) := by
        have hs1 := hgr.size
        have hs2 := hgr2.size
        have hs0 := hbw1.size
        have k0 : ∀ {v l}, BSl w1 S v l → BSl (((w1.setCell ⟨gs, 1, none⟩ (.slice AN nN cN)).setCell ⟨gp, 0, none⟩ (.slice A0 n0 c0)).setCell ⟨gp, 1, none⟩ (.slice AN nN cN)) (fun k => S k ∨ btw w.heap.size (((w1.setCell ⟨gs, 1, none⟩ (.slice AN nN cN)).setCell ⟨gp, 0, none⟩ (.slice A0 n0 c0)).setCell ⟨gp, 1, none⟩ (.slice AN nN cN)).heap.size k) v l := fun h =>
          Sl.mono (Sl.grown (Sl.grown h hgr (fun k hk => by have hk' := hSS k hk; exact ⟨by omega, fun e => by injection e; omega⟩)) hgr2 (fun k hk => by have hk' := hSS k hk; exact ⟨by omega, fun e => by injection e; omega⟩)) (fun k hk => .inl hk)
        have k1 : ∀ {v l}, BSl w1 (btw W.heap.size w1.heap.size) v l → BSl (((w1.setCell ⟨gs, 1, none⟩ (.slice AN nN cN)).setCell ⟨gp, 0, none⟩ (.slice A0 n0 c0)).setCell ⟨gp, 1, none⟩ (.slice AN nN cN)) (fun k => S k ∨ btw w.heap.size (((w1.setCell ⟨gs, 1, none⟩ (.slice AN nN cN)).setCell ⟨gp, 0, none⟩ (.slice A0 n0 c0)).setCell ⟨gp, 1, none⟩ (.slice AN nN cN)).heap.size k) v l := fun h =>
          Sl.mono (Sl.grown (Sl.grown h hgr (fun k hk => ⟨by have := hk.2; omega, fun e => by injection e; have := hk.1; omega⟩)) hgr2 (fun k hk => ⟨by have := hk.2; omega, fun e => by injection e; have := hk.1; omega⟩)) (fun k hk => .inr ⟨by have := hk.1; omega, by have := hk.2; omega⟩)
        refine keep ⟨.slice A0 n0 c0, .slice AN nN cN, by rw [HER.out], ?_, ?_, below_grown (below_grown hbw1 hgr hbw1.size (by omega)) hgr2 (by omega) (by omega)⟩
        · rw [hso]; exact k0 h01
        · rw [hso]; exact k1 hN1
      have fq0 := hP2.frozen 0
      have fq1 := hP2.frozen 1
      obtain ⟨z0, z1⟩ := hP2.cell2
      clear hS1 hP1 hS2 hP2 hP3 hgr hgr2 hso hN1 hout h01 h11 hbw1
      go_wp2_with fail
      refine bodyPost_ret (v := .tuple #[.agg #[.slice A0 n0 c0, .slice AN nN cN], .int .i64 0]) (by simp [results, Try.results27, go_sem, y0, y1]) rfl ?_
      exact HF.out
  · have hso : slotOut m l0 l1 = (l0, l1) := by unfold slotOut; rw [if_neg (by rw [HER.out]; exact hE)]
    have hE1 : (er == 0) = false := by simpa using hE
    have hE2 : (er != 0) = true := by simpa using hE
    have hP3 : Blk ((w1.setCell ⟨gp, 0, none⟩ (.slice A0 n0 c0)).setCell ⟨gp, 1, none⟩ (.slice A1 n1 c1)) gp 58 #[.slice A0 n0 c0, .slice A1 n1 c1] := (hP1.set_ 0 _).set_ 1 _
    obtain ⟨y0, y1⟩ := hP3.cell2
    have hgr2 : w1.grownBy ((w1.setCell ⟨gp, 0, none⟩ (.slice A0 n0 c0)).setCell ⟨gp, 1, none⟩ (.slice A1 n1 c1)) (some gp) := grownBy_set (grownBy_set (World.grownBy.refl _ _) _ _) _ _
    have HF : Hid (WriteResS w S m l0 l1 (.returned (.tuple #[.agg #[.slice A0 n0 c0, .slice A1 n1 c1], .int .i64 er])) ((w1.setCell ⟨gp, 0, none⟩ (.slice A0 n0 c0)).setCell ⟨gp, 1, none⟩ (.slice A1 n1 c1))) := by
      have hs2 := hgr2.size
      have hs0 := hbw1.size
      have k0 : ∀ {v l}, BSl w1 S v l → BSl ((w1.setCell ⟨gp, 0, none⟩ (.slice A0 n0 c0)).setCell ⟨gp, 1, none⟩ (.slice A1 n1 c1)) (fun k => S k ∨ btw w.heap.size ((w1.setCell ⟨gp, 0, none⟩ (.slice A0 n0 c0)).setCell ⟨gp, 1, none⟩ (.slice A1 n1 c1)).heap.size k) v l := fun h =>
        Sl.mono (Sl.grown h hgr2 (fun k hk => by have hk' := hSS k hk; exact ⟨by omega, fun e => by injection e; omega⟩)) (fun k hk => .inl hk)
      refine keep ⟨.slice A0 n0 c0, .slice A1 n1 c1, by rw [HER.out], ?_, ?_, below_grown hbw1 hgr2 hbw1.size (by omega)⟩
      · rw [hso]; exact k0 h01
      · rw [hso]; exact k0 h11
    clear hS1 hP1 hP3 hgr2 hso hN1 h01 h11 hbw1 hE
    go_wp2_with fail
    refine bodyPost_ret (v := .tuple #[.agg #[.slice A0 n0 c0, .slice A1 n1 c1], .int .i64 er]) (by simp [results, Try.results27, go_sem, y0, y1]) rfl ?_
    exact HF.out
set_option maxHeartbeats 2000000 in
set_option maxRecDepth 100000 in
theorem refWrite_anyS (v0 v1 : Value) (l0 l1 : List UInt8) (m : Man) (vS vM vT vE : Value) (w : World) (S : Nat → Prop) (hSS : ∀ k, S k → k < w.heap.size) (h0 : BSl w S v0 l0) (h1 : BSl w S v1 l1) (hL : Lies w (lt w.heap.size) m vS vM vT vE) (hsm : Small m) (hT : (encM m).length + 4 ≤ 140737488355328) :
    Calls Try.prog 28 #[.agg #[v0, v1], .agg (manCells m vS vM vT vE)] w (WriteResS w S m l0 l1) := by
  obtain ⟨A0, n0, c0, rfl⟩ : ∃ A n c, v0 = .slice A n c := by obtain ⟨A, c, h, _⟩ := Sl.form h0; exact ⟨A, _, c, h⟩
  obtain ⟨A1, n1, c1, rfl⟩ : ∃ A n c, v1 = .slice A n c := by obtain ⟨A, c, h, _⟩ := Sl.form h1; exact ⟨A, _, c, h⟩
  obtain ⟨E1, f1, E2, f2, E3, f3, E4, f4, rfl, rfl, rfl, rfl⟩ := man_form hL
  go_enter Try.func28, Try.ntmps28
  go_upto_region 1 with fail
  obtain ⟨X, hX⟩ : ∃ X, X = manCells m (.slice E1 m.segs.length f1) (.slice E2 m.marks.length f2) (.slice E3 m.tals.length f3) (.slice E4 m.exps.length f4) := ⟨_, rfl⟩
  obtain ⟨W, hW⟩ : ∃ W, W = ((w.alloc (.cells #[.slice A0 n0 c0, .slice A1 n1 c1] 58)).alloc (.cells X 28)).alloc (.cells #[.slice none 0 0, .slice none 0 0] 58) := ⟨_, rfl⟩
  obtain ⟨gs, hgs⟩ : ∃ gs, gs = w.heap.size := ⟨_, rfl⟩
  obtain ⟨gm, hgm⟩ : ∃ gm, gm = gs + 1 := ⟨_, rfl⟩
  obtain ⟨gp, hgp⟩ : ∃ gp, gp = gm + 1 := ⟨_, rfl⟩
  have hgm' : gs + 1 = gm := hgm.symm
  have hgp' : gm + 1 = gp := hgp.symm
  rw [← hX, ← hW, ← hgs]
  simp only [hgm', hgp']
  have hbW : Below w.heap.size w W := by rw [hW]; exact (((Below.refl _ _).alloc (Nat.le_refl _) _).alloc (by simp) _).alloc (by simp; omega) _
  have hS : Blk W gs 58 #[.slice A0 n0 c0, .slice A1 n1 c1] := by rw [hW, hgs]; exact ((Blk.new _ _ _).alloc _).alloc _
  have hM : Blk W gm 28 X := by
    rw [hW, hgm, hgs]
    have := (Blk.new (w.alloc (.cells #[.slice A0 n0 c0, .slice A1 n1 c1] 58)) 28 X).alloc (.cells #[.slice none 0 0, .slice none 0 0] 58)
    simpa using this
  have hP : Blk W gp 58 #[.slice none 0 0, .slice none 0 0] := by
    rw [hW, hgp, hgm, hgs]
    have := Blk.new ((w.alloc (.cells #[.slice A0 n0 c0, .slice A1 n1 c1] 58)).alloc (.cells X 28)) 58 #[.slice none 0 0, .slice none 0 0]
    simpa using this
  have h0W : BSl W S (.slice A0 n0 c0) l0 := Sl.under h0 hbW hSS
  have h1W : BSl W S (.slice A1 n1 c1) l1 := Sl.under h1 hbW hSS
  have hLW := hL.below hbW
  have hgw : w.heap.size ≤ gs := by omega
  have hgsm : gs < gm := by omega
  have hgmp : gm < gp := by omega
  subst hX
  clear hW hgs hgm hgp hgm' hgp' h0 h1 hL
  obtain ⟨a0, a1, a2, a3, a4, a5, a6⟩ := hM.cell7
  go_wp2_with fail
  refine (refEncode_any m _ _ _ _ W hLW hsm hT).mono ?_
  rintro e w1 ⟨vN, rfl, hoN, hb1⟩
  obtain ⟨AN, nN, cN, rfl⟩ := hoN.shape
  obtain ⟨er, her⟩ : ∃ er, manErr m = er := ⟨_, rfl⟩
  have hM1 := hM.below hb1 hM.lt
  have hS1 := hS.below hb1 hS.lt
  have hP1 := hP.below hb1 hP.lt
  have hbw1 := bchain hbW hb1
  have hzW := hbW.size
  have h01 : BSl w1 S (.slice A0 n0 c0) l0 := Sl.under h0W hb1 (fun k hk => Nat.lt_of_lt_of_le (hSS k hk) hzW)
  have h11 : BSl w1 S (.slice A1 n1 c1) l1 := Sl.under h1W hb1 (fun k hk => Nat.lt_of_lt_of_le (hSS k hk) hzW)
  have hN1 : BSl w1 (btw W.heap.size w1.heap.size) (.slice AN nN cN) (encOut m) := hoN.sl
  have hpW : gp < W.heap.size := hP.lt
  rw [her]
  clear a0 a1 a2 a3 a4 a5 a6 hM hS hP hb1 h0W h1W hLW hoN hbW
  obtain ⟨a0, a1, a2, a3, a4, a5, a6⟩ := hM1.cell7
  obtain ⟨s0, s1⟩ := hS1.cell2
  obtain ⟨q0, q1⟩ := hP1.cell2
  have fs0 := hS1.frozen 0
  have fs1 := hS1.frozen 1
  have fp0 := hP1.frozen 0
  have fp1 := hP1.frozen 1
  have HER := keep her
  clear hM1 her
  by_cases hE : er = 0
  · have hnu := manErr_nu (HER.out.trans hE)
    have hout : encOut m = encB m := by unfold encOut; rw [if_pos (HER.out.trans hE)]
    rw [hout] at hN1
    subst hE
    rcases (by omega : m.nu % 2 = 0 ∨ m.nu % 2 = 1) with hr | hr
    · have hso : slotOut m l0 l1 = (encB m, l1) := by unfold slotOut; rw [if_pos HER.out]; rw [if_pos hr]
      have hS2 : Blk (w1.setCell ⟨gs, 0, none⟩ (.slice AN nN cN)) gs 58 #[.slice AN nN cN, .slice A1 n1 c1] := hS1.set_ 0 _
      have hP2 := hP1.far (p := ⟨gs, 0, none⟩) (by show gp ≠ gs; omega) (.slice AN nN cN)
      have hP3 : Blk (((w1.setCell ⟨gs, 0, none⟩ (.slice AN nN cN)).setCell ⟨gp, 0, none⟩ (.slice AN nN cN)).setCell ⟨gp, 1, none⟩ (.slice A1 n1 c1)) gp 58 #[.slice AN nN cN, .slice A1 n1 c1] := (hP2.set_ 0 _).set_ 1 _
      obtain ⟨t0, t1⟩ := hS2.cell2
      obtain ⟨y0, y1⟩ := hP3.cell2
      have hgr : w1.grownBy (w1.setCell ⟨gs, 0, none⟩ (.slice AN nN cN)) (some gs) := grownBy_set (World.grownBy.refl _ _) _ _
      have hgr2 : (w1.setCell ⟨gs, 0, none⟩ (.slice AN nN cN)).grownBy (((w1.setCell ⟨gs, 0, none⟩ (.slice AN nN cN)).setCell ⟨gp, 0, none⟩ (.slice AN nN cN)).setCell ⟨gp, 1, none⟩ (.slice A1 n1 c1)) (some gp) := grownBy_set (grownBy_set (World.grownBy.refl _ _) _ _) _ _
      have HF : Hid (WriteResS w S m l0 l1 (.returned (.tuple #[.agg #[.slice AN nN cN, .slice A1 n1 c1], .int .i64 0])) (((w1.setCell ⟨gs, 0, none⟩ (.slice AN nN cN)).setCell ⟨gp, 0, none⟩ (.slice AN nN cN)).setCell ⟨gp, 1, none⟩ (.slice A1 n1 c1))) := by
        have hs1 := hgr.size
        have hs2 := hgr2.size
        have hs0 := hbw1.size
        have k0 : ∀ {v l}, BSl w1 S v l → BSl (((w1.setCell ⟨gs, 0, none⟩ (.slice AN nN cN)).setCell ⟨gp, 0, none⟩ (.slice AN nN cN)).setCell ⟨gp, 1, none⟩ (.slice A1 n1 c1)) (fun k => S k ∨ btw w.heap.size (((w1.setCell ⟨gs, 0, none⟩ (.slice AN nN cN)).setCell ⟨gp, 0, none⟩ (.slice AN nN cN)).setCell ⟨gp, 1, none⟩ (.slice A1 n1 c1)).heap.size k) v l := fun h =>
          Sl.mono (Sl.grown (Sl.grown h hgr (fun k hk => by have hk' := hSS k hk; exact ⟨by omega, fun e => by injection e; omega⟩)) hgr2 (fun k hk => by have hk' := hSS k hk; exact ⟨by omega, fun e => by injection e; omega⟩)) (fun k hk => .inl hk)
        have k1 : ∀ {v l}, BSl w1 (btw W.heap.size w1.heap.size) v l → BSl (((w1.setCell ⟨gs, 0, none⟩ (.slice AN nN cN)).setCell ⟨gp, 0, none⟩ (.slice AN nN cN)).setCell ⟨gp, 1, none⟩ (.slice A1 n1 c1)) (fun k => S k ∨ btw w.heap.size (((w1.setCell ⟨gs, 0, none⟩ (.slice AN nN cN)).setCell ⟨gp, 0, none⟩ (.slice AN nN cN)).setCell ⟨gp, 1, none⟩ (.slice A1 n1 c1)).heap.size k) v l := fun h =>
          Sl.mono (Sl.grown (Sl.grown h hgr (fun k hk => ⟨by have := hk.2; omega, fun e => by injection e; have := hk.1; omega⟩)) hgr2 (fun k hk => ⟨by have := hk.2; omega, fun e => by injection e; have := hk.1; omega⟩)) (fun k hk => .inr ⟨by have := hk.1; omega, by have := hk.2; omega⟩)
        refine keep ⟨.slice AN nN cN, .slice A1 n1 c1, by rw [HER.out], ?_, ?_, below_grown (below_grown hbw1 hgr hbw1.size (by omega)) hgr2 (by omega) (by omega)⟩
        · rw [hso]; exact k1 hN1
        · rw [hso]; exact k0 h11
      have fq0 := hP2.frozen 0
      have fq1 := hP2.frozen 1
      obtain ⟨z0, z1⟩ := hP2.cell2
      clear hS1 hP1 hS2 hP2 hP3 hgr hgr2 hso hN1 hout h01 h11 hbw1
      go_wp2_with fail
      refine bodyPost_ret (v := .tuple #[.agg #[.slice AN nN cN, .slice A1 n1 c1], .int .i64 0]) (by simp [results, Try.results28, go_sem, y0, y1]) rfl ?_
      exact HF.out
    · have hso : slotOut m l0 l1 = (l0, encB m) := by unfold slotOut; rw [if_pos HER.out]; rw [if_neg (by omega)]
      have hS2 : Blk (w1.setCell ⟨gs, 1, none⟩ (.slice AN nN cN)) gs 58 #[.slice A0 n0 c0, .slice AN nN cN] := hS1.set_ 1 _
      have hP2 := hP1.far (p := ⟨gs, 1, none⟩) (by show gp ≠ gs; omega) (.slice AN nN cN)
      have hP3 : Blk (((w1.setCell ⟨gs, 1, none⟩ (.slice AN nN cN)).setCell ⟨gp, 0, none⟩ (.slice A0 n0 c0)).setCell ⟨gp, 1, none⟩ (.slice AN nN cN)) gp 58 #[.slice A0 n0 c0, .slice AN nN cN] := (hP2.set_ 0 _).set_ 1 _
      obtain ⟨t0, t1⟩ := hS2.cell2
      obtain ⟨y0, y1⟩ := hP3.cell2
      have hgr : w1.grownBy (w1.setCell ⟨gs, 1, none⟩ (.slice AN nN cN)) (some gs) := grownBy_set (World.grownBy.refl _ _) _ _
      have hgr2 : (w1.setCell ⟨gs, 1, none⟩ (.slice AN nN cN)).grownBy (((w1.setCell ⟨gs, 1, none⟩ (.slice AN nN cN)).setCell ⟨gp, 0, none⟩ (.slice A0 n0 c0)).setCell ⟨gp, 1, none⟩ (.slice AN nN cN)) (some gp) := grownBy_set (grownBy_set (World.grownBy.refl _ _) _ _) _ _
      have HF : Hid (WriteResS w S m l0 l1 (.returned (.tuple #[.agg #[.slice A0 n0 c0, .slice AN nN cN], .int .i64 0])) (((w1.setCell ⟨gs, 1, none⟩ (.slice AN nN cN)).setCell ⟨gp, 0, none⟩ (.slice A0 n0 c0)).setCell ⟨gp, 1, none⟩ (.slice AN nN cN))) := by
        have hs1 := hgr.size
        have hs2 := hgr2.size
        have hs0 := hbw1.size
        have k0 : ∀ {v l}, BSl w1 S v l → BSl (((w1.setCell ⟨gs, 1, none⟩ (.slice AN nN cN)).setCell ⟨gp, 0, none⟩ (.slice A0 n0 c0)).setCell ⟨gp, 1, none⟩ (.slice AN nN cN)) (fun k => S k ∨ btw w.heap.size (((w1.setCell ⟨gs, 1, none⟩ (.slice AN nN cN)).setCell ⟨gp, 0, none⟩ (.slice A0 n0 c0)).setCell ⟨gp, 1, none⟩ (.slice AN nN cN)).heap.size k) v l := fun h =>
          Sl.mono (Sl.grown (Sl.grown h hgr (fun k hk => by have hk' := hSS k hk; exact ⟨by omega, fun e => by injection e; omega⟩)) hgr2 (fun k hk => by have hk' := hSS k hk; exact ⟨by omega, fun e => by injection e; omega⟩)) (fun k hk => .inl hk)
        have k1 : ∀ {v l}, BSl w1 (btw W.heap.size w1.heap.size) v l → BSl (((w1.setCell ⟨gs, 1, none⟩ (.slice AN nN cN)).setCell ⟨gp, 0, none⟩ (.slice A0 n0 c0)).setCell ⟨gp, 1, none⟩ (.slice AN nN cN)) (fun k => S k ∨ btw w.heap.size (((w1.setCell ⟨gs, 1, none⟩ (.slice AN nN cN)).setCell ⟨gp, 0, none⟩ (.slice A0 n0 c0)).setCell ⟨gp, 1, none⟩ (.slice AN nN cN)).heap.size k) v l := fun h =>
          Sl.mono (Sl.grown (Sl.grown h hgr (fun k hk => ⟨by have := hk.2; omega, fun e => by injection e; have := hk.1; omega⟩)) hgr2 (fun k hk => ⟨by have := hk.2; omega, fun e => by injection e; have := hk.1; omega⟩)) (fun k hk => .inr ⟨by have := hk.1; omega, by have := hk.2; omega⟩)
        refine keep ⟨.slice A0 n0 c0, .slice AN nN cN, by rw [HER.out], ?_, ?_, below_grown (below_grown hbw1 hgr hbw1.size (by omega)) hgr2 (by omega) (by omega)⟩
        · rw [hso]; exact k0 h01
        · rw [hso]; exact k1 hN1
      have fq0 := hP2.frozen 0
      have fq1 := hP2.frozen 1
      obtain ⟨z0, z1⟩ := hP2.cell2
      clear hS1 hP1 hS2 hP2 hP3 hgr hgr2 hso hN1 hout h01 h11 hbw1
      go_wp2_with fail
      refine bodyPost_ret (v := .tuple #[.agg #[.slice A0 n0 c0, .slice AN nN cN], .int .i64 0]) (by simp [results, Try.results28, go_sem, y0, y1]) rfl ?_
      exact HF.out
  · have hso : slotOut m l0 l1 = (l0, l1) := by unfold slotOut; rw [if_neg (by rw [HER.out]; exact hE)]
    have hE1 : (er == 0) = false := by simpa using hE
    have hE2 : (er != 0) = true := by simpa using hE
    have hP3 : Blk ((w1.setCell ⟨gp, 0, none⟩ (.slice A0 n0 c0)).setCell ⟨gp, 1, none⟩ (.slice A1 n1 c1)) gp 58 #[.slice A0 n0 c0, .slice A1 n1 c1] := (hP1.set_ 0 _).set_ 1 _
    obtain ⟨y0, y1⟩ := hP3.cell2
    have hgr2 : w1.grownBy ((w1.setCell ⟨gp, 0, none⟩ (.slice A0 n0 c0)).setCell ⟨gp, 1, none⟩ (.slice A1 n1 c1)) (some gp) := grownBy_set (grownBy_set (World.grownBy.refl _ _) _ _) _ _
    have HF : Hid (WriteResS w S m l0 l1 (.returned (.tuple #[.agg #[.slice A0 n0 c0, .slice A1 n1 c1], .int .i64 er])) ((w1.setCell ⟨gp, 0, none⟩ (.slice A0 n0 c0)).setCell ⟨gp, 1, none⟩ (.slice A1 n1 c1))) := by
      have hs2 := hgr2.size
      have hs0 := hbw1.size
      have k0 : ∀ {v l}, BSl w1 S v l → BSl ((w1.setCell ⟨gp, 0, none⟩ (.slice A0 n0 c0)).setCell ⟨gp, 1, none⟩ (.slice A1 n1 c1)) (fun k => S k ∨ btw w.heap.size ((w1.setCell ⟨gp, 0, none⟩ (.slice A0 n0 c0)).setCell ⟨gp, 1, none⟩ (.slice A1 n1 c1)).heap.size k) v l := fun h =>
        Sl.mono (Sl.grown h hgr2 (fun k hk => by have hk' := hSS k hk; exact ⟨by omega, fun e => by injection e; omega⟩)) (fun k hk => .inl hk)
      refine keep ⟨.slice A0 n0 c0, .slice A1 n1 c1, by rw [HER.out], ?_, ?_, below_grown hbw1 hgr2 hbw1.size (by omega)⟩
      · rw [hso]; exact k0 h01
      · rw [hso]; exact k0 h11
    clear hS1 hP1 hP3 hgr2 hso hN1 h01 h11 hbw1 hE
    go_wp2_with fail
    refine bodyPost_ret (v := .tuple #[.agg #[.slice A0 n0 c0, .slice A1 n1 c1], .int .i64 er]) (by simp [results, Try.results28, go_sem, y0, y1]) rfl ?_
    exact HF.out
theorem write_any (v0 v1 : Value) (l0 l1 : List UInt8) (m : Man) (vS vM vT vE : Value) (w : World) (h0 : BSl w (lt w.heap.size) v0 l0) (h1 : BSl w (lt w.heap.size) v1 l1) (hL : Lies w (lt w.heap.size) m vS vM vT vE) (hsm : Small m) (hT : (encM m).length + 4 ≤ 140737488355328) :
    Calls Try.prog 27 #[.agg #[v0, v1], .agg (manCells m vS vM vT vE)] w (WriteRes w m l0 l1) :=
  (write_anyS v0 v1 l0 l1 m vS vM vT vE w (lt w.heap.size) (fun _ h => h) h0 h1 hL hsm hT).mono fun _ _ h => h.res
theorem refWrite_any (v0 v1 : Value) (l0 l1 : List UInt8) (m : Man) (vS vM vT vE : Value) (w : World) (h0 : BSl w (lt w.heap.size) v0 l0) (h1 : BSl w (lt w.heap.size) v1 l1) (hL : Lies w (lt w.heap.size) m vS vM vT vE) (hsm : Small m) (hT : (encM m).length + 4 ≤ 140737488355328) :
    Calls Try.prog 28 #[.agg #[v0, v1], .agg (manCells m vS vM vT vE)] w (WriteRes w m l0 l1) :=
  (refWrite_anyS v0 v1 l0 l1 m vS vM vT vE w (lt w.heap.size) (fun _ h => h) h0 h1 hL hsm hT).mono fun _ _ h => h.res
end Go.Proofs.Ytkjhnipjhefndaa
