/- For the statements about decoding: drawn manifests are small, a changed byte, slices in a list. -/
import Derived.Test.YtkjhnipjhefndaaAgree
import Derived.Test.YtkjhnipjhefndaaDec
import Derived.Test.YtkjhnipjhefndaaSame
import Derived.Test.YtkjhnipjhefndaaLawEnc
import Derived.Laws.BitsAllLaws
namespace Go.Proofs.Ytkjhnipjhefndaa
open Go.RowKit

theorem encT_len2 (l : List Tl) (n : Nat) (hn : n ≤ 1048576) (h : ∀ x ∈ l, x.rule.size ≤ n) : (encT l).length ≤ 10 + l.length * (n + 30) := by
  have h1 := uvar_len10 (zz_lt (l.length : Int))
  have h2 := flat_le encT1 l (n + 30) (fun x hx => by
    have a := uvar_len10 (zz_lt x.host)
    have b := uvar_len10 (zz_lt x.lines)
    have d := h x hx
    have c := uvar_len10 (n := x.rule.size) (by omega)
    unfold encT1
    simp only [List.length_append, Array.length_toList, ByteArray.size_data]
    omega)
  unfold encT
  rw [List.length_append]
  omega
/-- Small enough for the contracts of Decode. -/
structure Tiny (m : Man) : Prop where
  s : m.segs.length ≤ 20
  m_ : m.marks.length ≤ 20
  t : m.tals.length ≤ 20
  e : m.exps.length ≤ 20
  tb : ∀ x ∈ m.tals, x.rule.size ≤ 32
  eb : ∀ x ∈ m.exps, x.rule.size ≤ 32
theorem Tiny.len {m : Man} (h : Tiny m) : (encM m).length + 4 ≤ 100000 := by
  have h1 := encI_len [m.nu, m.nx, m.jo, (m.segs.length : Int)]
  have h2 := flat_le encS m.segs 70 (fun x _ => by have := encI_len [x.id, x.level, x.tier, x.count, x.lo, x.hi, x.size]; exact this)
  have h3 := encI_len [(m.marks.length : Int)]
  have h4 := flat_le encK m.marks 30 (fun x _ => by have := encI_len [x.host, x.file, x.off]; exact this)
  have h5 := encT_len2 m.tals 32 (by omega) h.tb
  have h6 := encT_len2 m.exps 32 (by omega) h.eb
  have a := h.s
  have b := h.m_
  have c := h.t
  have d := h.e
  simp only [encM, en5, en4, en3, en2, en1, List.length_append, List.length_cons, List.length_nil] at h1 h3 ⊢
  have : magicB.length = 4 := rfl
  have e1 : m.segs.length * 70 ≤ 20 * 70 := Nat.mul_le_mul_right _ a
  have e2 : m.marks.length * 30 ≤ 20 * 30 := Nat.mul_le_mul_right _ b
  have e3 : m.tals.length * (32 + 30) ≤ 20 * (32 + 30) := Nat.mul_le_mul_right _ c
  have e4 : m.exps.length * (32 + 30) ≤ 20 * (32 + 30) := Nat.mul_le_mul_right _ d
  omega
theorem Good.tiny {m : Man} (h : Good m) : Tiny m :=
  ⟨by have := h.sl; omega, by have := h.ml; omega, by have := h.tl; omega, by have := h.el; omega, fun x hx => (h.tk x hx).r, fun x hx => (h.ek x hx).r⟩
theorem encB_len (m : Man) : (encB m).length = (encM m).length + 4 := by unfold encB; rw [List.length_append]; rfl
theorem encB_ge (m : Man) : 8 ≤ (encB m).length := by rw [encB_len, encM_eq, List.length_append]; have : magicB.length = 4 := rfl; omega
theorem TlOk.i {B : Int} {t : Tl} (h : TlOk B t) (hB : B ≤ 1000000) : TlI t := by
  obtain ⟨a, b, c, d, e⟩ := h
  exact ⟨⟨by omega, by omega⟩, by omega, ⟨by omega, by omega⟩⟩
theorem Good.manI {m : Man} (h : Good m) : ManI m := by
  have t := h.tiny
  obtain ⟨t1, t2, t3, t4, _, _⟩ := t
  refine ⟨?_, ?_, ?_, ?_, ?_, fun x hx => (h.tk x hx).i (by omega), fun x hx => (h.ek x hx).i (by omega), by omega, by omega, by omega, by omega⟩
  · have := h.u0; have := h.u1; exact ⟨by omega, by omega⟩
  · have := h.x0; have := h.x1; exact ⟨by omega, by omega⟩
  · have := h.j0; have := h.j1; exact ⟨by omega, by omega⟩
  · intro x hx
    obtain ⟨a1, a2, a3, a4, a5, a6, a7, a8, a9, b1, b2, b3, b4⟩ := (h.s.2 x hx).2
    exact ⟨⟨by omega, by omega⟩, ⟨by omega, by omega⟩, ⟨by omega, by omega⟩, ⟨by omega, by omega⟩, ⟨by omega, by omega⟩, ⟨by omega, by omega⟩, ⟨by omega, by omega⟩⟩
  · intro x hx
    obtain ⟨a, b, c, d, e, f⟩ := h.mo x hx
    exact ⟨⟨by omega, by omega⟩, ⟨by omega, by omega⟩, ⟨by omega, by omega⟩⟩
theorem Decd.small {b : List UInt8} {m : Man} {er : Int} (h : Decd b m er) (hl : b.length ≤ 1000000) : Small m := by
  have hz : Small manZero := ⟨by simp [manZero], by simp [manZero], by simp [manZero], by simp [manZero]⟩
  rcases h with ⟨_, rfl, _⟩ | ⟨_, _, rfl, _⟩ | ⟨h8, _, m1, bad, hP, ⟨_, rfl, _⟩ | ⟨_, rfl, _⟩⟩
  · exact hz
  · exact hz
  · have hi := hP.in_ (by rw [List.length_drop, body_len h8]; omega)
    exact ⟨hi.ls, hi.lm, hi.lt_, hi.le⟩
  · exact hz
/-- A byte stored into a row of the call's own. -/
theorem OwnB.setAt {w : World} {base : Nat} {A : Option Addr} {c n i : Nat} {l : List UInt8} (h : OwnB w base (.slice A n c) l) (hi : i < l.length) (y : UInt8) :
    ∃ g, A = some ⟨g, 0, none⟩ ∧ base ≤ g ∧ g < w.heap.size ∧ n = l.length ∧ w.cell? ⟨g, i, none⟩ = some (ub l[i]) ∧ w.frozen? ⟨g, i, none⟩ = false ∧ OwnB (w.setCell ⟨g, i, none⟩ (ub y)) base (.slice A n c) (l.set i y) := by
  rcases h with ⟨_, rfl⟩ | ⟨g, cap, cur, fz, hv, hb, hg, hf, hlc, hcm, hcs, ht⟩
  · simp at hi
  · injection hv with h1 h2 h3
    subst h1 h2 h3
    have hicur : i < cur.size := by omega
    have hgl : g < w.heap.size := (Array.getElem?_eq_some_iff.1 hg).1
    have hcell : w.cell? ⟨g, i, none⟩ = some (ub l[i]) := by
      have e1 : w.cell? ⟨g, i, none⟩ = some cur[i] := by simp [World.cell?, hg, hicur]
      have e2 : (cur.toList.take l.length)[i]? = some (ub l[i]) := by rw [ht]; simp [hi]
      rw [List.getElem?_take, if_pos hi] at e2
      have e3 : cur.toList[i]? = some cur[i] := by simp [hicur]
      rw [e3] at e2
      injection e2 with e2
      rw [e1, e2]
    refine ⟨g, rfl, hb, hgl, rfl, hcell, hf.at_ hg hicur, .inr ⟨g, c, cur.setIfInBounds i (ub y), fz, by rw [List.length_set], hb, ?_, by simpa using hf, by rw [List.length_set]; exact hlc, hcm, by simpa using hcs, ?_⟩⟩
    · rw [setCell_eq_setRow w g i cur 5 fz (ub y) hg]
      exact setRow_heap w g cur _ 5 fz hg
    · rw [List.length_set, Array.toList_setIfInBounds, List.take_set, ht, List.map_set]
theorem xor_u8 (x y : UInt8) : bits .xor .u8 (x.toNat : Int) (y.toNat : Int) = (((x ^^^ y).toNat : Nat) : Int) := by
  rw [u8_xor_nat _ _ x.toNat_lt y.toNat_lt]
  simp
/-- Four slices of bytes in a list. -/
def Four (w : World) (B : Nat) (v : Value) : Prop := ∃ l, BSl w (lt B) v l ∧ l.length ≤ 1000000
theorem four_at {w : World} {g k : Nat} {t : TypeId} {v0 v1 v2 v3 : Value} (h : Blk w g t #[v0, v1, v2, v3]) {Q : Value → Prop} (h0 : Q v0) (h1 : Q v1) (h2 : Q v2) (h3 : Q v3) (hk : k < 4) :
    ∃ v, w.cell? ⟨g, k, none⟩ = some v ∧ Q v := by
  match k, hk with
  | 0, _ => exact ⟨v0, by rw [h.cell]; rfl, h0⟩
  | 1, _ => exact ⟨v1, by rw [h.cell]; rfl, h1⟩
  | 2, _ => exact ⟨v2, by rw [h.cell]; rfl, h2⟩
  | 3, _ => exact ⟨v3, by rw [h.cell]; rfl, h3⟩
/-- Bytes given as numbers. -/
theorem bsl_ints {w : World} {S : Nat → Prop} {v : Value} {bs : List Int} (hs : Sl w S 1 v bs.length (bs.map (.int .u8))) (hr : ∀ x ∈ bs, 0 ≤ x ∧ x ≤ 255) : BSl w S v (bs.map fun x => UInt8.ofNat x.toNat) := by
  have e : (bs.map fun x => UInt8.ofNat x.toNat).map ub = bs.map (.int .u8) := by
    rw [List.map_map]
    refine List.map_congr_left fun x hx => ?_
    obtain ⟨h0, h1⟩ := hr x hx
    exact ub_ofNat x h0 h1
  unfold BSl
  rw [e, List.length_map]
  exact hs
end Go.Proofs.Ytkjhnipjhefndaa
