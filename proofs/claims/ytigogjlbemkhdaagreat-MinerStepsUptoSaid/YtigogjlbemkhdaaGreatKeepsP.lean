/- MinerKeeps: the plain laws of its walk. No program in sight. -/
import Derived.Test.YtigogjlbemkhdaaGreatTkChk
import Derived.Test.YtigogjlbemkhdaaGreatTmKin
import Derived.Deep.AppendLies
import Derived.Deep.RegionLaw
namespace Go.Proofs.YtigogjlbemkhdaaGreat
open Go.RowKit
variable {oB : Nat}
theorem tkR_hi {r : Nat} (h : 128 ≤ r) : tkR r = false := by
  unfold tkR
  rw [spR_hi h, dgR_hi h]
  rfl
theorem any_dropK {s : ByteArray} {k : Nat} (h : k < s.size) : ((lb s).drop k).any (fun c => tkR c.toNat) = (tkR s[k].toNat || ((lb s).drop (k + 1)).any (fun c => tkR c.toNat)) := by
  rw [List.drop_eq_getElem_cons (show k < (lb s).length by simpa [lb] using h), List.any_cons]
  rfl
theorem any_runK {s : ByteArray} : ∀ (n pos : Nat), pos + n ≤ s.size → (∀ j, pos ≤ j → j < pos + n → (h : j < s.size) → tkR s[j].toNat = false) → ((lb s).drop pos).any (fun c => tkR c.toNat) = ((lb s).drop (pos + n)).any (fun c => tkR c.toNat)
  | 0, _, _, _ => rfl
  | n + 1, pos, hp, h => by
    rw [any_dropK (show pos < s.size by omega), h pos (by omega) (by omega) (by omega), Bool.false_or, any_runK n (pos + 1) (by omega) (fun j q1 q2 q3 => h j (by omega) (by omega) q3)]
    rw [show pos + 1 + n = pos + (n + 1) by omega]
theorem idx_anyK (s : ByteArray) : ∀ (f pos : Nat), s.size - pos ≤ f → pos ≤ s.size → decide (0 ≤ Lib.idxFuncFrom tkR true s f pos) = ((lb s).drop pos).any (fun c => tkR c.toNat) := by
  intro f
  induction f with
  | zero =>
    intro pos hf hp
    obtain rfl : pos = s.size := by omega
    rw [List.drop_eq_nil_of_le (by simp [lb])]
    rfl
  | succ f ih =>
    intro pos hf hp
    by_cases hlt : pos < s.size
    · unfold Lib.idxFuncFrom
      rw [if_pos hlt]
      by_cases hb : s[pos].toNat < 128
      · rw [decode_lo hlt hb, any_dropK hlt]
        simp only
        cases hd : tkR s[pos].toNat
        · rw [if_neg (by decide), Bool.false_or]
          exact ih (pos + 1) (by omega) (by omega)
        · rw [if_pos rfl, Bool.true_or]
          exact decide_eq_true (by omega)
      · obtain ⟨h1, h2, h3, h4⟩ := decode_hi hlt (by omega)
        rw [if_neg (by rw [tkR_hi h1]; decide), any_runK _ pos h3 (fun j q1 q2 q3 => tkR_hi (h4 j q1 q2 q3))]
        exact ih _ (by omega) h3
    · obtain rfl : pos = s.size := by omega
      rw [Lib.idxFuncFrom_end _ _ _ _ _ hlt, List.drop_eq_nil_of_le (by simp [lb])]
      rfl
theorem okS_any (s : ByteArray) : okS s = !(lb s).any fun c => tkR c.toNat := by
  have h := idx_anyK s s.size 0 (by omega) (Nat.zero_le _)
  rw [List.drop_zero, show Lib.idxFuncFrom tkR true s s.size 0 = Lib.idxFunc tkR true s from rfl] at h
  unfold okS
  rw [← h]
  by_cases hd : 0 ≤ Lib.idxFunc tkR true s
  · have : ¬ Lib.idxFunc tkR true s < 0 := by omega
    simp [hd, this]
  · have : Lib.idxFunc tkR true s < 0 := by omega
    simp [hd, this]
theorem sp_ok : ∀ (l cur : List UInt8), (∀ c ∈ cur, spR c.toNat = false) → ∀ w ∈ sp l cur, ∀ c ∈ w, spR c.toNat = false
  | [], cur, hc, w, hw => by
    unfold sp at hw
    split at hw
    · cases hw
    · rw [List.mem_singleton.1 hw]; exact hc
  | x :: l, cur, hc, w, hw => by
    unfold sp at hw
    split at hw
    · split at hw
      · exact sp_ok l [] (fun c h => by cases h) w hw
      · rcases List.mem_cons.1 hw with h | h
        · rw [h]; exact hc
        · exact sp_ok l [] (fun c h => by cases h) w h
    · rename_i hx
      refine sp_ok l (cur ++ [x]) (fun c h => ?_) w hw
      rcases List.mem_append.1 h with h | h
      · exact hc c h
      · rw [List.mem_singleton.1 h]
        simpa using hx
theorem tokW_ok {l : List UInt8} {U : List (List UInt8)} (h : tokW l = some U) : 1 ≤ U.length ∧ U.length ≤ 60 ∧ ∀ u ∈ U, (u.any fun c => tkR c.toNat) = false := by
  unfold tokW at h
  split at h
  · cases h
  · rename_i hc
    have hU : (words l).map vrL = U := Option.some.inj h
    subst hU
    rw [List.length_map]
    refine ⟨by omega, by omega, fun u hu => ?_⟩
    obtain ⟨w, hw, rfl⟩ := List.mem_map.1 hu
    unfold vrL
    split
    · rfl
    · rename_i hd
      rw [List.any_eq_false]
      intro c hcm
      have h1 := sp_ok l [] (fun c h => by cases h) w hw c hcm
      have h2 : dgR c.toNat = false := by
        have h3 : (w.any fun c => dgR c.toNat) = false := by simpa using hd
        rw [List.any_eq_false] at h3
        simpa using h3 c hcm
      unfold tkR
      rw [h1, h2]
      decide
theorem cntS_pos {T : List ByteArray} {U : List (List UInt8)} (h : 0 < cntS T U) : ∃ s ∈ T, tokW (lb s) = some U := by
  induction T with
  | nil => simp [cntS] at h
  | cons s T ih =>
    rw [cntS] at h
    by_cases e : tokW (lb s) = some U
    · exact ⟨s, by simp, e⟩
    · rw [if_neg e] at h
      obtain ⟨x, hx, hx2⟩ := ih (by omega)
      exact ⟨x, by simp [hx], hx2⟩
/-- A state of lines is one. -/
theorem chk_state {L : List Tm} {N : Int} {T : List ByteArray} (hG : Good (st L) N) (hc : ∀ U, cnt (st L) U = cntS T U) : ChkL L := by
  refine ⟨fun i hi => ?_, fun i hi => srt_lt hG.s (by omega) hi⟩
  have hm : (strs L[i].tk, L[i].ct) ∈ st L := List.mem_map.2 ⟨L[i], List.getElem_mem hi, rfl⟩
  have h1 := (cnt_pos hG.p (strs L[i].tk)).2.2 ⟨_, hm, rfl⟩
  rw [hc] at h1
  obtain ⟨s, _, hs⟩ := cntS_pos h1
  obtain ⟨h2, h3, h4⟩ := tokW_ok hs
  rw [strs_len] at h2 h3
  have h5 := hG.p _ hm
  simp only at h5
  unfold chkT
  have h6 : (L[i].tk.any fun s => !okS s) = false := by
    rw [List.any_eq_false]
    intro t ht
    rw [okS_any, h4 (lb t) (List.mem_map.2 ⟨t, ht, rfl⟩)]
    decide
  rw [h6]
  simp [h2, h3, h5]
theorem srt_eq : ∀ {a b : List TP}, Srt a → Srt b → a.Perm b → a = b
  | [], b, _, _, h => (List.nil_perm.1 h).symm
  | x :: a, [], _, _, h => by have := h.length_eq; simp at this
  | x :: a, y :: b, ha, hb, h => by
    have e : x = y := by
      have h1 : x ∈ y :: b := h.mem_iff.1 (by simp)
      have h2 : y ∈ x :: a := h.mem_iff.2 (by simp)
      rcases List.mem_cons.1 h1 with h1 | h1
      · exact h1
      · rcases List.mem_cons.1 h2 with h2 | h2
        · exact h2.symm
        · have q1 := hb.head x h1
          have q2 := ha.head y h2
          have := cmpT_flip.1 q1
          omega
    subst e
    rw [srt_eq (List.pairwise_cons.1 ha).2 (List.pairwise_cons.1 hb).2 (List.Perm.cons_inv h)]
section
variable {w : World} {S : Nat → Prop} {A : Option Addr} {c n : Nat} {T : List ByteArray}
end
/-- The law's loop: a state, the lines it has, the choices. -/
structure KSt (W : World) (g2 : Nat) (wr : World) (vm vl : Value) (L : List Tm) (T Tc : List ByteArray) (N : Int) : Prop where
  m : wr.ownsRow W.heap.size 32 2 vm L.length (tms L)
  x : ∀ t ∈ L, TkX wr vl.ownBlock t
  lf : wr.ownsRow W.heap.size 9 1 vl T.length (T.map .string)
  g : Good (st L) N
  k : ∀ U, cnt (st L) U = cntS Tc U
  c : Codes wr g2
  w : W.grownBy wr (some g2)
section
variable {W wr wr' : World} {g2 : Nat} {vm vl : Value} {L : List Tm} {T Tc : List ByteArray} {N : Int}
theorem KSt.ms (h : KSt W g2 wr vm vl L T Tc N) : MS 0 wr vm L := ⟨Sl.of_own h.m, fun t ht => (h.x t ht).1⟩
theorem KSt.up (h : KSt W g2 wr vm vl L T Tc N) (hb : Below wr.heap.size wr wr') : KSt W g2 wr' vm vl L T Tc N :=
  ⟨own_bel h.m hb, fun t ht => (h.x t ht).grown (grownBy_of_below hb none) (fun _ _ _ => by simp) (fun _ _ hh => hh), own_bel h.lf hb, h.g, h.k, h.c.under hb h.c.lt_, grownBy_below h.w (hb.mono h.w.size)⟩
theorem KSt.next (h : KSt W g2 wr vm vl L T Tc N) (h2 : g2 < W.heap.size) (hg : wr.grownBy wr' (some g2)) (hc : Codes wr' g2) : KSt W g2 wr' vm vl L T Tc N :=
  ⟨own_grown h.m hg h2, fun t ht => (h.x t ht).grown hg (fun b hb _ => codes_noStr h.c b hb) (fun _ _ hh => hh), own_grown h.lf hg h2, h.g, h.k, hc, grownBy_trans h.w hg⟩
theorem KSt.new (h : KSt W g2 wr vm vl L T Tc N) {vm' : Value} {L' : List Tm} {Tc' : List ByteArray} {N' : Int} (hn : NewSt wr vm' L' wr') (hk : KinT wr wr' L L') (hG : Good (st L') N') (hc : ∀ U, cnt (st L') U = cntS Tc' U) : KSt W g2 wr' vm' vl L' T Tc' N' := by
  have hu := h.up hn.2.2
  refine ⟨own_base hn.1 h.w.size, fun t ht => ⟨hn.2.1 t ht, ?_⟩, hu.lf, hG, hc, hu.c, hu.w⟩
  rcases hk t ht with ⟨x, hx, h1, h2⟩ | hnew
  · rw [← h1, ← h2]
    exact (hu.x x hx).2
  · refine hnew.mono fun b hb => ⟨hb.2, fun e => ?_⟩
    have := (h.lf.lt b e.symm).2
    have := hb.1
    omega
theorem KSt.push (h : KSt W g2 wr vm vl L T Tc N) {g : Nat} {c n : Nat} {T' : List ByteArray} (hl : wr'.ownsRow W.heap.size 9 1 (.slice (some ⟨g, 0, none⟩) n c) T'.length (T'.map .string)) (hb : Below W.heap.size wr wr') (hg : wr.grownBy wr' vl.ownBlock) (ho : vl.ownBlock = some g ∨ wr.heap.size ≤ g) (h2 : g2 < W.heap.size) : KSt W g2 wr' vm (.slice (some ⟨g, 0, none⟩) n c) L T' Tc N := by
  refine ⟨h.m.kept hg (own_apart h.m h.lf (by decide)), fun t ht => (h.x t ht).grown hg (fun _ _ hh => hh) (fun b hb hne e => ?_), hl, h.g, h.k, h.c.under hb h2, grownBy_below h.w hb⟩
  injection e with e
  rcases ho with h1 | h1
  · exact hne (by rw [h1]; exact congrArg some e)
  · have e' : b = g := e
    omega
end
end Go.Proofs.YtigogjlbemkhdaaGreat
