/- The contract of postings.Touched. -/
import Derived.Test.YtihimbmbhmgjoaaSeek
namespace Go.Proofs.Ytihimbmbhmgjoaa
open Go.RowKit

/-! The last identifiers of the blocks. -/
theorem rise_last : ∀ (xs : List Int) (a : Int), Rise a xs → ∀ x ∈ xs, x ≤ xs.getLastD a
  | [], _, _, _, h => by cases h
  | y :: ys, a, ⟨h1, h2, h3⟩, x, hx => by
    rw [show (y :: ys).getLastD a = ys.getLastD y from by cases ys <;> rfl]
    rcases List.mem_cons.1 hx with rfl | hx
    · rcases ys with _ | ⟨u, us⟩
      · exact Int.le_refl _
      · have h4 := rise_last (u :: us) x h3 u (by simp)
        have := h3.1
        omega
    · exact rise_last ys y h3 x hx
theorem last_mem : ∀ (xs : List Int) (a : Int), xs ≠ [] → xs.getLastD a ∈ xs
  | [], _, h => absurd rfl h
  | [y], a, _ => by simp
  | y :: u :: us, a, _ => by
    rw [show (y :: u :: us).getLastD a = (u :: us).getLastD y from rfl]
    exact List.mem_cons_of_mem _ (last_mem (u :: us) y (by simp))
theorem parts_any : ∀ (K : Nat) (l : List Int) (t : Int), Rise 0 l → l.length ≤ 32 * K → 32 * K ≤ l.length + 31 → ((parts K l).map (·.getLastD 0)).any (fun x => decide (t ≤ x)) = l.any (fun x => decide (t ≤ x))
  | 0, l, t, _, h, _ => by
    have : l = [] := List.eq_nil_of_length_eq_zero (by omega)
    subst this
    rfl
  | K + 1, l, t, hr, h1, h2 => by
    have ih := parts_any K (l.drop 32) t (hr.drop 32 (Int.le_refl _)) (by simp; omega) (by simp; omega)
    rw [parts, List.map_cons, List.any_cons, ih]
    have hne : l.take 32 ≠ [] := by
      intro e
      have := congrArg List.length e
      rw [List.length_take, List.length_nil] at this
      omega
    have hsplit : l.any (fun x => decide (t ≤ x)) = ((l.take 32).any (fun x => decide (t ≤ x)) || (l.drop 32).any (fun x => decide (t ≤ x))) := by
      rw [← List.any_append, List.take_append_drop]
    rw [hsplit]
    congr 1
    rw [Bool.eq_iff_iff]
    simp only [decide_eq_true_eq, List.any_eq_true]
    constructor
    · intro h
      exact ⟨_, last_mem (l.take 32) 0 hne, h⟩
    · rintro ⟨x, hx, h⟩
      have := rise_last (l.take 32) 0 (hr.take 32) x hx
      omega
theorem sk_any (l : List Int) (t : Int) : (sk l t).2 = l.any (fun x => decide (t ≤ x)) := by
  unfold sk
  cases h : l.find? (fun x => decide (t ≤ x)) with
  | none =>
    rw [List.find?_eq_none] at h
    symm
    rw [List.any_eq_false]
    exact fun x hx => h x hx
  | some x =>
    have h1 := List.find?_some h
    have h2 := List.mem_of_find?_eq_some h
    symm
    rw [List.any_eq_true]
    exact ⟨x, h2, h1⟩
theorem ents_post {b b1 b2 : List UInt8} {l : List Int} {n : Nat} (h : IsPost b l) (he : entOk b = some (n, b1, b2)) (t : Int) :
    (entsP (blocksNo n) b1).any (fun p => decide (t ≤ p.1)) = l.any (fun x => decide (t ≤ x)) := by
  obtain ⟨hr, hl⟩ := rise_of_check h.1
  have hb : b = uvar l.length ++ ((parts (blocksNo l.length) l).flatMap entryB ++ (parts (blocksNo l.length) l).flatMap (gaps 0)) := by
    rw [← h.2, postB, List.append_assoc, heads_parts, bodies_parts]
  have hn := numP_uvar l.length (by omega) ((parts (blocksNo l.length) l).flatMap entryB ++ (parts (blocksNo l.length) l).flatMap (gaps 0))
  rw [← hb] at hn
  have e : n = l.length ∧ b1 = (parts (blocksNo l.length) l).flatMap entryB ++ (parts (blocksNo l.length) l).flatMap (gaps 0) := by
    unfold entOk at he
    rw [hn] at he
    simp only at he
    rw [if_neg (by omega)] at he
    split at he
    · cases he
    · injection he with he
      injection he with h1 h2
      injection h2 with h2 _
      exact ⟨h1.symm, h2.symm⟩
  obtain ⟨rfl, rfl⟩ := e
  have h1 := parts_len (blocksNo l.length) l
  have h2 := parts_rise (blocksNo l.length) l hr
  have h3 := parts_count (blocksNo l.length) l
  have h4 := lastsP_heads (parts (blocksNo l.length) l) ((parts (blocksNo l.length) l).flatMap (gaps 0)) h1 h2
  rw [h3] at h4
  have h5 := parts_any (blocksNo l.length) l t hr (by unfold blocksNo; omega) (by unfold blocksNo; omega)
  rw [← h5, ← h4, ← entsP_lasts, List.any_map]
  rfl

theorem touch1_any (x y t : Int) (gB : Nat) (w : World) (hb : w.cell? ⟨gB, 0, none⟩ = some (.int .i64 t)) :
    Calls Try.prog 56 #[.agg #[.int .i64 x, .int .i64 y], .pointer (some ⟨gB, 0, none⟩)] w fun e w' => e = .returned (.bool (decide (t ≤ x))) ∧ Below w.heap.size w w' := by
  have hgl : gB < w.heap.size := by simpa using World.block_lt_of_cell? w _ hb
  by_cases h : t ≤ x
  · have d : decide (t ≤ x) = true := by simpa using h
    rw [d]
    go_enter Try.func56, Try.ntmps56
    go_wp2_with fail
    go_ret
    exact ⟨ret_bool (by simp), (Below.refl _ _).alloc (Nat.le_refl _) _⟩
  · have d : decide (t ≤ x) = false := by simpa using h
    rw [d]
    go_enter Try.func56, Try.ntmps56
    go_wp2_with fail
    go_ret
    exact ⟨ret_bool (by simp), (Below.refl _ _).alloc (Nat.le_refl _) _⟩
theorem ent_at : ∀ (l : List (Int × Int)) (k : Nat) (hk : k < l.length), (l.flatMap entC)[k * 2]? = some (.int .i64 l[k].1) ∧ (l.flatMap entC)[k * 2 + 1]? = some (.int .i64 l[k].2)
  | p :: l, 0, _ => ⟨rfl, rfl⟩
  | p :: l, k + 1, hk => by
    have := ent_at l k (by simpa using hk)
    rw [show (k + 1) * 2 = k * 2 + 2 by omega, List.flatMap_cons]
    simpa [entC] using this
theorem ent_cells {w : World} {S : Nat → Prop} {A : Option Addr} {c k : Nat} {l : List (Int × Int)} (h : Sl w S 2 (.slice A l.length c) l.length (l.flatMap entC)) (hk : k < l.length) :
    ∃ b o, A = some ⟨b, o, none⟩ ∧ S b ∧ w.cell? ⟨b, o + k * 2, none⟩ = some (.int .i64 l[k].1) ∧ w.cell? ⟨b, o + k * 2 + 1, none⟩ = some (.int .i64 l[k].2) := by
  obtain ⟨b, o, hA, hb, hrow⟩ := h.row (by omega)
  obtain ⟨h1, h2⟩ := ent_at l k hk
  exact ⟨b, o, hA, hb, hrow _ _ h1, by have := hrow _ _ h2; rwa [← Nat.add_assoc] at this⟩
theorem any_take2 {p : Int × Int → Bool} {l : List (Int × Int)} {k : Nat} (hlt : k < l.length) (h : (l.take k).any p = false) (hp : p l[k] = false) : (l.take (k + 1)).any p = false := by
  rw [List.take_add_one, List.any_append, h, List.getElem?_eq_getElem hlt]
  simp [hp]
set_option maxRecDepth 100000 in
theorem indexE_any (v : Value) (l : List (Int × Int)) (t : Int) (gB : Nat) (w : World) (h1 : Sl w (lt w.heap.size) 2 v l.length (l.flatMap entC)) (hm : l.length ≤ 1000000) (hb : w.cell? ⟨gB, 0, none⟩ = some (.int .i64 t)) :
    Calls Try.prog 62 #[v, .func (.func 56) #[] #[.pointer (some ⟨gB, 0, none⟩)]] w fun e w' => ∃ r : Int, e = .returned (.int .i64 r) ∧ decide (0 ≤ r) = l.any (fun p => decide (t ≤ p.1)) ∧ Below w.heap.size w w' := by
  have hgl : gB < w.heap.size := by simpa using World.block_lt_of_cell? w _ hb
  obtain ⟨A, c, rfl, hc, h1⟩ := h1.form
  go_enter Try.func62, Try.ntmps62
  go_wp2_with fail
  go_loopw [8] (fun i wr => ∃ k : Nat, i = .int .i64 k ∧ Hid (k ≤ l.length) ∧ Hid ((l.take k).any (fun p => decide (t ≤ p.1)) = false) ∧ Below w.heap.size w wr) (fun i _ => l.length - (intOf i).toNat)
  case atStart => exact ⟨0, rfl, keep (Nat.zero_le _), keep (by simp), Below.refl _ _⟩
  case round =>
    obtain ⟨k, rfl, hk, hnot, hbr⟩ := hrel
    by_cases hlt : k < l.length
    · obtain ⟨b1, o1, rfl, hb1, hc1, hc2⟩ := ent_cells (h1.below hbr (Nat.le_refl _)) hlt
      have hi1 : (0 : Int) ≤ (k : Int) := by omega
      have hi2 : (k : Int) < (l.length : Int) := by omega
      have hbx := (hbr.cell (p := ⟨gB, 0, none⟩) hgl).trans hb
      have hbs := hbr.size
      by_cases hp : t ≤ l[k].1
      · have hyes : Hid (l.any (fun p => decide (t ≤ p.1)) = true) := keep (List.any_eq_true.2 ⟨l[k], List.getElem_mem _, by simpa using hp⟩)
        have hd : decide (t ≤ l[k].1) = true := by simpa using hp
        generalize l[k] = p at *
        obtain ⟨px, py⟩ := p
        simp only at *
        clear hp
        go_wp2_with fail
        refine (touch1_any px py t gB _ hbx).mono ?_
        rintro e w1 ⟨rfl, hb2⟩
        rw [hd]
        go_wp2_with fail
        go_ret
        exact ⟨_, rfl, by rw [hyes.out]; simp, hbr.trans (hb2.mono hbs)⟩
      · have hnx := keep (any_take2 (p := fun p => decide (t ≤ p.1)) hlt hnot.out (by simpa using hp))
        have hd : decide (t ≤ l[k].1) = false := by simpa using hp
        generalize l[k] = p at *
        obtain ⟨px, py⟩ := p
        simp only at *
        clear hp
        go_wp2_with fail
        refine (touch1_any px py t gB _ hbx).mono ?_
        rintro e w1 ⟨rfl, hb2⟩
        rw [hd]
        go_wp2_with fail
        go_roundw
        case rel => exact ⟨k + 1, by go_num, keep (by omega), hnx, hbr.trans (hb2.mono hbs)⟩
        case measure => simp [intOf]; omega
    · have hke : k = l.length := by have := hk.out; omega
      have hno : Hid (l.any (fun p => decide (t ≤ p.1)) = false) := keep (by
        have := hnot.out
        rw [hke, List.take_length] at this
        exact this)
      have hi2 : (l.length : Int) ≤ (k : Int) := by omega
      clear hke
      go_wp2_with fail
      go_ret
      exact ⟨_, rfl, by rw [hno.out]; rfl, hbr⟩
theorem containsE_any (v : Value) (l : List (Int × Int)) (t : Int) (gB : Nat) (w : World) (h1 : Sl w (lt w.heap.size) 2 v l.length (l.flatMap entC)) (hm : l.length ≤ 1000000) (hb : w.cell? ⟨gB, 0, none⟩ = some (.int .i64 t)) :
    Calls Try.prog 55 #[v, .func (.func 56) #[] #[.pointer (some ⟨gB, 0, none⟩)]] w fun e w' => e = .returned (.bool (l.any (fun p => decide (t ≤ p.1)))) ∧ Below w.heap.size w w' := by
  go_enter Try.func55, Try.ntmps55
  go_wp2_with fail
  refine (indexE_any v l t gB _ h1 hm hb).mono ?_
  rintro e w1 ⟨r, rfl, hr, hb⟩
  have hR := keep hr
  clear hr
  go_wp2_with fail
  go_ret
  exact ⟨ret_bool hR.out, hb⟩
set_option maxRecDepth 100000 in
theorem touched_any (v : Value) (b : List UInt8) (t : Int) (w : World) (h : BSl w (lt w.heap.size) v b) (hm : b.length ≤ 1000000) :
    Calls Try.prog 36 #[v, .int .i64 t] w (TouchOut w b t) := by
  go_enter Try.func36, Try.ntmps36
  go_wp2_with fail
  obtain ⟨W0, hW0⟩ : ∃ W0, w.alloc (.cells #[.int .i64 t] 3) = W0 := ⟨_, rfl⟩
  have hBk : Blk W0 w.heap.size 3 #[.int .i64 t] := hW0 ▸ Blk.new _ _ _
  have hb0 : Below w.heap.size w W0 := hW0 ▸ (Below.refl _ w).alloc (Nat.le_refl _) _
  have hs0 : BSl W0 (lt W0.heap.size) v b := h.up hb0
  rw [hW0]
  clear hW0 h
  have hgl := hBk.lt
  have hcb : W0.cell? ⟨w.heap.size, 0, none⟩ = some (.int .i64 t) := (hBk.cell 0).trans rfl
  refine (dec_any v b W0 hs0 hm).mono ?_
  rintro e W1 hdr
  obtain ⟨l, z, A, c, hD, rfl, hS, hb1⟩ := hdr.out
  have hbw1 := bchain hb0 hb1
  clear hdr
  by_cases hz : z = 0
  · subst hz
    have hP : IsPost b l := by
      rcases hD with ⟨h1, _⟩ | ⟨_, _, h1⟩
      · exact h1
      · cases h1
    have HP := keep hP
    have HD := keep hD
    have hs1 : BSl W1 (lt W1.heap.size) v b := hs0.up hb1
    have hc1 := (hb1.cell (p := ⟨w.heap.size, 0, none⟩) hgl).trans hcb
    have hg1 : w.heap.size < W1.heap.size := Nat.lt_of_lt_of_le hgl hb1.size
    clear hD hP hs0 hcb
    go_wp2_with fail
    refine (entries_any v b W1 hs1 hm).mono ?_
    rintro e W2 (⟨hno, rfl, _⟩ | ⟨n, b1, b2, vl, vr, hok, rfl, _, hown, hb2, hel⟩)
    · exact absurd HP.out (not_post (decP_no hno) l)
    · have hents := keep ((ents_post HP.out hok t).trans (sk_any l t).symm)
      have hc2 := (hb2.cell (p := ⟨w.heap.size, 0, none⟩) hg1).trans hc1
      have hn4 := (decP_ent hok).2
      obtain ⟨K, hK⟩ : ∃ K, blocksNo n = K := ⟨_, rfl⟩
      have hKb : K ≤ 129 := by rw [← hK]; unfold blocksNo; omega
      rw [hK] at hown hel hents
      obtain ⟨es, hes⟩ : ∃ es, entsP K b1 = es := ⟨_, rfl⟩
      rw [hes] at hown hel hents
      have hSe : Sl W2 (lt W2.heap.size) 2 vl es.length (es.flatMap entC) := by rw [hel]; exact Sl.of_own hown
      have hesl : es.length ≤ 1000000 := by omega
      have hbw2 := bchain hbw1 hb2
      clear hok hK hes hown hel hc1
      go_wp2_with fail
      refine (containsE_any vl es t _ W2 hSe hesl hc2).mono ?_
      rintro e W3 ⟨rfl, hb3⟩
      rw [hents.out]
      cases hsk : (sk l t).2 with
      | true =>
        have HS := keep hsk
        clear hsk hents
        go_wp2_with fail
        refine bodyPost_ret (v := .tuple #[.int .i64 1, .int .i64 0]) (by simp [results, Try.results36, go_sem]) rfl ?_
        exact ⟨l, 0, HD.out, by rw [HS.out]; rfl, bchain hbw2 hb3⟩
      | false =>
        have HS := keep hsk
        clear hsk hents
        go_wp2_with fail
        refine bodyPost_ret (v := .tuple #[.int .i64 0, .int .i64 0]) (by simp [results, Try.results36, go_sem]) rfl ?_
        exact ⟨l, 0, HD.out, by rw [HS.out]; rfl, bchain hbw2 hb3⟩
  · have hd : (z != 0) = true := by simpa using hz
    have hln := hD.bad hz
    subst hln
    have HD := keep hD
    clear hD hz
    go_wp2_with fail
    refine bodyPost_ret (v := .tuple #[.int .i64 0, .int .i64 z]) (by simp [results, Try.results36, go_sem]) rfl ?_
    exact ⟨[], z, HD.out, rfl, hbw1⟩
end Go.Proofs.Ytihimbmbhmgjoaa
