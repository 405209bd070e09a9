/- The contract of postings.entries: the number of identifiers, the skip entries and the bytes behind them. -/
import Derived.Test.YtihimbmbhmgjoaaNum
namespace Go.Proofs.Ytihimbmbhmgjoaa
open Go.RowKit

/-- k skip entries. -/
def entsP : Nat → List UInt8 → List (Int × Int)
  | 0, _ => []
  | k + 1, b => match numP b with
    | none => []
    | some (x, b1) => match numP b1 with
      | none => []
      | some (y, b2) => ((x : Int), (y : Int)) :: entsP k b2
theorem entsP_lasts : ∀ (k : Nat) (b : List UInt8), (entsP k b).map (·.1) = lastsP k b
  | 0, _ => rfl
  | k + 1, b => by
    unfold entsP lastsP
    cases numP b with
    | none => rfl
    | some p =>
      simp only
      cases numP p.2 with
      | none => rfl
      | some q => simp only [List.map_cons]; rw [entsP_lasts k q.2]
def entC (p : Int × Int) : List Value := [.int .i64 p.1, .int .i64 p.2]
/-- The number of identifiers, the bytes of the entries on, those behind them. -/
def entOk (b : List UInt8) : Option (Nat × List UInt8 × List UInt8) :=
  match numP b with
  | none => none
  | some (n, b1) => if 4096 < n then none else match entP (blocksNo n) b1 with
    | none => none
    | some b2 => some (n, b1, b2)
def EntRes (w : World) (b : List UInt8) (e : Ending) (w' : World) : Prop :=
  (entOk b = none ∧ e = .returned (.tuple #[.int .i64 0, .slice none 0 0, .slice none 0 0, .bool false]) ∧ Below w.heap.size w w') ∨
  ∃ (n : Nat) (b1 b2 : List UInt8) (vl vr : Value), entOk b = some (n, b1, b2) ∧ e = .returned (.tuple #[.int .i64 n, vl, vr, .bool true]) ∧ BSl w' (lt w.heap.size) vr b2 ∧
    w'.ownsRow w.heap.size 79 2 vl (blocksNo n) ((entsP (blocksNo n) b1).flatMap entC) ∧ Below w.heap.size w w' ∧ (entsP (blocksNo n) b1).length = blocksNo n
theorem elEnt : Elem Try.prog 66 79 2 16 (.agg #[.int .i64 0, .int .i64 0]) := ⟨Try.underlying66, by kernel_rfl, rfl, by decide⟩
theorem entC_len (acc : List (Int × Int)) : (acc.flatMap entC).length = 2 * acc.length := by
  induction acc with
  | nil => rfl
  | cons p acc ih => rw [List.flatMap_cons, List.length_append, List.length_cons, ih]; simp [entC]; omega
theorem entP_none1 {k : Nat} {b : List UInt8} (h : numP b = none) : entP (k + 1) b = none := by unfold entP; rw [h]
theorem entP_none2 {k x : Nat} {b b1 : List UInt8} (h : numP b = some (x, b1)) (h1 : numP b1 = none) : entP (k + 1) b = none := by unfold entP; rw [h]; simp only; rw [h1]
theorem entP_step {k x y : Nat} {b b1 b2 : List UInt8} (h : numP b = some (x, b1)) (h1 : numP b1 = some (y, b2)) : entP (k + 1) b = entP k b2 ∧ entsP (k + 1) b = ((x : Int), (y : Int)) :: entsP k b2 := by
  constructor
  · rw [entP, h]; simp only; rw [h1]
  · rw [entsP, h]; simp only; rw [h1]
theorem numP_len {b r : List UInt8} {n : Nat} (h : numP b = some (n, r)) : r.length ≤ b.length ∧ n < 16384 := by
  have := numP_small b n r h
  omega
theorem BSl.keep_ {w w' : World} {B : Nat} {v : Value} {l : List UInt8} (h : BSl w (lt B) v l) (hb : Below B w w') : BSl w' (lt B) v l := Sl.below (B := B) h hb (Nat.le_refl _)
theorem Blk.drewN_ {w : World} {g : Nat} {t : TypeId} {cs : Array Value} (h : Blk w g t cs) (k : Nat) : Blk (w.drewN k) g t cs := h
set_option maxRecDepth 100000 in
set_option maxHeartbeats 2000000 in
theorem entries_any (v : Value) (b : List UInt8) (w : World) (h : BSl w (lt w.heap.size) v b) (hm : b.length ≤ 1000000) :
    Calls Try.prog 49 #[v] w (EntRes w b) := by
  go_enter Try.func49, Try.ntmps49
  go_wp2_with fail
  refine (number_any v b _ w h hm).mono ?_
  rintro e W1 (⟨hn, rfl, q, rfl⟩ | ⟨n, b1, v1, hn, rfl, hS1, q, rfl⟩)
  · have hE : Hid (entOk b = none) := keep (by unfold entOk; rw [hn])
    go_wp2_with fail
    refine bodyPost_ret (v := .tuple #[.int .i64 0, .slice none 0 0, .slice none 0 0, .bool false]) (by simp [results, Try.results49, go_sem]) rfl ?_
    exact .inl ⟨hE.out, rfl, below_drewN (Below.refl _ _) _⟩
  · have hl1 := numP_len hn
    by_cases h4 : 4096 < n
    · have hE : Hid (entOk b = none) := keep (by unfold entOk; rw [hn]; simp only; rw [if_pos h4])
      have d4 : decide ((4096 : Int) < (n : Int)) = true := by simp; omega
      have HN := keep hn
      clear hn
      go_wp2_with fail
      refine bodyPost_ret (v := .tuple #[.int .i64 0, .slice none 0 0, .slice none 0 0, .bool false]) (by simp [results, Try.results49, go_sem]) rfl ?_
      exact .inl ⟨hE.out, rfl, below_drewN (Below.refl _ _) _⟩
    · have hE : Hid (∀ o, entP (blocksNo n) b1 = o → entOk b = match o with | none => none | some b2 => some (n, b1, b2)) := keep (fun o ho => by unfold entOk; rw [hn]; simp only; rw [if_neg h4, ho])
      have d4 : decide ((4096 : Int) < (n : Int)) = false := by simp; omega
      have hn4 : n ≤ 4096 := by omega
      have hb1l : b1.length ≤ 1000000 := by omega
      obtain ⟨K, hK⟩ : ∃ K, blocksNo n = K := ⟨_, rfl⟩
      have hKn : 32 * K ≤ n + 31 ∧ n ≤ 32 * K := by rw [← hK]; unfold blocksNo; omega
      have HKn := keep hKn
      rw [hK] at hE
      have HK := keep hK
      have hS1' : BSl (w.drewN q) (lt w.heap.size) v1 b1 := BSl.keep_ hS1 (below_drewN (Below.refl _ _) _)
      have hbq : Below w.heap.size w (w.drewN q) := below_drewN (Below.refl _ _) _
      obtain ⟨W0, hW0⟩ : ∃ W0, w.drewN q = W0 := ⟨_, rfl⟩
      rw [hW0] at hS1' hbq
      rw [hW0]
      clear hn hl1 h4 hKn hK hW0 hS1
      go_upto_region 4 with fail
      go_loopw [0, 2, 3, 5, 6] (fun vb vn vl ok _ wr => ∃ (k : Nat) (acc : List (Int × Int)) (bj : List UInt8), vn = .int .i64 n ∧ ok = .bool true ∧ Hid (acc.length + k = K) ∧ Hid (bj.length ≤ 1000000) ∧ Hid (BSl wr (lt w.heap.size) vb bj) ∧ Hid (entP k bj = entP K b1) ∧ Hid (acc ++ entsP k bj = entsP K b1) ∧
          wr.ownsRow w.heap.size 79 2 vl acc.length (acc.flatMap entC) ∧ Hid (Below w.heap.size w wr))
        (fun _ _ vl _ _ _ => 200 - (match vl with | .slice _ n _ => n | _ => 0))
      case atStart => exact ⟨K, [], b1, rfl, rfl, keep (by simp), keep hb1l, keep hS1', keep rfl, keep rfl, World.ownsRow_nil _ _ _ _, keep hbq⟩
      case round =>
        obtain ⟨k, acc, bj, rfl, rfl, hk, hbj, hSj, hEk, hLk, hown, hbr⟩ := hrel
        obtain ⟨Al, cl, hvl, _, _⟩ := (Sl.of_own hown).form
        subst hvl
        have hKb := HKn.out
        have hkk := hk.out
        rcases k with _ | k
        · have d5 : decide ((acc.length : Int) * 32 < (n : Int)) = false := by simp; omega
          have d6 : acc.length ≤ 129 := by omega
          have hal : acc.length = K := by omega
          have HAL := keep hal
          clear hal hkk hKb
          go_wp2_with fail
          refine bodyPost_ret (v := .tuple #[.int .i64 n, .slice Al acc.length cl, u0, .bool true]) (by simp [results, Try.results49, go_sem]) rfl ?_
          have e1 := hE.out (some bj) (by rw [← hEk.out]; rfl)
          have e2 : entsP K b1 = acc := by rw [← hLk.out]; simp [entsP]
          refine .inr ⟨n, b1, bj, _, _, e1, rfl, hSj.out, ?_, hbr.out, ?_⟩
          · rw [HK.out, e2, ← HAL.out]; exact hown
          · rw [HK.out, e2, HAL.out]
        · have d5 : decide ((acc.length : Int) * 32 < (n : Int)) = true := by simp; omega
          have d6 : acc.length ≤ 128 := by omega
          have hLk' := hLk
          clear hkk hKb
          go_wp2_with fail
          obtain ⟨W2, hW2⟩ : ∃ W2, wr.alloc (.cells #[.int .i64 0, .int .i64 0] 79) = W2 := ⟨_, rfl⟩
          have hBk : Blk W2 wr.heap.size 79 #[.int .i64 0, .int .i64 0] := hW2 ▸ Blk.new _ _ _
          have hb2 : Below wr.heap.size wr W2 := hW2 ▸ (Below.refl _ wr).alloc (Nat.le_refl _) _
          have hbw2 : Below w.heap.size w W2 := hbr.out.trans (hb2.mono hbr.out.size)
          have hbw2b : Below w.heap.size wr W2 := hb2.mono hbr.out.size
          have hown2 : W2.ownsRow w.heap.size 79 2 (.slice Al acc.length cl) acc.length (acc.flatMap entC) := hW2 ▸ hown.alloc _
          rw [hW2]
          have hownK := keep hown2
          have hapart : Hid (¬ Value.ownBlock (.slice Al acc.length cl) = some wr.heap.size) := keep (fun e => by have := (hown.lt _ e).2; omega)
          clear hown hown2 hW2 hb2
          refine (number_any u0 bj _ W2 (BSl.keep_ hSj.out hbw2b) hbj.out).mono ?_
          rintro e W3 (⟨hn1, rfl, q1, rfl⟩ | ⟨x, c1, v1, hn1, rfl, hS1, q1, rfl⟩)
          · have hno := hE.out none (by rw [← hEk.out]; exact entP_none1 hn1)
            have HNO := keep hno
            have hc2 := (hBk.drewN_ q1).cell2
            have hf2 := (hBk.drewN_ q1).frozen 0
            obtain ⟨W3, hW3⟩ : ∃ W3, W2.drewN q1 = W3 := ⟨_, rfl⟩
            have hbw3 : Below w.heap.size w W3 := hW3 ▸ below_drewN hbw2 q1
            rw [hW3] at hc2 hf2
            rw [hW3]
            clear hno hW3 hn1
            go_wp2_with fail
            refine bodyPost_ret (v := .tuple #[.int .i64 0, .slice none 0 0, .slice none 0 0, .bool false]) (by simp [results, Try.results49, go_sem]) rfl ?_
            exact .inl ⟨HNO.out, rfl, hbw3.setCell (p := ⟨wr.heap.size, 0, none⟩) hbr.out.size _⟩
          · have hl1 := numP_len hn1
            have hBk3 := (hBk.drewN_ q1).set_ 0 (.int .i64 x)
            have hc2 := (hBk.drewN_ q1).cell2
            have hf2 := (hBk.drewN_ q1).frozen 0
            have hbw3 : Below w.heap.size w (W2.drewN q1) := below_drewN hbw2 q1
            have hbw4 : Below w.heap.size w ((W2.drewN q1).setCell ⟨wr.heap.size, 0, none⟩ (.int .i64 x)) := hbw3.setCell (p := ⟨wr.heap.size, 0, none⟩) hbr.out.size _
            have hS4 : BSl ((W2.drewN q1).setCell ⟨wr.heap.size, 0, none⟩ (.int .i64 x)) (lt w.heap.size) v1 c1 := (BSl.keep_ hS1 (below_drewN (Below.refl _ _) q1)).keep_ ((Below.refl _ _).setCell (p := ⟨wr.heap.size, 0, none⟩) hbr.out.size _)
            have hown4 : ((W2.drewN q1).setCell ⟨wr.heap.size, 0, none⟩ (.int .i64 x)).ownsRow w.heap.size 79 2 (.slice Al acc.length cl) acc.length (acc.flatMap entC) :=
              hownK.out.kept (grownBy_set (grownBy_drewN (World.grownBy.refl _ _) _) 0 _) (Or.inr (fun e => hapart.out e))
            obtain ⟨W3, hW3⟩ : ∃ W3, W2.drewN q1 = W3 := ⟨_, rfl⟩
            rw [hW3] at hBk3 hc2 hf2 hbw3 hbw4 hS4 hown4
            rw [hW3]
            have HN1 := keep hn1
            have hx1 : x < 16384 := hl1.2
            have hc1l : c1.length ≤ 1000000 := by have := hbj.out; omega
            have HS4 := keep hS4
            have HO4 := keep hown4
            clear hW3 hn1 hl1 hS1 hS4 hown4 hbw3
            go_wp2_with fail
            obtain ⟨W4, hW4⟩ : ∃ W4, W3.setCell ⟨wr.heap.size, 0, none⟩ (.int .i64 x) = W4 := ⟨_, rfl⟩
            rw [hW4] at hBk3 hbw4 HS4 HO4
            rw [hW4]
            clear hW4 hc2 hf2
            refine (number_any v1 c1 _ W4 HS4.out hc1l).mono ?_
            rintro e W5 (⟨hn2, rfl, q2, rfl⟩ | ⟨y, c2, v2, hn2, rfl, hS2, q2, rfl⟩)
            · have hno := hE.out none (by rw [← hEk.out]; exact entP_none2 HN1.out hn2)
              have HNO := keep hno
              have hc2 := (hBk3.drewN_ q2).cell2
              have hf2 := (hBk3.drewN_ q2).frozen 1
              obtain ⟨W5, hW5⟩ : ∃ W5, W4.drewN q2 = W5 := ⟨_, rfl⟩
              have hbw5 : Below w.heap.size w W5 := hW5 ▸ below_drewN hbw4 q2
              rw [hW5] at hc2 hf2
              rw [hW5]
              clear hno hW5 hn2
              go_wp2_with fail
              refine bodyPost_ret (v := .tuple #[.int .i64 0, .slice none 0 0, .slice none 0 0, .bool false]) (by simp [results, Try.results49, go_sem]) rfl ?_
              exact .inl ⟨HNO.out, rfl, hbw5.setCell (p := ⟨wr.heap.size, 1, none⟩) hbr.out.size _⟩
            · have hl2 := numP_len hn2
              have hst := entP_step (k := k) HN1.out hn2
              have hBk5 := (hBk3.drewN_ q2).set_ 1 (.int .i64 y)
              have hc2 := (hBk3.drewN_ q2).cell2
              have hf2 := (hBk3.drewN_ q2).frozen 1
              have hbw6 : Below w.heap.size w ((W4.drewN q2).setCell ⟨wr.heap.size, 1, none⟩ (.int .i64 y)) := (below_drewN hbw4 q2).setCell (p := ⟨wr.heap.size, 1, none⟩) hbr.out.size _
              have hS6 : BSl ((W4.drewN q2).setCell ⟨wr.heap.size, 1, none⟩ (.int .i64 y)) (lt w.heap.size) v2 c2 := (BSl.keep_ hS2 (below_drewN (Below.refl _ _) q2)).keep_ ((Below.refl _ _).setCell (p := ⟨wr.heap.size, 1, none⟩) hbr.out.size _)
              have hown6 : ((W4.drewN q2).setCell ⟨wr.heap.size, 1, none⟩ (.int .i64 y)).ownsRow w.heap.size 79 2 (.slice Al acc.length cl) acc.length (acc.flatMap entC) :=
                HO4.out.kept (grownBy_set (grownBy_drewN (World.grownBy.refl _ _) _) 1 _) (Or.inr (fun e => hapart.out e))
              obtain ⟨W5, hW5⟩ : ∃ W5, W4.drewN q2 = W5 := ⟨_, rfl⟩
              obtain ⟨W6, hW6⟩ : ∃ W6, W5.setCell ⟨wr.heap.size, 1, none⟩ (.int .i64 y) = W6 := ⟨_, rfl⟩
              have HW6 := keep hW6
              rw [hW5] at hc2 hf2
              rw [hW5, hW6] at hBk5 hbw6 hS6 hown6
              rw [hW5]
              have hc6 : (W5.setCell ⟨wr.heap.size, 1, none⟩ (.int .i64 y)).cell? ⟨wr.heap.size, 0, none⟩ = some (.int .i64 x) ∧ (W5.setCell ⟨wr.heap.size, 1, none⟩ (.int .i64 y)).cell? ⟨wr.heap.size, 1, none⟩ = some (.int .i64 y) := by
                rw [hW6]; exact hBk5.cell2
              have hown7 : (W5.setCell ⟨wr.heap.size, 1, none⟩ (.int .i64 y)).ownsRow w.heap.size 79 2 (.slice Al acc.length cl) acc.length (acc.flatMap entC) := hW6 ▸ hown6
              have HST := keep hst
              have HS6 := keep hS6
              have hBsz : w.heap.size ≤ (W5.setCell ⟨wr.heap.size, 1, none⟩ (.int .i64 y)).heap.size := by rw [hW6]; exact hbw6.size
              have HO7 := keep hown7
              have hc2l : c2.length ≤ 1000000 := by omega
              obtain ⟨g1, g2⟩ := hc6
              have HNB := keep hbw6
              clear hW5 hW6 hn2 hl2 hst hS2 hS6 hown6 hown7 hbw6 hBk5 hBk3 hBk hbw4
              go_wp2_with (refine wpList_push elEnt rfl rfl _ _ _ rfl rfl rfl w.heap.size (.slice Al acc.length cl) (.agg #[.int .i64 x, .int .i64 y]) acc.length _ rfl (fun _ => rfl) (fun _ => rfl) HO7.out rfl (by intro c hc; simp [Value.cells] at hc; rcases hc with rfl | rfl <;> rfl) (by omega) (by unfold maxLen; omega) (by omega) hBsz ?_; intro g8 cap8 w8 hown8 hb8 _ _ _)
              have hHW := HW6.out
              rw [hHW] at hb8
              refine ⟨⟨k, acc ++ [((x : Int), (y : Int))], c2, rfl, rfl, keep (by have := hk.out; simp; omega), keep hc2l, keep (HS6.out.keep_ hb8), keep (by rw [← HST.out.1]; exact hEk.out), keep (by rw [← hLk.out, HST.out.2, List.append_assoc]; rfl), ?_, keep (HNB.out.trans hb8)⟩, by show 200 - (acc.length + 1) < 200 - acc.length; omega⟩
              rw [List.flatMap_append, List.length_append]
              simpa [entC, Value.cells] using hown8
end Go.Proofs.Ytihimbmbhmgjoaa
