/- The sanity check of the chapter on directories. -/
import Derived.Test.YtldopkdjoejhbaaDoorFsHold
import Derived.Test.YtldopkdjoejhbaaDoorBytes
import Derived.Lib.SmallJoins
import Derived.Lib.SlBytesConst
namespace Go.Proofs.YtldopkdjoejhbaaDoor
open Go.RowKit

def exA : ByteArray := ⟨#[97]⟩
def exB : ByteArray := ⟨#[98]⟩
theorem ex_run : runP ⟨[], [], []⟩ [⟨1, exA, ⟨#[]⟩, [120, 10], 0⟩, ⟨5, exA, exB, [], 0⟩, ⟨3, exA, ⟨#[]⟩, [], 0⟩, ⟨6, exB, ⟨#[]⟩, [], 9⟩] =
  (⟨[⟨exA, 1⟩, ⟨exB, 2⟩], [⟨1, [], false, true, 0⟩, ⟨2, [120, 10], true, true, 0⟩], []⟩, [0, 0, 0, 0]) := by kernel_rfl
theorem ex_look : lookP [⟨exA, 1⟩, ⟨exB, 2⟩] exB = some 2 := by kernel_rfl
theorem ex_read : readP ⟨[⟨exA, 1⟩, ⟨exB, 2⟩], [⟨1, [], false, true, 0⟩, ⟨2, [120, 10], true, true, 0⟩], []⟩ 2 = some ⟨2, [120, 10], true, true, 0⟩ := by kernel_rfl
theorem Sl.lit (w : World) (cs : List Value) (t : TypeId) (fz : Nat × Nat) (size n g : Nat) (hg : g = w.heap.size) (h : cs.length = n * size) : Sl (w.alloc (.cells cs.toArray t fz)) (lt (w.alloc (.cells cs.toArray t fz)).heap.size) size (.slice (some ⟨g, 0, none⟩) n n) n cs := by
  subst hg
  refine ⟨h, _, n, rfl, Nat.le_refl _, fun _ => ⟨w.heap.size, 0, rfl, by simp [lt], fun j u hu => ?_⟩⟩
  rw [Nat.zero_add, World.cell?_alloc_mark w cs.toArray t fz j]
  simpa using hu
/-- A literal list of changes. -/
theorem ChsR.lit (w : World) (L : List Ch) (t : TypeId) (g : Nat) (hg : g = w.heap.size) (h : ∀ c ∈ L, ChOk w c) : ChsR (w.alloc (.cells (L.flatMap fun c => (chV c).toList).toArray t)) (.slice (some ⟨g, 0, none⟩) L.length L.length) L :=
  ⟨Sl.lit w _ t (0, 0) 5 L.length g hg (rows_len chL_len L), fun c hc => (h c hc).up ((Below.refl _ w).alloc (Nat.le_refl _) _)⟩
theorem chOk_of {w : World} {k n : Int} {nm dst : ByteArray} {dv : Value} {data : List UInt8} (h : BR w dv data) (hb : data.length ≤ 1000000 ∧ n ≤ 9223372036854775807 ∧ nm.size ≤ 9223372036854775807 ∧ dst.size ≤ 9223372036854775807) : ChOk w ⟨k, nm, dst, dv, data, n⟩ := ⟨h, hb.1, hb.2.1, hb.2.2.1, hb.2.2.2⟩
theorem BR.nil (w : World) (A : Option Addr) (c : Nat) : BR w (.slice A 0 c) [] := Sl.nil _ _ _ _ _
theorem BR.lit (w : World) (l : List UInt8) (t : TypeId) (fz : Nat × Nat) (g : Nat) (hg : g = w.heap.size) : BR (w.alloc (.cells (bys l).toArray t fz)) (.slice (some ⟨g, 0, none⟩) l.length l.length) l :=
  Sl.lit w (bys l) t fz 1 l.length g hg (by rw [bys_len, Nat.mul_one])
set_option maxHeartbeats 8000000 in
set_option maxRecDepth 100000 in
theorem awake_any (w : World) (hg : Chg w) : Calls Tryd.prog 9 #[] w fun x w' => x = .returned (.bool true) ∧ Below w.heap.size w w' := by
  have HG := keep hg
  clear hg
  go_enter Tryd.func9, Tryd.ntmps9
  go_wp2_with fail
  refine (new_any w).mono ?_
  rintro e w1 ⟨rfl, hb1⟩
  have kc := fun (w : World) (C : Array Value) (n c : Nat) => Lib.run_convert_bytes_const (P := Tryd.prog) w 22 5 C n c Tryd.underlying22 Tryd.underlying5
  go_wp2_with fail
  have hz1 := hb1.size
  obtain ⟨W1, hW1⟩ : ∃ W1, W1 = w1.alloc (Obj.cells #[Value.int .u8 120, Value.int .u8 10] 5 (2, 3)) := ⟨_, rfl⟩
  have hbA : Below w1.heap.size w1 W1 := hW1 ▸ (Below.refl _ w1).alloc (Nat.le_refl _) _
  have hzA : W1.heap.size = w1.heap.size + 1 := by rw [hW1]; simp
  have hbr : BR W1 (.slice (some ⟨w1.heap.size, 0, none⟩) 2 2) [120, 10] := hW1 ▸ BR.lit w1 [120, 10] _ _ _ rfl
  obtain ⟨L, hL⟩ : ∃ L : List Ch, L = [⟨1, exA, ⟨#[]⟩, .slice (some ⟨w1.heap.size, 0, none⟩) 2 2, [120, 10], 0⟩, ⟨5, exA, exB, .slice none 0 0, [], 0⟩, ⟨3, exA, ⟨#[]⟩, .slice none 0 0, [], 0⟩, ⟨6, exB, ⟨#[]⟩, .slice none 0 0, [], 9⟩] := ⟨_, rfl⟩
  have hok : ∀ c ∈ L, ChOk W1 c := by
    rw [hL]
    intro c hc
    simp only [List.mem_cons, List.not_mem_nil, or_false] at hc
    rcases hc with rfl | rfl | rfl | rfl
    · exact chOk_of hbr (by decide)
    · exact chOk_of (BR.nil _ _ _) (by decide)
    · exact chOk_of (BR.nil _ _ _) (by decide)
    · exact chOk_of (BR.nil _ _ _) (by decide)
  have hlit := ChsR.lit W1 L 37 (w1.heap.size + 1) hzA.symm hok
  have hbB : Below W1.heap.size W1 (W1.alloc (.cells (L.flatMap fun c => (chV c).toList).toArray 37)) := (Below.refl _ W1).alloc (Nat.le_refl _) _
  have hb2 := bchain (bchain hb1 hbA) hbB
  have hg2 := HG.out.up hb2
  have HRUN := keep (run_any _ _ _ _ ⟨[], [], []⟩ L _ (FsT.new _) Inv.new (by simp) hlit (by rw [hL]; simp) hg2)
  have HB2 := keep hb2
  have HG2 := keep hg2
  have HPL : Hid (L.map Ch.p = [⟨1, exA, ⟨#[]⟩, [120, 10], 0⟩, ⟨5, exA, exB, [], 0⟩, ⟨3, exA, ⟨#[]⟩, [], 0⟩, ⟨6, exB, ⟨#[]⟩, [], 9⟩]) := keep (by rw [hL]; rfl)
  have HLL : Hid (L.length = 4) := keep (by rw [hL]; rfl)
  have hLf : (L.flatMap fun c => (chV c).toList).toArray = #[Value.int .i64 1, .string ⟨#[97]⟩, .string ⟨#[]⟩, .slice (some ⟨w1.heap.size, 0, none⟩) 2 2, .int .i64 0, .int .i64 5, .string ⟨#[97]⟩, .string ⟨#[98]⟩, .slice none 0 0, .int .i64 0, .int .i64 3, .string ⟨#[97]⟩, .string ⟨#[]⟩, .slice none 0 0, .int .i64 0, .int .i64 6, .string ⟨#[98]⟩, .string ⟨#[]⟩, .slice none 0 0, .int .i64 9] := by rw [hL]; rfl
  rw [← hW1, ← hLf, show (Value.slice (some ⟨w1.heap.size + 1, 0, none⟩) 4 4) = .slice (some ⟨w1.heap.size + 1, 0, none⟩) L.length L.length by rw [HLL.out]]
  clear hlit hbB hb2 hg2 hLf hok hbr hbA hb1 hzA hW1 hL kc
  refine HRUN.out.mono ?_
  rintro e w3 ⟨fs3, vN, vF, vO, vE, rfl, hT3, hP3, hI3, hO3, hE3, hb3⟩
  rw [HPL.out, show FS.p ⟨[], [], []⟩ = PD.mk [] [] [] from rfl, ex_run] at hP3 hE3
  rw [HLL.out] at hE3
  obtain ⟨B1, d1, rfl, _, _⟩ := hT3.n.form
  obtain ⟨B2, d2, rfl, _, _⟩ := hT3.f.form
  obtain ⟨B3, d3, rfl, _, _⟩ := hT3.o.form
  obtain ⟨E1, ce, rfl, _, _⟩ := hE3.form
  obtain ⟨eb, eo, eu, rfl, _, heu, he3⟩ := hE3.at_ (k := 3) (by omega)
  have heu2 : eu = .int .i64 0 := by simpa [ints] using heu.symm
  rw [heu2] at he3
  have hN : fs3.N = [⟨exA, 1⟩, ⟨exB, 2⟩] := congrArg PD.N hP3
  have hO : fs3.O.length ≤ 800 := by rw [hO3]; simp
  have hal : Below w3.heap.size w3 (w3.alloc (.cells #[.slice B1 fs3.N.length d1, .slice B2 fs3.F.length d2, .slice B3 fs3.O.length d3] 31)) := (Below.refl _ w3).alloc (Nat.le_refl _) _
  have HLK := keep (lookup_any _ _ _ fs3 exB _ (hT3.up hal) hI3)
  have HT4 := keep (hT3.up hal)
  have HB4 := keep (bchain (bchain HB2.out hb3) hal)
  have HP3 := keep hP3
  have HN := keep hN
  have HI3 := keep hI3
  have HO := keep hO
  have HE3 := keep he3
  have hX4 := Blk.new w3 31 #[.slice B1 fs3.N.length d1, .slice B2 fs3.F.length d2, .slice B3 fs3.O.length d3]
  have HX4 := keep hX4
  have helt : eb < w3.heap.size := World.block_lt_of_cell? w3 _ he3
  have HE4 := keep ((hal.cell (p := ⟨eb, eo + 3, none⟩) helt).trans he3)
  clear hT3 hP3 hN hI3 hO3 hE3 hb3 hal hO heu heu2 he3 hX4
  go_wp2_with fail
  refine HLK.out.mono ?_
  rintro e w5 ⟨rfl, hb5⟩
  rw [HN.out, ex_look, show hasP [⟨exA, 1⟩, ⟨exB, 2⟩] exB = true from by unfold hasP; rw [ex_look]; rfl]
  have hX5 := HX4.out.below hb5 HX4.out.lt
  obtain ⟨f0, f1, f2⟩ := hX5.cell3
  have HRD := keep (read_any _ _ _ fs3 2 w5 (HT4.out.up hb5) HI3.out HO.out)
  have HB5 := keep (bchain HB4.out hb5)
  have HE5 := keep ((hb5.cell (p := ⟨eb, eo + 3, none⟩) (World.block_lt_of_cell? _ _ HE4.out)).trans HE4.out)
  clear hX5 hb5
  go_wp2_with fail
  refine HRD.out.mono ?_
  rintro e w6 ⟨dv, rfl, hdv, hb6⟩
  rw [HP3.out, ex_read] at hdv ⊢
  have hd2 : Sl w6 (u8B w6) 1 dv 2 (bys [120, 10]) := hdv
  obtain ⟨A, c, rfl, _, _⟩ := hd2.form
  have hal : Below w6.heap.size w6 (w6.alloc (.cells #[.int .i64 2, .slice A 2 c, .bool true, .bool true, .int .i64 0] 45)) := (Below.refl _ w6).alloc (Nat.le_refl _) _
  have hsb : BSl (w6.alloc (.cells #[.int .i64 2, .slice A 2 c, .bool true, .bool true, .int .i64 0] 45)) (lt (w6.alloc (.cells #[.int .i64 2, .slice A 2 c, .bool true, .bool true, .int .i64 0] 45)).heap.size) (.slice A 2 c) [120, 10] := Sl.upW (hd2.mono fun _ hb => hb.lt_) hal
  have hcv := run_stringB hsb Tryd.underlying22 Tryd.underlying5 Tryd.underlying9
  have HE6 := (((hb6.trans (hal.mono hb6.size)).cell (p := ⟨eb, eo + 3, none⟩) (World.block_lt_of_cell? _ _ HE5.out)).trans HE5.out)
  have HB6 := keep (bchain (bchain HB5.out hb6) hal)
  clear hsb hal hb6 hdv hd2
  simp only [fileV, Option.getD_some, Option.isSome_some]
  go_wp2_with fail
  go_ret
  exact ⟨rfl, HB6.out⟩
end Go.Proofs.YtldopkdjoejhbaaDoor
