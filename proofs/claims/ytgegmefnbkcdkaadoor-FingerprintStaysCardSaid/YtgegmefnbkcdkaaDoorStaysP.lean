/- A file, its copy and their numbers: the plain law. No program in sight. -/
import Derived.Test.YtgegmefnbkcdkaaDoorScanSm
import Derived.Test.YtgegmefnbkcdkaaDoorFsRun
namespace Go.Proofs.YtgegmefnbkcdkaaDoor
open Go.RowKit

def appS : ByteArray := ⟨#[97, 112, 112]⟩
def appC : ByteArray := ⟨#[97, 112, 112, 46, 99]⟩
def d1P (data : List UInt8) : PD := ⟨[⟨appS, 1⟩], [⟨1, data, false, true, 0⟩], []⟩
def d2P (data : List UInt8) : PD := ⟨[⟨appS, 1⟩, ⟨appC, 2⟩], [⟨1, data, false, true, 0⟩, ⟨2, data, true, false, data.length⟩], []⟩
def d3P (data : List UInt8) (k : Int) : PD := ⟨[⟨appS, 1⟩, ⟨appC, 2⟩], [⟨1, data, false, true, 0⟩, ⟨2, data, true, (data.length : Int) - min k data.length == 0, data.length - min k data.length⟩], []⟩
theorem vld_appS : vld appS = true := by decide
theorem vld_appC : vld appC = true := by decide
theorem app_ne : (appS = appC) = False := by simp [appS, appC]
theorem app_ne2 : (appC = appS) = False := by simp [appS, appC]
theorem lb_app : lb appS < lb appC := by decide
theorem do1P (data : List UInt8) (hd : data.length ≤ 60000) : doP ⟨[], [], []⟩ ⟨1, appS, ⟨#[]⟩, data, 0⟩ = (0, d1P data) := by
  have h1 : stepP ⟨[], [], []⟩ ⟨1, appS, ⟨#[]⟩, data, 0⟩ = (0, ⟨[⟨appS, 1⟩], [⟨1, data, false, true, 0⟩], []⟩) := by
    simp [stepP, hasP, lookP, hd, linkP, rmName, putName, freeP, gapP, addP]
  unfold doP
  rw [if_neg (by simp), if_neg (by simp [badP, vld_appS]), h1]
  simp [purgeP, goneP, d1P]
theorem do2P (data : List UInt8) : doP (d1P data) ⟨5, appS, appC, [], 0⟩ = (0, d2P data) := by
  have h1 : stepP (d1P data) ⟨5, appS, appC, [], 0⟩ = (0, d2P data) := by
    have hn : lookP [⟨appS, 1⟩] appS = some 1 := by simp [lookP]
    have hc : lookP [⟨appS, 1⟩] appC = none := by simp [lookP, app_ne]
    have h2 : appS.data < appC.data := by have := lb_app; simpa using this
    have hl : linkP [⟨appS, 1⟩] appC 2 = [⟨appS, 1⟩, ⟨appC, 2⟩] := by simp [linkP, rmName, putName, app_ne, h2]
    have hf : freeP [⟨1, data, false, true, 0⟩] = 2 := by simp [freeP, gapP]
    simp [stepP, d1P, fileP, hn, getP, hasP, hc, hf, hl, addP, d2P]
  unfold doP
  rw [if_neg (by simp), if_neg (by simp [badP, vld_appS, vld_appC]), h1]
  simp [purgeP, goneP, d2P]
theorem do3P (data : List UInt8) (k : Int) (hk : 1 ≤ k) : doP (d2P data) ⟨6, appC, ⟨#[]⟩, [], k⟩ = (0, d3P data k) := by
  have h1 : stepP (d2P data) ⟨6, appC, ⟨#[]⟩, [], k⟩ = (0, d3P data k) := by
    have hn : lookP [⟨appS, 1⟩, ⟨appC, 2⟩] appC = some 2 := by simp [lookP, app_ne]
    have hk' : ¬ k < 1 := by omega
    simp [stepP, d2P, fileP, hn, getP, hk', updP, d3P]
  unfold doP
  rw [if_neg (by simp), if_neg (by simp [badP, vld_appC]), h1]
  simp [purgeP, goneP, d3P]
theorem run3P (data : List UInt8) (k : Int) (hk : 1 ≤ k) (hd : data.length ≤ 60000) : runP ⟨[], [], []⟩ [⟨1, appS, ⟨#[]⟩, data, 0⟩, ⟨5, appS, appC, [], 0⟩, ⟨6, appC, ⟨#[]⟩, [], k⟩] = (d3P data k, [0, 0, 0]) := by
  simp [runP, do1P data hd, do2P, do3P data k hk]
theorem numOk_app {data : List UInt8} (more : List UInt8) {k : Int} (h : numOk data k = true) : numOk (data ++ more) k = true ∧ nfold ((data ++ more).take k.toNat) = nfold (data.take k.toNat) := by
  have h1 := numOk_iff.1 h
  refine ⟨numOk_iff.2 ⟨h1.1, h1.2.1, by rw [List.length_append]; omega⟩, ?_⟩
  rw [List.take_append_of_le_length (by omega)]
/-- What the statement asks of the scan. -/
theorem scan3P {data : List UInt8} {k : Int} (h : numOk data k = true) : ∃ x y : Sn, scanP (d3P data k) appS k = [x, y] ∧ x.file = nfold (data.take k.toNat) ∧ y.file = nfold (data.take k.toNat) ∧ y.size ≤ x.size := by
  have h1 := numOk_iff.1 h
  obtain ⟨n, rfl⟩ := Int.eq_ofNat_of_zero_le (show 0 ≤ k by omega)
  rw [Int.toNat_natCast]
  have hmin : min (n : Int) (data.length : Int) = n := by omega
  have r1 : readP (d3P data n) 1 = some ⟨1, data, false, true, 0⟩ := by
    simp [readP, d3P, getP, seenP]
  have r2 : readP (d3P data n) 2 = some (seenP ⟨2, data, true, (data.length : Int) - min (n : Int) data.length == 0, data.length - min (n : Int) data.length⟩) := by
    simp [readP, d3P, getP]
  have e2 : (seenP ⟨2, data, true, (data.length : Int) - min (n : Int) data.length == 0, data.length - min (n : Int) data.length⟩).data = data.take n := by
    simp only [seenP, hmin]
    congr 1
    omega
  have hl2 : (data.take n).length = n := by rw [List.length_take]; omega
  have hn2 : numOk (data.take n) n = true := numOk_iff.2 ⟨h1.1, h1.2.1, by rw [hl2]; omega⟩
  have s1 := see_some r1 h
  have s2 := see_some (k := (n : Int)) r2 (by rw [e2]; exact hn2)
  rw [e2] at s2
  have q1 : numOf data n = nfold (data.take n) := by unfold numOf; rw [if_pos h, Int.toNat_natCast]
  have q2 : numOf (data.take n) n = nfold (data.take n) := by
    unfold numOf
    rw [if_pos hn2, Int.toNat_natCast, List.take_take, Nat.min_self]
  rw [q1] at s1
  rw [q2] at s2
  have w1 : wantB (d3P data n) appS 1 = true := by
    have : pre appS appS = true := by decide
    simp [wantB, d3P, this]
  have w2 : wantB (d3P data n) appS 2 = true := by
    have : pre appS appC = true := by decide
    simp [wantB, d3P, this]
  have hs : scanP (d3P data n) appS n = sortS [⟨nfold (data.take n), 1, data.length⟩, ⟨nfold (data.take n), 2, (data.take n).length⟩] := by
    unfold scanP
    have hi : inosP (d3P data n) = [1, 2] := rfl
    rw [hi]
    simp [w1, w2, s1, s2]
  rw [hs]
  generalize nfold (data.take n) = q
  generalize hz : ([⟨q, 1, data.length⟩, ⟨q, 2, (data.take n).length⟩] : List Sn) = L
  have hp : (sortS L).Perm L := List.mergeSort_perm _ _
  have ho := sortS_srt L
  have hlen : (sortS L).length = 2 := by rw [hp.length_eq, ← hz]; rfl
  match hm : sortS L, hlen with
  | [x, y], _ =>
    rw [hm] at hp ho
    have hx : x ∈ L := hp.mem_iff.1 (by simp)
    have hy : y ∈ L := hp.mem_iff.1 (by simp)
    have hf : ∀ s ∈ L, s.file = q := by
      rw [← hz]
      intro s hs'
      simp only [List.mem_cons, List.not_mem_nil, or_false] at hs'
      rcases hs' with rfl | rfl <;> rfl
    refine ⟨x, y, rfl, hf x hx, hf y hy, ?_⟩
    unfold SrtS at ho
    have h2 := (List.pairwise_cons.1 ho).1 y (by simp)
    have fx := hf x hx
    have fy := hf y hy
    simp [lessS] at h2
    omega
end Go.Proofs.YtgegmefnbkcdkaaDoor
