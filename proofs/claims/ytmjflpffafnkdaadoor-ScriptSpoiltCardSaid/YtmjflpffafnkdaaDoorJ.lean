/- A job among a law's arguments, opened. Conditions: see each theorem. -/
import Derived.Test.YtmjflpffafnkdaaDoorV
import Derived.Test.YtmjflpffafnkdaaDoorU
import Derived.OpenShut
import Derived.ShutString
import Derived.Handy
namespace Go.Proofs.YtmjflpffafnkdaaDoor
open Go.ChangeShapes Go.WideShapes Go.RowKit
open Go.Proofs.YtmjflpffafnkdaaDoorW.PrintWords
theorem cells3 : Tryd.prog.cellsOf 3 = 1 := by kernel_rfl
theorem cells4 : Tryd.prog.cellsOf 4 = 1 := by kernel_rfl
theorem cells23 : Tryd.prog.cellsOf 23 = 3 := by kernel_rfl
theorem cells24 : Tryd.prog.cellsOf 24 = 1 := by kernel_rfl
theorem cells26 : Tryd.prog.cellsOf 26 = 6 := by kernel_rfl
section
variable {H : Type} {enc : TypeId × Value → H} {W : World}
theorem slice_of {n : Nat} {cs : List Value} {x : DataW H × List MemPlace} (h : DataW.trod enc Tryd.prog W 0 (fun _ => true) true n 24 cs = some x) :
    ∃ A l c, cs = [.slice A (List.length l) c] ∧ I64 l ∧ Kd.C (Kd.int .i64) W A l.length l ∧ l.length ≤ c := by
  rcases open_ints Tryd.underlying24 Tryd.underlying3 cells3 h with ⟨rfl, _⟩ | ⟨a, len, cap, zs, rfl, _, hlc, hcm, hz, _, hcell, hwf⟩
  · exact ⟨none, [], 0, rfl, I64_nil, Kd.C_nil _ _, Nat.zero_le _⟩
  · rw [if_pos rfl] at hz
    have hlen : (zs.take len).length = len := by rw [List.length_take, hz, Nat.min_eq_left hlc]
    refine ⟨some a, zs.take len, cap, by rw [hlen], ?_, ?_, by rw [hlen]; exact hlc⟩
    · intro x hx
      exact bounds_i64 (hwf x (List.mem_of_mem_take hx))
    · refine Kd.C_of_reads (d := (0 : Int)) ⟨rfl, by rw [hlen]; unfold maxLen at hcm; omega, fun _ => ⟨_, rfl, fun j hj => ?_⟩⟩
      have hj' : j < len := by rw [hlen] at hj; exact hj
      rw [hcell j (by omega)]
      simp only [List.getD_eq_getElem?_getD, List.getElem?_take, if_pos hj']
set_option maxRecDepth 100000 in
theorem job_of {base : Nat} {v : Value} {d : DataW H} {p : List MemPlace} (hv : Value.okWide Tryd.prog W .any base 26 v) (h : DataW.Trod enc Tryd.prog W 0 (fun _ => true) true 26 v d p) :
    ∃ (j : Jb) (A1 A2 : Option Addr) (c1 c2 : Nat), v = .agg #[.bool j.cl, .int .i64 j.p, .int .i64 j.st, .int .i64 j.so, .slice A1 j.l1.length c1, .slice A2 j.l2.length c2] ∧ JbOk j ∧
      (Kd.C (Kd.int .i64) W A1 j.l1.length j.l1 ∧ j.l1.length ≤ c1 ∧ Kd.C (Kd.int .i64) W A2 j.l2.length j.l2 ∧ j.l2.length ≤ c2) := by
  obtain ⟨cs, rfl, hsz⟩ := okWide_struct Tryd.underlying26 hv
  rw [cells26] at hsz
  obtain ⟨l⟩ := cs
  obtain ⟨e0, e1, e2, e3, e4, e5, rfl⟩ : ∃ e0 e1 e2 e3 e4 e5, l = [e0, e1, e2, e3, e4, e5] := by
    match l, hsz with
    | [e0, e1, e2, e3, e4, e5], _ => exact ⟨e0, e1, e2, e3, e4, e5, rfl⟩
  obtain ⟨fuel, hf⟩ := h
  obtain ⟨xs, n, _, hx, _, hlen, hg⟩ := DataW.trod_struct Tryd.underlying26 hf
  have f0 : DataW.trod enc Tryd.prog W 0 (fun _ => true) true n 4 (List.take (Tryd.prog.cellsOf 4) (List.drop 0 [e0, e1, e2, e3, e4, e5])) = xs[0]? := hg 0 _ rfl
  rw [cells4] at f0
  change DataW.trod enc Tryd.prog W 0 (fun _ => true) true n 4 [e0] = _ at f0
  have f1 : DataW.trod enc Tryd.prog W 0 (fun _ => true) true n 23 (List.take (Tryd.prog.cellsOf 23) (List.drop 1 [e0, e1, e2, e3, e4, e5])) = xs[1]? := hg 1 _ rfl
  rw [cells23] at f1
  change DataW.trod enc Tryd.prog W 0 (fun _ => true) true n 23 [e1, e2, e3] = _ at f1
  have f2 : DataW.trod enc Tryd.prog W 0 (fun _ => true) true n 24 (List.take (Tryd.prog.cellsOf 24) (List.drop 4 [e0, e1, e2, e3, e4, e5])) = xs[2]? := hg 2 _ rfl
  rw [cells24] at f2
  change DataW.trod enc Tryd.prog W 0 (fun _ => true) true n 24 [e4] = _ at f2
  have f3 : DataW.trod enc Tryd.prog W 0 (fun _ => true) true n 24 (List.take (Tryd.prog.cellsOf 24) (List.drop 5 [e0, e1, e2, e3, e4, e5])) = xs[3]? := hg 3 _ rfl
  rw [cells24] at f3
  change DataW.trod enc Tryd.prog W 0 (fun _ => true) true n 24 [e5] = _ at f3
  obtain ⟨y0, hy0⟩ : ∃ y, xs[0]? = some y := ⟨_, List.getElem?_eq_getElem (by rw [hlen]; decide)⟩
  obtain ⟨y1, hy1⟩ : ∃ y, xs[1]? = some y := ⟨_, List.getElem?_eq_getElem (by rw [hlen]; decide)⟩
  obtain ⟨y2, hy2⟩ : ∃ y, xs[2]? = some y := ⟨_, List.getElem?_eq_getElem (by rw [hlen]; decide)⟩
  obtain ⟨y3, hy3⟩ : ∃ y, xs[3]? = some y := ⟨_, List.getElem?_eq_getElem (by rw [hlen]; decide)⟩
  rw [hy0] at f0; rw [hy1] at f1; rw [hy2] at f2; rw [hy3] at f3
  obtain ⟨b, hb, _⟩ := DataW.trod_bool Tryd.underlying4 f0
  obtain ⟨A1, l1, c1, h1, i1, r1, hl1⟩ := slice_of f2
  obtain ⟨A2, l2, c2, h2, i2, r2, hl2⟩ := slice_of f3
  obtain ⟨zs, m, _, hz, _, hzl, hgz⟩ := DataW.trod_struct Tryd.underlying23 f1
  have g0 : DataW.trod enc Tryd.prog W 0 (fun _ => true) true m 3 (List.take (Tryd.prog.cellsOf 3) (List.drop 0 [e1, e2, e3])) = zs[0]? := hgz 0 _ rfl
  rw [cells3] at g0
  change DataW.trod enc Tryd.prog W 0 (fun _ => true) true m 3 [e1] = _ at g0
  have g1 : DataW.trod enc Tryd.prog W 0 (fun _ => true) true m 3 (List.take (Tryd.prog.cellsOf 3) (List.drop 1 [e1, e2, e3])) = zs[1]? := hgz 1 _ rfl
  rw [cells3] at g1
  change DataW.trod enc Tryd.prog W 0 (fun _ => true) true m 3 [e2] = _ at g1
  have g2 : DataW.trod enc Tryd.prog W 0 (fun _ => true) true m 3 (List.take (Tryd.prog.cellsOf 3) (List.drop 2 [e1, e2, e3])) = zs[2]? := hgz 2 _ rfl
  rw [cells3] at g2
  change DataW.trod enc Tryd.prog W 0 (fun _ => true) true m 3 [e3] = _ at g2
  obtain ⟨z0, hz0⟩ : ∃ y, zs[0]? = some y := ⟨_, List.getElem?_eq_getElem (by rw [hzl]; decide)⟩
  obtain ⟨z1, hz1⟩ : ∃ y, zs[1]? = some y := ⟨_, List.getElem?_eq_getElem (by rw [hzl]; decide)⟩
  obtain ⟨z2, hz2⟩ : ∃ y, zs[2]? = some y := ⟨_, List.getElem?_eq_getElem (by rw [hzl]; decide)⟩
  rw [hz0] at g0; rw [hz1] at g1; rw [hz2] at g2
  obtain ⟨n0, hn0, _, w0⟩ := DataW.trod_int Tryd.underlying3 g0
  obtain ⟨n1, hn1, _, w1⟩ := DataW.trod_int Tryd.underlying3 g1
  obtain ⟨n2, hn2, _, w2⟩ := DataW.trod_int Tryd.underlying3 g2
  injection hb with hb; injection h1 with h1; injection h2 with h2
  injection hn0 with hn0; injection hn1 with hn1; injection hn2 with hn2
  subst hb h1 h2 hn0 hn1 hn2
  refine ⟨⟨b, n0, n1, n2, l1, l2⟩, A1, A2, c1, c2, rfl, ⟨?_, i1, i2⟩, r1, hl1, r2, hl2⟩
  intro x hx
  simp only [List.mem_cons, List.not_mem_nil, or_false] at hx
  rcases hx with rfl | rfl | rfl
  · exact bounds_i64 w0
  · exact bounds_i64 w1
  · exact bounds_i64 w2
end
end Go.Proofs.YtmjflpffafnkdaaDoor
