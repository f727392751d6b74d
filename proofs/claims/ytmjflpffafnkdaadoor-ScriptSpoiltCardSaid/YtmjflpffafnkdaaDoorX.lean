/- The laws' functions, walked. Conditions: see each theorem. -/
import Derived.Test.YtmjflpffafnkdaaDoorG
import Derived.Test.YtmjflpffafnkdaaDoorH
import Derived.Test.YtmjflpffafnkdaaDoorI
import Derived.Test.YtmjflpffafnkdaaDoorU
namespace Go.Proofs.YtmjflpffafnkdaaDoor
open Go.RowKit
open Go.Proofs.YtmjflpffafnkdaaDoorW.PrintWords Go.Proofs.YtmjflpffafnkdaaDoorW.PrintLast Go.Proofs.YtmjflpffafnkdaaDoorW.PrintMore
variable {B0 : Nat}

/-- Read's results, with what its text reads as. -/
theorem Read_at {s : ByteArray} {j : Jb} {n c : Int} (h : readT s = (j, n, c)) (hs : s.size ≤ 25000) (w : World) (hL : Laid B0 w) :
    Calls Tryd.prog 9 #[.string s] w fun e w' => ∃ A1 c1 A2 c2, e = .returned (.tuple #[.agg #[.bool j.cl, .int .i64 j.p, .int .i64 j.st, .int .i64 j.so, .slice A1 j.l1.length c1, .slice A2 j.l2.length c2], .int .i64 n, .int .i64 c]) ∧
      (Kd.C (Kd.int .i64) w' A1 j.l1.length j.l1 ∧ j.l1.length ≤ c1 ∧ Kd.C (Kd.int .i64) w' A2 j.l2.length j.l2 ∧ j.l2.length ≤ c2) ∧ Below w.heap.size w w' :=
  (Read_any s hs w hL).mono (by
    rintro e w' ⟨v1, v2, rfl, h1, h2, hb⟩
    rw [h] at *
    obtain ⟨A1, c1, rfl, hl1, hc1⟩ := Kd.R_reads h1
    obtain ⟨A2, c2, rfl, hl2, hc2⟩ := Kd.R_reads h2
    exact ⟨A1, c1, A2, c2, rfl, ⟨hc1, hl1, hc2, hl2⟩, hb⟩)

/-- A job that has been put into a block of its own. -/
structure Put (w W : World) (g : Nat) (cs : Array Value) : Prop where
  at_ : W.heap[g]? = some (.cells cs 26 (0, 0))
  below : Below w.heap.size w W
  size : W.heap.size = g + 1
  g_ : g = w.heap.size
theorem put_of (w : World) (cs : Array Value) {W : World} (h : w.alloc (.cells cs 26) = W) : Put w W w.heap.size cs := by
  subst h
  exact ⟨World.alloc_heap_new w _, (Below.refl _ w).alloc (Nat.le_refl _) _, by show (w.heap.push _).size = _; rw [Array.size_push], rfl⟩
theorem six {W : World} {g t : Nat} {a b c d e f : Value} (h : W.heap[g]? = some (.cells #[a, b, c, d, e, f] t (0, 0))) :
    W.cell? ⟨g, 0, none⟩ = some a ∧ W.cell? ⟨g, 1, none⟩ = some b ∧ W.cell? ⟨g, 2, none⟩ = some c ∧ W.cell? ⟨g, 3, none⟩ = some d ∧ W.cell? ⟨g, 4, none⟩ = some e ∧ W.cell? ⟨g, 5, none⟩ = some f := by
  refine ⟨?_, ?_, ?_, ?_, ?_, ?_⟩ <;> simp [World.cell?, h]
theorem one_C (W : World) (g : Nat) (x : Int) (t : Nat) (h : W.heap[g]? = some (.cells #[.int .i64 x] t (0, 0))) : Kd.C (Kd.int .i64) W (some ⟨g, 0, none⟩) [x].length [x] := by
  refine Kd.C_of_reads (d := (0 : Int)) ⟨rfl, show 1 ≤ 9223372036854775807 by decide, fun _ => ⟨_, rfl, fun j hj => ?_⟩⟩
  rw [add_plain]
  have hj' : j < 1 := hj
  obtain rfl : j = 0 := by omega
  simp [World.cell?, h]

set_option maxRecDepth 100000 in
set_option maxHeartbeats 1000000 in
theorem awake_any (w : World) (hL : Laid B0 w) : Calls Tryd.prog 6 #[] w fun e w' => e = .returned (.bool true) ∧ Below w.heap.size w w' := by
  go_enter Tryd.func6, Tryd.ntmps6
  go_wp2_with fail
  refine (Read_at read_t1 (by decide) _ hL).mono ?_
  rintro e w1 ⟨A1, c1, A2, c2, rfl, h1, hb1⟩
  have H1 := Lib.hid h1
  have L1 := hL.below hb1
  clear h1
  have HB1 := Lib.hid hb1
  clear hb1
  go_wp2_with fail
  obtain ⟨Wa, hWa⟩ : ∃ W, w1.alloc (.cells #[.bool true, .int .i64 4, .int .i64 64, .int .i64 900, .slice A1 1 c1, .slice A2 0 c2] 26) = W := ⟨_, rfl⟩
  rw [hWa]
  have PA := put_of _ _ hWa
  have La := L1.below PA.below
  generalize w1.heap.size = g1 at *
  clear hWa
  refine (Read_at (j := (readT t2).1) (n := 2) (c := 6) (by rw [← read_t2]; rfl) (by decide) _ La).mono ?_
  generalize (readT t2).1 = j2
  rintro e w2 ⟨A3, c3, A4, c4, rfl, -, hb2⟩
  have L2 := La.below hb2
  have P2 : w2.heap[g1]? = _ := (hb2.block g1 (by have := PA.size; omega)).trans PA.at_
  have HB2 := Lib.hid hb2
  clear hb2
  have PB := put_of w2 #[.bool j2.cl, .int .i64 j2.p, .int .i64 j2.st, .int .i64 j2.so, .slice A3 j2.l1.length c3, .slice A4 j2.l2.length c4] rfl
  have Lb := L2.below PB.below
  have Q2 := (PB.below.block g1 (by have := PA.size; have := HB2.out.size; omega)).trans P2
  obtain ⟨k0, k1, k2, k3, k4, k5⟩ := six Q2
  have HPB := Lib.hid PB; clear PB Q2 P2
  go_wp2_with fail
  clear k0 k1 k2 k3 k4 k5
  have ha : w2.heap.size + 1 = (w2.alloc (.cells #[.bool j2.cl, .int .i64 j2.p, .int .i64 j2.st, .int .i64 j2.so, .slice A3 j2.l1.length c3, .slice A4 j2.l2.length c4] 26)).heap.size := by
    rw [HPB.out.size]
  generalize w2.alloc (.cells #[.bool j2.cl, .int .i64 j2.p, .int .i64 j2.st, .int .i64 j2.so, .slice A3 j2.l1.length c3, .slice A4 j2.l2.length c4] 26) = Wb at *
  have hB3 : Below Wb.heap.size Wb (Wb.alloc (.cells #[.int .i64 (-1)] 3)) := (Below.refl _ _).alloc (Nat.le_refl _) _
  have hC3 : Kd.C (Kd.int .i64) (Wb.alloc (.cells #[.int .i64 (-1)] 3)) (some ⟨w2.heap.size + 1, 0, none⟩) [(-1 : Int)].length [-1] := by
    rw [ha]; exact one_C _ _ _ _ (World.alloc_heap_new _ _)
  have L3 := Lb.below hB3
  have HB3 := Lib.hid hB3; clear hB3 ha
  refine (Text_any (B0 := B0) false 0 0 0 none (some ⟨w2.heap.size + 1, 0, none⟩) 0 1 [] [-1] _ (by unfold I64; decide) (by unfold I64; decide) (by unfold I64; decide) (by decide) (by decide) (Kd.C_nil _ _) hC3 L3).mono ?_
  rintro e w4 ⟨rfl, hb4⟩
  rw [t3_eq]
  have HB4 := Lib.hid hb4; clear hb4 hC3
  go_wp2_with fail
  go_ret
  refine ⟨congrArg (fun b => Ending.returned (.bool b)) (show (t3.toList == [117, 110, 99, 108, 97, 105, 109, 101, 100, 10, 108, 105, 109, 105, 116, 115, 32, 48, 32, 48, 32, 48, 10, 105, 110, 112, 117, 116, 10, 112, 105, 99, 107, 115, 32, 45, 49, 10]) = true by rw [toList_L]; rfl), ?_⟩
  exact (((HB1.out.trans (PA.below.mono HB1.out.size)).trans (HB2.out.mono (Nat.le_trans HB1.out.size PA.below.size))).trans (HPB.out.below.mono (by have := HB1.out.size; have := PA.below.size; have := HB2.out.size; omega))).trans ((HB3.out.mono (by have := HB1.out.size; have := PA.below.size; have := HB2.out.size; have := HPB.out.below.size; omega)).trans (HB4.out.mono (by have := HB1.out.size; have := PA.below.size; have := HB2.out.size; have := HPB.out.below.size; have := HB3.out.size; omega)))
end Go.Proofs.YtmjflpffafnkdaaDoor
