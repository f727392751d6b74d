/- ScriptReads, walked. Conditions: see each theorem. -/
import Derived.Test.YtmjflpffafnkdaaDoorX
namespace Go.Proofs.YtmjflpffafnkdaaDoor
open Go.RowKit
open Go.Proofs.YtmjflpffafnkdaaDoorW.PrintWords Go.Proofs.YtmjflpffafnkdaaDoorW.PrintLast Go.Proofs.YtmjflpffafnkdaaDoorW.PrintMore
open PScriptSpoilt
variable {B0 : Nat}

theorem WS {x : Int} (h0 : -9223372036854775808 ≤ x) (h1 : x ≤ 9223372036854775807) : wrap64 x = x := by unfold wrap64; omega
theorem ints_l0 (l : List Int) (hl : l.length < 100000) : ∀ (k i : Nat), i ≤ l.length → l.length < k + i → signalboxref1_Ints.l0 k l l (i : Int) = some true := by
  intro k
  induction k with
  | zero => intro i h1 h2; omega
  | succ k ih =>
    intro i h1 h2
    unfold signalboxref1_Ints.l0
    by_cases h : (i : Int) < (l.length : Int)
    · rw [if_pos h, if_pos (by omega), if_pos h, if_pos rfl, show wrap64 ((i : Int) + 1) = ((i + 1 : Nat) : Int) by rw [WS (by omega) (by omega)]; omega]
      exact ih (i + 1) (by omega) (by omega)
    · rw [if_neg h]
theorem ints_same (l : List Int) (hl : l.length < 100000) : signalboxref1_Ints.f 200000 l l = some true := by
  unfold signalboxref1_Ints.f
  rw [if_pos rfl]
  exact ints_l0 l hl 200000 0 (by omega) (by omega)
theorem jobs_same (cl : Bool) (p st so : Int) (l1 l2 : List Int) (h1 : l1.length < 100000) (h2 : l2.length < 100000) : signalboxref31_Jobs.f 200000 cl p st so l1 l2 cl p st so l1 l2 = some true := by
  unfold signalboxref31_Jobs.f
  simp [ints_same l1 h1, ints_same l2 h2]
theorem Jobs_any (j : Jb) (A1 A2 A3 A4 : Option Addr) (c1 c2 c3 c4 : Nat) (w : World) (h1 : j.l1.length < 100000) (h2 : j.l2.length < 100000)
    (r1 : Kd.C (Kd.int .i64) w A1 j.l1.length j.l1) (hc1 : j.l1.length ≤ c1) (r2 : Kd.C (Kd.int .i64) w A2 j.l2.length j.l2) (hc2 : j.l2.length ≤ c2)
    (r3 : Kd.C (Kd.int .i64) w A3 j.l1.length j.l1) (hc3 : j.l1.length ≤ c3) (r4 : Kd.C (Kd.int .i64) w A4 j.l2.length j.l2) (hc4 : j.l2.length ≤ c4) :
    Calls Tryd.prog 10 #[.agg #[.bool j.cl, .int .i64 j.p, .int .i64 j.st, .int .i64 j.so, .slice A1 j.l1.length c1, .slice A2 j.l2.length c2],
      .agg #[.bool j.cl, .int .i64 j.p, .int .i64 j.st, .int .i64 j.so, .slice A3 j.l1.length c3, .slice A4 j.l2.length c4]] w fun e w' => e = .returned (.bool true) ∧ Below w.heap.size w w' :=
  (signalboxref31_Jobs.calls 200000 _ _ _ _ A1 c1 _ A2 c2 _ _ _ _ _ A3 c3 _ A4 c4 _ true w r1 hc1 r2 hc2 r3 hc3 r4 hc4 (jobs_same _ _ _ _ _ _ h1 h2)).mono (by
    rintro e w' ⟨rfl, h⟩
    exact ⟨rfl, h⟩)

/-- Both readers' answers, over one world and the next. -/
theorem RefRead_at {s : ByteArray} {j : Jb} {n c : Int} (h : readT s = (j, n, c)) (hs : s.size ≤ 25000) (w : World) :
    Calls Tryd.prog 11 #[.string s] w fun e w' => ∃ A1 c1 A2 c2, e = .returned (.tuple #[.agg #[.bool j.cl, .int .i64 j.p, .int .i64 j.st, .int .i64 j.so, .slice A1 j.l1.length c1, .slice A2 j.l2.length c2], .int .i64 n, .int .i64 c]) ∧
      (Kd.C (Kd.int .i64) w' A1 j.l1.length j.l1 ∧ j.l1.length ≤ c1 ∧ Kd.C (Kd.int .i64) w' A2 j.l2.length j.l2 ∧ j.l2.length ≤ c2) ∧ Below w.heap.size w w' :=
  (RefRead_any s hs w).mono (by
    rintro e w' ⟨v1, v2, rfl, h1, h2, hb⟩
    rw [← read_ref s hs, h] at *
    obtain ⟨A1, c1, rfl, hl1, hc1⟩ := Kd.R_reads h1
    obtain ⟨A2, c2, rfl, hl2, hc2⟩ := Kd.R_reads h2
    exact ⟨A1, c1, A2, c2, rfl, ⟨hc1, hl1, hc2, hl2⟩, hb⟩)

/-- A job that has been read into a variable of its own, and its lists. -/
structure Got (W : World) (g : Nat) (j : Jb) (A1 A2 : Option Addr) (c1 c2 : Nat) : Prop where
  at_ : W.heap[g]? = some (.cells #[.bool j.cl, .int .i64 j.p, .int .i64 j.st, .int .i64 j.so, .slice A1 j.l1.length c1, .slice A2 j.l2.length c2] 26 (0, 0))
  r1 : Kd.C (Kd.int .i64) W A1 j.l1.length j.l1
  l1 : j.l1.length ≤ c1
  r2 : Kd.C (Kd.int .i64) W A2 j.l2.length j.l2
  l2 : j.l2.length ≤ c2
theorem Got.lt {W : World} {g : Nat} {j : Jb} {A1 A2 : Option Addr} {c1 c2 : Nat} (h : Got W g j A1 A2 c1 c2) : g < W.heap.size := by
  rcases Nat.lt_or_ge g W.heap.size with h' | h'
  · exact h'
  · have := h.at_; rw [Array.getElem?_eq_none h'] at this; simp at this
theorem Got.step {W W' : World} {g : Nat} {j : Jb} {A1 A2 : Option Addr} {c1 c2 : Nat} (h : Got W g j A1 A2 c1 c2) (hb : Below W.heap.size W W') : Got W' g j A1 A2 c1 c2 :=
  ⟨(hb.block g h.lt).trans h.at_, Kd.C_below h.r1 hb, h.l1, Kd.C_below h.r2 hb, h.l2⟩
theorem got_of {w : World} {j : Jb} {A1 A2 : Option Addr} {c1 c2 : Nat}
    (h : Kd.C (Kd.int .i64) w A1 j.l1.length j.l1 ∧ j.l1.length ≤ c1 ∧ Kd.C (Kd.int .i64) w A2 j.l2.length j.l2 ∧ j.l2.length ≤ c2) :
    Got (w.alloc (.cells #[.bool j.cl, .int .i64 j.p, .int .i64 j.st, .int .i64 j.so, .slice A1 j.l1.length c1, .slice A2 j.l2.length c2] 26)) w.heap.size j A1 A2 c1 c2 :=
  have P := put_of w #[.bool j.cl, .int .i64 j.p, .int .i64 j.st, .int .i64 j.so, .slice A1 j.l1.length c1, .slice A2 j.l2.length c2] rfl
  ⟨P.at_, Kd.C_below h.1 P.below, h.2.1, Kd.C_below h.2.2.1 P.below, h.2.2.2⟩
/-- Grown since a first world, and still laid. -/
structure Since (B0 N : Nat) (w W : World) : Prop where
  below : Below N w W
  laid : Laid B0 W
  le : N ≤ W.heap.size
theorem Since.step {N : Nat} {w W W' : World} (h : Since B0 N w W) (hb : Below W.heap.size W W') : Since B0 N w W' :=
  ⟨h.below.trans (hb.mono h.le), h.laid.below hb, Nat.le_trans h.le hb.size⟩
theorem alloc_below (w : World) (o : Obj) : Below w.heap.size w (w.alloc o) := (Below.refl _ w).alloc (Nat.le_refl _) _

set_option maxRecDepth 100000 in
set_option maxHeartbeats 1000000 in
theorem Reads_any (s : ByteArray) (w : World) (hL : Laid B0 w) : Calls Tryd.prog 4 #[.string s] w fun e w' => e = .returned (.bool true) ∧ Below w.heap.size w w' := by
  by_cases hs : (2000 : Int) < (s.size : Int)
  · go_enter Tryd.func4, Tryd.ntmps4
    go_wp2_with fail
    refine (awake_any _ hL).mono ?_
    rintro e w' ⟨rfl, hb⟩
    have HB := Lib.hid hb; clear hb
    go_wp2
    go_ret
    exact ⟨rfl, HB.out⟩
  obtain ⟨x, hx⟩ : ∃ x, readT s = x := ⟨_, rfl⟩
  obtain ⟨j, n, c⟩ := x
  have hj1 : j.l1.length < 100000 := by have := (JbLen.text s).1; rw [hx] at this; have h2 : j.l1.length ≤ s.size + 2 := this; omega
  have hj2 : j.l2.length < 100000 := by have := (JbLen.text s).2; rw [hx] at this; have h2 : j.l2.length ≤ s.size + 2 := this; omega
  have hsz : s.size ≤ 25000 := by omega
  have S0 : Since B0 w.heap.size w w := ⟨Below.refl _ _, hL, Nat.le_refl _⟩
  generalize w.heap.size = N at *
  have HJ1 := Lib.hid hj1; have HJ2 := Lib.hid hj2; clear hj1 hj2
  go_enter Tryd.func4, Tryd.ntmps4
  go_wp2_with fail
  refine (Read_at hx hsz _ S0.laid).mono ?_
  rintro e w1 ⟨A1, c1, A2, c2, rfl, h1, hb1⟩
  have S1 := S0.step hb1
  have G1 := got_of h1
  have S2 := S1.step (alloc_below w1 (.cells #[.bool j.cl, .int .i64 j.p, .int .i64 j.st, .int .i64 j.so, .slice A1 j.l1.length c1, .slice A2 j.l2.length c2] 26))
  clear h1 hb1
  go_wp2_with fail
  generalize w1.alloc _ = Wa at *
  generalize w1.heap.size = g1 at *
  refine (RefRead_at hx hsz _).mono ?_
  rintro e w2 ⟨A3, c3, A4, c4, rfl, h2, hb2⟩
  have S3 := S2.step hb2
  have G2 := got_of h2
  have hb3 := alloc_below w2 (.cells #[.bool j.cl, .int .i64 j.p, .int .i64 j.st, .int .i64 j.so, .slice A3 j.l1.length c3, .slice A4 j.l2.length c4] 26)
  have S4 := S3.step hb3
  have G3 := (G1.step hb2).step hb3
  clear h2 hb2 hb3 G1 S1 S2 S0
  obtain ⟨k0, k1, k2, k3, k4, k5⟩ := six G3.at_
  obtain ⟨m0, m1, m2, m3, m4, m5⟩ := six G2.at_
  have HG2 := Lib.hid G2; have HG3 := Lib.hid G3; have HS := Lib.hid S4
  clear G2 G3 S4 S3
  go_wp2_with fail
  clear k0 k1 k2 k3 k4 k5 m0 m1 m2 m3 m4 m5
  generalize w2.alloc _ = Wb at *
  generalize w2.heap.size = g2 at *
  refine (Jobs_any j A1 A2 A3 A4 c1 c2 c3 c4 Wb HJ1.out HJ2.out HG3.out.r1 HG3.out.l1 HG3.out.r2 HG3.out.l2 HG2.out.r1 HG2.out.l1 HG2.out.r2 HG2.out.l2).mono ?_
  rintro e w3 ⟨rfl, hb3⟩
  have S5 := HS.out.step hb3
  clear hb3
  have HS5 := Lib.hid S5
  have L5 := S5.laid
  clear S5
  go_wp2_with fail
  refine (awake_any _ L5).mono ?_
  rintro e w4 ⟨rfl, hb4⟩
  have S6 := Lib.hid (HS5.out.step hb4)
  clear hb4
  go_wp2_with fail
  go_ret
  exact ⟨rfl, S6.out.below⟩
end Go.Proofs.YtmjflpffafnkdaaDoor
