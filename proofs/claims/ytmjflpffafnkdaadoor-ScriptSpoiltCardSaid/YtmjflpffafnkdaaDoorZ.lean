/- ScriptTexts, walked. Conditions: see each theorem. -/
import Derived.Test.YtmjflpffafnkdaaDoorY
namespace Go.Proofs.YtmjflpffafnkdaaDoor
open Go.RowKit
open Go.Proofs.YtmjflpffafnkdaaDoorW.PrintWords Go.Proofs.YtmjflpffafnkdaaDoorW.PrintLast Go.Proofs.YtmjflpffafnkdaaDoorW.PrintMore
open PScriptSpoilt
variable {B0 : Nat}

theorem textB_size (cl : Bool) (p st so : Int) (l1 l2 : List Int) (h0 : I64 [p, st, so]) (h1 : I64 l1) (h2 : I64 l2) : (textB cl p st so l1 l2).size ≤ 200 + 22 * l1.length + 22 * l2.length := by
  have a := lineB_size (modeB cl) [] I64_nil
  have b := lineB_size limitsB [p, st, so] h0
  have c := lineB_size inputB l1 h1
  have d := lineB_size picksB l2 h2
  have e := modeB_size cl
  have e1 : limitsB.size = 6 := rfl
  have e2 : inputB.size = 5 := rfl
  have e3 : picksB.size = 5 := rfl
  simp only [List.length_cons, List.length_nil] at a b
  unfold textB
  simp only [ByteArray.size_append]
  omega
theorem ne_self (T : ByteArray) : (T.toList != T.toList) = false := by simp
theorem eq_self' (T : ByteArray) : (T.toList == T.toList) = true := by simp

set_option maxRecDepth 100000 in
set_option maxHeartbeats 1000000 in
theorem Texts_any (j : Jb) (A1 A2 : Option Addr) (c1 c2 : Nat) (w : World) (hok : JbOk j)
    (h : Kd.C (Kd.int .i64) w A1 j.l1.length j.l1 ∧ j.l1.length ≤ c1 ∧ Kd.C (Kd.int .i64) w A2 j.l2.length j.l2 ∧ j.l2.length ≤ c2) (hL : Laid B0 w) :
    Calls Tryd.prog 3 #[.agg #[.bool j.cl, .int .i64 j.p, .int .i64 j.st, .int .i64 j.so, .slice A1 j.l1.length c1, .slice A2 j.l2.length c2]] w fun e w' => e = .returned (.bool true) ∧ Below w.heap.size w w' := by
  have S0 : Since B0 w.heap.size w w := ⟨Below.refl _ _, hL, Nat.le_refl _⟩
  have S1 := S0.step (alloc_below w (.cells #[.bool j.cl, .int .i64 j.p, .int .i64 j.st, .int .i64 j.so, .slice A1 j.l1.length c1, .slice A2 j.l2.length c2] 26))
  have G1 := got_of h
  obtain ⟨k0, k1, k2, k3, k4, k5⟩ := six G1.at_
  clear S0 h
  have HS := Lib.hid S1; have HG := Lib.hid G1
  clear S1 G1
  by_cases hs1 : (500 : Int) < (j.l1.length : Int)
  · go_enter Tryd.func3, Tryd.ntmps3
    go_wp2_with fail
    refine (awake_any _ HS.out.laid).mono ?_
    rintro e w' ⟨rfl, hb⟩
    have HB := Lib.hid (HS.out.step hb); clear hb k0 k1 k2 k3 k4 k5
    go_wp2
    go_ret
    exact ⟨rfl, HB.out.below⟩
  by_cases hs2 : (500 : Int) < (j.l2.length : Int)
  · go_enter Tryd.func3, Tryd.ntmps3
    go_wp2_with fail
    refine (awake_any _ HS.out.laid).mono ?_
    rintro e w' ⟨rfl, hb⟩
    have HB := Lib.hid (HS.out.step hb); clear hb k0 k1 k2 k3 k4 k5
    go_wp2
    go_ret
    exact ⟨rfl, HB.out.below⟩
  have hl1 : j.l1.length ≤ 30000 := by omega
  have hl2 : j.l2.length ≤ 30000 := by omega
  have hT0 := textB_size j.cl j.p j.st j.so j.l1 j.l2 hok.1 hok.2.1 hok.2.2
  have hTs : (textB j.cl j.p j.st j.so j.l1 j.l2).size ≤ 25000 := by omega
  have hrd := read_text j.cl j.p j.st j.so j.l1 j.l2 hok.1 hok.2.1 hok.2.2
  have text7 := fun W hC1 hC2 hL => Text_any (B0 := B0) j.cl j.p j.st j.so A1 A2 c1 c2 j.l1 j.l2 W hok.1 hok.2.1 hok.2.2 hl1 hl2 hC1 hC2 hL
  have text8 := fun W hC1 hC2 hL => RefText_any (B0 := B0) j.cl j.p j.st j.so A1 A2 c1 c2 j.l1 j.l2 W hok.1 hok.2.1 hok.2.2 hl1 hl2 hC1 hC2 hL
  generalize textB j.cl j.p j.st j.so j.l1 j.l2 = T at *
  have hne := ne_self T
  have H7 := Lib.hid text7; have H8 := Lib.hid text8; have HT := Lib.hid hTs; have HR := Lib.hid hrd; have HO := Lib.hid (And.intro hl1 hl2)
  clear text7 text8 hTs hrd hT0 hl1 hl2
  go_enter Tryd.func3, Tryd.ntmps3
  go_wp2_with fail
  clear k0 k1 k2 k3 k4 k5
  generalize hN : w.heap.size = N at *
  generalize w.alloc _ = Wa at *
  refine (H7.out Wa HG.out.r1 HG.out.r2 HS.out.laid).mono ?_
  rintro e w1 ⟨rfl, hb⟩
  have HS1 := Lib.hid (HS.out.step hb); have HG1 := Lib.hid (HG.out.step hb)
  clear HS HG hb
  obtain ⟨k0, k1, k2, k3, k4, k5⟩ := six HG1.out.at_
  go_wp2_with fail
  clear k0 k1 k2 k3 k4 k5
  refine (H8.out w1 HG1.out.r1 HG1.out.r2 HS1.out.laid).mono ?_
  rintro e w2 ⟨rfl, hb⟩
  have HS2 := Lib.hid (HS1.out.step hb); have HG2 := Lib.hid (HG1.out.step hb)
  clear HS1 HG1 hb
  go_wp2_with fail
  refine (Read_at HR.out HT.out _ HS2.out.laid).mono ?_
  rintro e w3 ⟨A3, c3, A4, c4, rfl, h3, hb⟩
  have S3 := HS2.out.step hb
  have G3 := HG2.out.step hb
  have K := got_of h3
  have hb2 := alloc_below w3 (.cells #[.bool j.cl, .int .i64 j.p, .int .i64 j.st, .int .i64 j.so, .slice A3 j.l1.length c3, .slice A4 j.l2.length c4] 26)
  have S4 := Lib.hid (S3.step hb2); have G4 := Lib.hid (G3.step hb2)
  have HK := Lib.hid K
  clear hb hb2 h3 K S3 G3 HS2 HG2
  obtain ⟨k0, k1, k2, k3, k4, k5⟩ := six G4.out.at_
  obtain ⟨m0, m1, m2, m3, m4, m5⟩ := six HK.out.at_
  go_wp2_with fail
  clear k0 k1 k2 k3 k4 k5 m0 m1 m2 m3 m4 m5
  generalize w3.alloc _ = Wb at *
  generalize w3.heap.size = g2 at *
  refine (Jobs_any j A3 A4 A1 A2 c3 c4 c1 c2 Wb (by have := HO.out.1; omega) (by have := HO.out.2; omega) HK.out.r1 HK.out.l1 HK.out.r2 HK.out.l2 G4.out.r1 G4.out.l1 G4.out.r2 G4.out.l2).mono ?_
  rintro e w4 ⟨rfl, hb⟩
  have S5 := Lib.hid (S4.out.step hb)
  clear hb S4
  go_wp2_with fail
  refine (awake_any _ S5.out.laid).mono ?_
  rintro e w5 ⟨rfl, hb⟩
  have S6 := Lib.hid (S5.out.step hb)
  clear hb S5
  go_wp2_with fail
  go_ret
  exact ⟨rfl, by rw [hN]; exact S6.out.below⟩
end Go.Proofs.YtmjflpffafnkdaaDoor
