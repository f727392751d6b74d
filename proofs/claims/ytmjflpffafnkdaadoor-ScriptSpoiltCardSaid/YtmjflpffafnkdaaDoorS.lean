/- ScriptSpoilt, walked. Conditions: see each theorem. -/
import Derived.Test.YtmjflpffafnkdaaDoorZ
namespace Go.Proofs.YtmjflpffafnkdaaDoor
open Go.RowKit
open Go.Proofs.YtmjflpffafnkdaaDoorW.PrintWords Go.Proofs.YtmjflpffafnkdaaDoorW.PrintLast Go.Proofs.YtmjflpffafnkdaaDoorW.PrintMore
open PScriptSpoilt
variable {B0 : Nat}

theorem tmod_bd (n d : Int) (hd : 0 < d) : -d < Int.tmod n d ∧ Int.tmod n d < d := by
  have h1 := Int.tmod_lt_of_pos n hd
  refine ⟨?_, h1⟩
  have h2 := Int.tmod_lt_of_pos (-n) hd
  rw [Int.neg_tmod] at h2
  omega

set_option maxRecDepth 100000 in
set_option maxHeartbeats 8000000 in
theorem Spoilt_any (j : Jb) (A1 A2 : Option Addr) (c1 c2 : Nat) (n : Int) (t : ByteArray) (b : Bool) (w : World) (hok : JbOk j) (hn : -9223372036854775808 ≤ n ∧ n ≤ 9223372036854775807)
    (h : Kd.C (Kd.int .i64) w A1 j.l1.length j.l1 ∧ j.l1.length ≤ c1 ∧ Kd.C (Kd.int .i64) w A2 j.l2.length j.l2 ∧ j.l2.length ≤ c2) (hL : Laid B0 w) :
    Calls Tryd.prog 5 #[.agg #[.bool j.cl, .int .i64 j.p, .int .i64 j.st, .int .i64 j.so, .slice A1 j.l1.length c1, .slice A2 j.l2.length c2], .int .i64 n, .string t, .bool b] w fun e w' => e = .returned (.bool true) ∧ Below w.heap.size w w' := by
  have S0 : Since B0 w.heap.size w w := ⟨Below.refl _ _, hL, Nat.le_refl _⟩
  have S1 := S0.step (alloc_below w (.cells #[.bool j.cl, .int .i64 j.p, .int .i64 j.st, .int .i64 j.so, .slice A1 j.l1.length c1, .slice A2 j.l2.length c2] 26))
  have G1 := got_of h
  obtain ⟨k0, k1, k2, k3, k4, k5⟩ := six G1.at_
  clear S0 h
  have HS := Lib.hid S1; have HG := Lib.hid G1
  clear S1 G1
  by_cases hs1 : (50 : Int) < (j.l1.length : Int)
  · go_enter Tryd.func5, Tryd.ntmps5
    go_wp2_with fail
    refine (awake_any _ HS.out.laid).mono ?_
    rintro e w' ⟨rfl, hb⟩
    have HB := Lib.hid (HS.out.step hb); clear hb k0 k1 k2 k3 k4 k5
    go_wp2
    go_ret
    exact ⟨rfl, HB.out.below⟩
  by_cases hs2 : (50 : Int) < (j.l2.length : Int)
  · go_enter Tryd.func5, Tryd.ntmps5
    go_wp2_with fail
    refine (awake_any _ HS.out.laid).mono ?_
    rintro e w' ⟨rfl, hb⟩
    have HB := Lib.hid (HS.out.step hb); clear hb k0 k1 k2 k3 k4 k5
    go_wp2
    go_ret
    exact ⟨rfl, HB.out.below⟩
  by_cases hs3 : (50 : Int) < (t.size : Int)
  · go_enter Tryd.func5, Tryd.ntmps5
    go_wp2_with fail
    refine (awake_any _ HS.out.laid).mono ?_
    rintro e w' ⟨rfl, hb⟩
    have HB := Lib.hid (HS.out.step hb); clear hb k0 k1 k2 k3 k4 k5
    go_wp2
    go_ret
    exact ⟨rfl, HB.out.below⟩
  have hl1 : j.l1.length ≤ 30000 := by omega
  have hl2 : j.l2.length ≤ 30000 := by omega
  have hT0 := textB_size j.cl j.p j.st j.so j.l1 j.l2 hok.1 hok.2.1 hok.2.2
  have hTs : (textB j.cl j.p j.st j.so j.l1 j.l2).size ≤ 2400 := by omega
  have text8 := fun W hC1 hC2 hL => RefText_any (B0 := B0) j.cl j.p j.st j.so A1 A2 c1 c2 j.l1 j.l2 W hok.1 hok.2.1 hok.2.2 hl1 hl2 hC1 hC2 hL
  generalize textB j.cl j.p j.st j.so j.l1 j.l2 = T at *
  have H8 := Lib.hid text8; have HT := Lib.hid hTs
  clear text8 hT0 hl1 hl2 hok
  have hw1 : IntKind.i64.wrap ((T.size : Int) + 1) = (T.size : Int) + 1 := IntWalk.i64_in _ (by omega)
  obtain ⟨hr0, hr1⟩ := tmod_bd n ((T.size : Int) + 1) (by omega)
  have hw2 : IntKind.i64.wrap (Int.tmod n ((T.size : Int) + 1)) = Int.tmod n ((T.size : Int) + 1) := IntWalk.i64_in _ (by omega)
  generalize hr : Int.tmod n ((T.size : Int) + 1) = r at *
  go_enter Tryd.func5, Tryd.ntmps5
  go_wp2_with fail
  clear k0 k1 k2 k3 k4 k5
  generalize hN : w.heap.size = N at *
  generalize w.alloc _ = Wa at *
  refine (H8.out Wa HG.out.r1 HG.out.r2 HS.out.laid).mono ?_
  rintro e w1 ⟨rfl, hb⟩
  have HS1 := Lib.hid (HS.out.step hb)
  clear HS HG hb
  go_wp2_with fail
  all_goals
    first
    | (generalize hu : (_ ++ t ++ T.extract _ T.size : ByteArray) = u
       have hus : u.size ≤ 5000 := by
         rw [← hu]
         simp only [ByteArray.size_append, ByteArray.size_extract]
         omega)
    | (generalize hu : (_ ++ t : ByteArray) = u
       have hus : u.size ≤ 5000 := by
         rw [← hu]
         simp only [ByteArray.size_append, ByteArray.size_extract]
         omega)
    clear hu hr hr0 hr1 hw1 hw2 hs1 hs2 hs3 hTs HT hn hL H8
    obtain ⟨x, hx⟩ : ∃ x, readT u = x := ⟨_, rfl⟩
    obtain ⟨jr, nr, cr⟩ := x
    have hok := JbOk.text u
    have hlen := JbLen.text u
    have htx := text_read u
    rw [hx] at hok hlen htx
    have hq1 : jr.l1.length ≤ 30000 := Nat.le_trans hlen.1 (by omega)
    have hq2 : jr.l2.length ≤ 30000 := Nat.le_trans hlen.2 (by omega)
    have HU := Lib.hid (And.intro hx hus); have HJ := Lib.hid (And.intro hq1 hq2); have HO := Lib.hid hok; have HX := Lib.hid htx
    clear hx hus hq1 hq2 hok hlen htx
    have heq := eq_self' u
    refine (Read_at HU.out.1 (by have := HU.out.2; omega) _ HS1.out.laid).mono ?_
    rintro e w2 ⟨A3, c3, A4, c4, rfl, h2, hb⟩
    have S2 := HS1.out.step hb
    have K := got_of h2
    have S3 := Lib.hid (S2.step (alloc_below w2 (.cells #[.bool jr.cl, .int .i64 jr.p, .int .i64 jr.st, .int .i64 jr.so, .slice A3 jr.l1.length c3, .slice A4 jr.l2.length c4] 26)))
    have HK := Lib.hid K
    clear hb h2 K S2 HS1
    go_wp2_with fail
    generalize w2.alloc _ = Wb at *
    generalize w2.heap.size = g2 at *
    refine (RefRead_at HU.out.1 (by have := HU.out.2; omega) _).mono ?_
    rintro e w3 ⟨A5, c5, A6, c6, rfl, h3, hb⟩
    have S4 := S3.out.step hb
    have K2 := HK.out.step hb
    have K3 := got_of h3
    have hb2 := alloc_below w3 (.cells #[.bool jr.cl, .int .i64 jr.p, .int .i64 jr.st, .int .i64 jr.so, .slice A5 jr.l1.length c5, .slice A6 jr.l2.length c6] 26)
    have S5 := Lib.hid (S4.step hb2)
    have HK2 := Lib.hid (K2.step hb2); have HK3 := Lib.hid K3
    clear hb hb2 h3 S4 K2 K3 S3 HK
    obtain ⟨k0, k1, k2, k3, k4, k5⟩ := six HK2.out.at_
    obtain ⟨m0, m1, m2, m3, m4, m5⟩ := six HK3.out.at_
    by_cases hc : cr = 0
    · subst hc
      go_wp2_with fail
      generalize w3.alloc _ = Wc at *
      generalize w3.heap.size = g3 at *
      refine (Jobs_any jr A3 A4 A5 A6 c3 c4 c5 c6 Wc (by have := HJ.out.1; omega) (by have := HJ.out.2; omega) HK2.out.r1 HK2.out.l1 HK2.out.r2 HK2.out.l2 HK3.out.r1 HK3.out.l1 HK3.out.r2 HK3.out.l2).mono ?_
      rintro e w4 ⟨rfl, hb⟩
      have S6 := Lib.hid (S5.out.step hb)
      have K4 := Lib.hid (HK2.out.step hb)
      clear hb S5 HK2 HK3 k0 k1 k2 k3 k4 k5 m0 m1 m2 m3 m4 m5
      obtain ⟨k0, k1, k2, k3, k4, k5⟩ := six K4.out.at_
      go_wp2_with fail
      clear k0 k1 k2 k3 k4 k5
      refine (Text_any (B0 := B0) jr.cl jr.p jr.st jr.so A3 A4 c3 c4 jr.l1 jr.l2 w4 HO.out.1 HO.out.2.1 HO.out.2.2 HJ.out.1 HJ.out.2 K4.out.r1 K4.out.r2 S6.out.laid).mono ?_
      rintro e w5 ⟨rfl, hb⟩
      rw [show textB jr.cl jr.p jr.st jr.so jr.l1 jr.l2 = u from HX.out (by first | trivial | rfl)]
      have S7 := Lib.hid (S6.out.step hb)
      clear hb S6 K4
      go_wp2_with fail
      refine (awake_any _ S7.out.laid).mono ?_
      rintro e w6 ⟨rfl, hb⟩
      have S8 := Lib.hid (S7.out.step hb)
      clear hb S7
      go_wp2_with fail
      go_ret
      exact ⟨rfl, by rw [hN]; exact S8.out.below⟩
    · go_wp2_with fail
      generalize w3.alloc _ = Wc at *
      generalize w3.heap.size = g3 at *
      refine (Jobs_any jr A3 A4 A5 A6 c3 c4 c5 c6 Wc (by have := HJ.out.1; omega) (by have := HJ.out.2; omega) HK2.out.r1 HK2.out.l1 HK2.out.r2 HK2.out.l2 HK3.out.r1 HK3.out.l1 HK3.out.r2 HK3.out.l2).mono ?_
      rintro e w4 ⟨rfl, hb⟩
      have S6 := Lib.hid (S5.out.step hb)
      clear hb S5 HK2 HK3 k0 k1 k2 k3 k4 k5 m0 m1 m2 m3 m4 m5
      go_wp2_with fail
      refine (awake_any _ S6.out.laid).mono ?_
      rintro e w6 ⟨rfl, hb⟩
      have S8 := Lib.hid (S6.out.step hb)
      clear hb S6
      go_wp2_with fail
      go_ret
      exact ⟨rfl, by rw [hN]; exact S8.out.below⟩
end Go.Proofs.YtmjflpffafnkdaaDoor
