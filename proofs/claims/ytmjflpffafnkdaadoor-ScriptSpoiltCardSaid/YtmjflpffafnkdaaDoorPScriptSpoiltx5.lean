-- PRINTED BY print.sh 35421559b90ae4d0a3588c463048766b98c2df88dd9212a6774a882060cdf62d: not written by this session
import Derived.Test.YtmjflpffafnkdaaDoorPScriptSpoiltx0
import Derived.Test.YtmjflpffafnkdaaDoorPScriptSpoiltx4
namespace Go.Proofs.YtmjflpffafnkdaaDoor.PScriptSpoilt
open Go.RowKit Go.Proofs.YtmjflpffafnkdaaDoorW.PrintWords Go.Proofs.YtmjflpffafnkdaaDoorW.PrintLast Go.Proofs.YtmjflpffafnkdaaDoorW.PrintMore
attribute [local go_sem] max2_int min2_int max_two min_two max_three min_three max_four min_four   -- for this text's walks alone
set_option linter.unusedVariables false
set_option linter.unusedSimpArgs false

/-! ### signalboxref1_Num: function 24 -/
mutual
def signalboxref1_Num.j0 : Nat → ByteArray → ByteArray → Bool → Option (Int × Bool)
  | 0, _, _, _ => none
  | k + 1, x0, x4, x16 => if x16 = true then (if 1 ≤ (x0.size : Int) then (signalboxref1_Num.j1 k x0 (x0.extract 1 x0.size)) else (none)) else (signalboxref1_Num.j1 k x0 x4)
def signalboxref1_Num.j1 : Nat → ByteArray → ByteArray → Option (Int × Bool)
  | 0, _, _ => none
  | k + 1, x0, x4 => if (x4.size : Int) = 0 then (signalboxref1_Num.j2 k x0 x4 true) else (if (x4.size : Int) > 19 then (signalboxref1_Num.j2 k x0 x4 true) else (if 0 < (x4.size : Int) then (if (bt x4 0) = 48 then (signalboxref1_Num.j2 k x0 x4 (x0.toList != ([48] : List UInt8))) else (signalboxref1_Num.j2 k x0 x4 false)) else (none)))
def signalboxref1_Num.j2 : Nat → ByteArray → ByteArray → Bool → Option (Int × Bool)
  | 0, _, _, _ => none
  | k + 1, x0, x4, x35 => if x35 = true then (some (0, false)) else (signalboxref1_Num.l0 k x0 x4 0 0)
def signalboxref1_Num.l0 : Nat → ByteArray → ByteArray → Int → Int → Option (Int × Bool)
  | 0, _, _, _, _ => none
  | k + 1, x0, x4, x5, x6 => if x6 < (x4.size : Int) then (if 0 ≤ x6 then (if (wrap64 ((wrap64 (bt x4 x6)) - 48)) < 0 then (some (0, false)) else (if (wrap64 ((wrap64 (bt x4 x6)) - 48)) > 9 then (some (0, false)) else (if x5 < (wrap64 (Int.tdiv (wrap64 ((-9223372036854775808) + (wrap64 ((wrap64 (bt x4 x6)) - 48)))) 10)) then (some (0, false)) else (signalboxref1_Num.l0 k x0 x4 (wrap64 ((wrap64 (10 * x5)) - (wrap64 ((wrap64 (bt x4 x6)) - 48)))) (wrap64 (x6 + 1)))))) else (none)) else (if (x4.size : Int) < (x0.size : Int) then (some (x5, true)) else (if x5 = (-9223372036854775808) then (some (0, false)) else (some (wrap64 (-x5), true))))
end
def signalboxref1_Num.f (k : Nat) (a0 : ByteArray) : Option (Int × Bool) := if (a0.size : Int) > 0 then (if 0 < (a0.size : Int) then (signalboxref1_Num.j0 k a0 a0 ((bt a0 0) == 45)) else (none)) else (signalboxref1_Num.j0 k a0 a0 false)
theorem signalboxref1_Num.mono_l : ∀ k, (∀ y0 y1 y2, LeO (signalboxref1_Num.j0 k y0 y1 y2) (signalboxref1_Num.j0 (k + 1) y0 y1 y2)) ∧ (∀ y0 y1, LeO (signalboxref1_Num.j1 k y0 y1) (signalboxref1_Num.j1 (k + 1) y0 y1)) ∧ (∀ y0 y1 y2, LeO (signalboxref1_Num.j2 k y0 y1 y2) (signalboxref1_Num.j2 (k + 1) y0 y1 y2)) ∧ (∀ y0 y1 y2 y3, LeO (signalboxref1_Num.l0 k y0 y1 y2 y3) (signalboxref1_Num.l0 (k + 1) y0 y1 y2 y3))
  | 0 => ⟨fun _ _ _ r h => by simp [signalboxref1_Num.j0] at h, fun _ _ r h => by simp [signalboxref1_Num.j1] at h, fun _ _ _ r h => by simp [signalboxref1_Num.j2] at h, fun _ _ _ _ r h => by simp [signalboxref1_Num.l0] at h⟩
  | k + 1 => by
    obtain ⟨ih0, ih1, ih2, ih3⟩ := signalboxref1_Num.mono_l k
    refine ⟨?_, ?_, ?_, ?_⟩
    · intro y0 y1 y2
      unfold signalboxref1_Num.j0
      repeat' first
      | (with_reducible exact ih0 _ _ _)
      | (with_reducible exact ih1 _ _)
      | (with_reducible exact ih2 _ _ _)
      | (with_reducible exact ih3 _ _ _ _)
      | (with_reducible exact LeO.refl _)
      | (with_reducible exact LeO.none _)
      | (with_reducible refine LeO.ite ?_ ?_)
      | (with_reducible refine LeO.bind ?_ (fun _ => ?_))
      | exact ih0 _ _ _
      | exact ih1 _ _
      | exact ih2 _ _ _
      | exact ih3 _ _ _ _
      | exact LeO.none _
      | refine LeO.ite ?_ ?_
      | refine LeO.bind ?_ (fun _ => ?_)
    · intro y0 y1
      unfold signalboxref1_Num.j1
      repeat' first
      | (with_reducible exact ih0 _ _ _)
      | (with_reducible exact ih1 _ _)
      | (with_reducible exact ih2 _ _ _)
      | (with_reducible exact ih3 _ _ _ _)
      | (with_reducible exact LeO.refl _)
      | (with_reducible exact LeO.none _)
      | (with_reducible refine LeO.ite ?_ ?_)
      | (with_reducible refine LeO.bind ?_ (fun _ => ?_))
      | exact ih0 _ _ _
      | exact ih1 _ _
      | exact ih2 _ _ _
      | exact ih3 _ _ _ _
      | exact LeO.none _
      | refine LeO.ite ?_ ?_
      | refine LeO.bind ?_ (fun _ => ?_)
    · intro y0 y1 y2
      unfold signalboxref1_Num.j2
      repeat' first
      | (with_reducible exact ih0 _ _ _)
      | (with_reducible exact ih1 _ _)
      | (with_reducible exact ih2 _ _ _)
      | (with_reducible exact ih3 _ _ _ _)
      | (with_reducible exact LeO.refl _)
      | (with_reducible exact LeO.none _)
      | (with_reducible refine LeO.ite ?_ ?_)
      | (with_reducible refine LeO.bind ?_ (fun _ => ?_))
      | exact ih0 _ _ _
      | exact ih1 _ _
      | exact ih2 _ _ _
      | exact ih3 _ _ _ _
      | exact LeO.none _
      | refine LeO.ite ?_ ?_
      | refine LeO.bind ?_ (fun _ => ?_)
    · intro y0 y1 y2 y3
      unfold signalboxref1_Num.l0
      repeat' first
      | (with_reducible exact ih0 _ _ _)
      | (with_reducible exact ih1 _ _)
      | (with_reducible exact ih2 _ _ _)
      | (with_reducible exact ih3 _ _ _ _)
      | (with_reducible exact LeO.refl _)
      | (with_reducible exact LeO.none _)
      | (with_reducible refine LeO.ite ?_ ?_)
      | (with_reducible refine LeO.bind ?_ (fun _ => ?_))
      | exact ih0 _ _ _
      | exact ih1 _ _
      | exact ih2 _ _ _
      | exact ih3 _ _ _ _
      | exact LeO.none _
      | refine LeO.ite ?_ ?_
      | refine LeO.bind ?_ (fun _ => ?_)
theorem signalboxref1_Num.mono : ∀ a0 k, LeO (signalboxref1_Num.f k a0) (signalboxref1_Num.f (k + 1) a0) := by
  intro a0 k
  obtain ⟨ih0, ih1, ih2, ih3⟩ := signalboxref1_Num.mono_l k
  unfold signalboxref1_Num.f
  repeat' first
      | (with_reducible exact ih0 _ _ _)
      | (with_reducible exact ih1 _ _)
      | (with_reducible exact ih2 _ _ _)
      | (with_reducible exact ih3 _ _ _ _)
      | (with_reducible exact LeO.refl _)
      | (with_reducible exact LeO.none _)
      | (with_reducible refine LeO.ite ?_ ?_)
      | (with_reducible refine LeO.bind ?_ (fun _ => ?_))
      | exact ih0 _ _ _
      | exact ih1 _ _
      | exact ih2 _ _ _
      | exact ih3 _ _ _ _
      | exact LeO.none _
      | refine LeO.ite ?_ ?_
      | refine LeO.bind ?_ (fun _ => ?_)
set_option maxHeartbeats 8000000 in
set_option maxRecDepth 100000 in
theorem signalboxref1_Num.calls (k : Nat) (a0 : ByteArray) (r1 : Int) (r2 : Bool) (w : World) (h : signalboxref1_Num.f k a0 = some (r1, r2)) :
    Calls Tryd.prog 24 #[.string a0] w fun e w' => e = .returned (.tuple #[.int .i64 r1, .bool r2]) ∧ Drawn0 w w' := by
  have H : (if (a0.size : Int) > 0 then (if 0 < (a0.size : Int) then (signalboxref1_Num.j0 k a0 a0 ((bt a0 0) == 45)) else (none)) else (signalboxref1_Num.j0 k a0 a0 false)) = some (r1, r2) := h
  clear h
  have HC2 := Aside0.mk H
  clear H
  go_enter Tryd.func24, Tryd.ntmps24
  go_upto_region 2 with (fail)
  go_cut [16] (fun v16 wc => ∃ (kq : Nat) (x16_1 : Bool), v16 = .bool x16_1 ∧ Aside0 (signalboxref1_Num.j0 kq a0 a0 x16_1 = some (r1, r2)) ∧ Aside0 (kq ≤ k) ∧ Drawn0 w wc)
  case first =>
    have H := HC2.out
    clear HC2
    by_cases c3 : (a0.size : Int) > 0
    · rw [if_pos c3] at H
      have c3b0 : decide (0 < (a0.size : Int)) = true := decide_eq_true c3
      have c3b1 : decide (0 < a0.size) = true := decide_eq_true (by omega)
      clear c3
      (first | rw [c3b0] | (simp only [i64_w, i32_w]; rw [c3b0]) | skip)
      by_cases c4 : 0 < (a0.size : Int)
      · rw [if_pos c4] at H
        have c4b0 : decide (0 < (a0.size : Int)) = true := decide_eq_true c4
        have c4b1 : decide (0 < a0.size) = true := decide_eq_true (by omega)
        clear c4
        have H' := Aside0.mk H
        clear H
        have p5 : 0 ≤ (0 : Int) := (by omega)
        have q5 : 0 < a0.size := (by have : (0 : Int) < (a0.size : Int) := of_decide_eq_true (by first | (with_reducible assumption) | assumption); omega)
        have hx5 : ∀ h : 0 < a0.size, ((a0[0]'h).toNat : Int) = bt a0 0 := bt_at a0 0
        clear p5
        have qi5 : (0 < (a0.size : Int)) = True := eq_true (of_decide_eq_true (by first | (with_reducible assumption) | assumption))
        replace q5 := eq_true q5
        go_wp2
        go_meet
        case rel => exact ⟨_, (((bt a0 0) == 45)), (by first | rfl | (simp; done) | (simp [*]; done)), H', ⟨by first | omega | exact Nat.le_refl _⟩, by repeat (first | exact Drawn0.refl _ | apply Drawn0.step)⟩
      · rw [if_neg c4] at H
        exact absurd H (by simp)
    · rw [if_neg c3] at H
      have c3b0 : decide (0 < (a0.size : Int)) = false := decide_eq_false c3
      have c3b1 : decide (0 < a0.size) = false := decide_eq_false (by omega)
      clear c3
      (first | rw [c3b0] | (simp only [i64_w, i32_w]; rw [c3b0]) | skip)
      have H' := Aside0.mk H
      clear H
      go_wp2
      go_meet
      case rel => exact ⟨_, (false), (by first | rfl | (simp; done) | (simp [*]; done)), H', ⟨by first | omega | exact Nat.le_refl _⟩, by repeat (first | exact Drawn0.refl _ | apply Drawn0.step)⟩
  case rest =>
    clear HC2
    try clear c2
    try clear p2
    try clear c3
    try clear c3b0
    try clear c3b1
    try clear c4
    try clear c4b0
    try clear c4b1
    try clear p5
    try clear q5
    try clear hx5
    try clear qi5
    try clear p5
    try clear q5
    obtain ⟨kq, x16_1, rfl, HA, HJ1, ⟨mc1, rfl⟩⟩ := hcut
    cases kq with
    | zero => exact absurd HA.out (by simp [signalboxref1_Num.j0])
    | succ kj1 =>
      have H := HA.out
      clear HA
      simp only [signalboxref1_Num.j0] at H
      have HC6 := Aside0.mk H
      clear H
      go_upto_if 16 with (fail)
      go_cut [4] (fun v4 wc => ∃ (kq : Nat) (x4_5 : ByteArray), v4 = .string x4_5 ∧ Aside0 (signalboxref1_Num.j1 kq a0 x4_5 = some (r1, r2)) ∧ Aside0 (kq ≤ kj1) ∧ Drawn0 w wc)
      case first =>
        have H := HC6.out
        clear HC6
        by_cases c7 : x16_1 = true
        · subst c7
          have H1 : (if 1 ≤ (a0.size : Int) then (signalboxref1_Num.j1 kj1 a0 (a0.extract 1 a0.size)) else (none)) = some (r1, r2) := by rw [if_pos rfl] at H; exact H
          clear H
          have H := H1
          clear H1
          by_cases c8 : 1 ≤ (a0.size : Int)
          · rw [if_pos c8] at H
            have c8b0 := eq_true c8
            have c8b1 : decide (1 ≤ (a0.size : Int)) = true := decide_eq_true c8
            clear c8
            have H' := Aside0.mk H
            clear H
            go_wp2
            go_meet
            case rel => exact ⟨_, (a0.extract 1 a0.size), (by first | rfl | (simp; done) | (simp [*]; done)), H', ⟨by have := HJ1.out; first | omega | exact Nat.le_refl _⟩, by repeat (first | exact Drawn0.refl _ | apply Drawn0.step)⟩
          · rw [if_neg c8] at H
            exact absurd H (by simp)
        · replace c7 := Bool.eq_false_iff.mpr c7
          subst c7
          have H1 : (signalboxref1_Num.j1 kj1 a0 a0) = some (r1, r2) := by rw [if_neg (show ¬ (false = true) by decide)] at H; exact H
          clear H
          have H := H1
          clear H1
          have H' := Aside0.mk H
          clear H
          go_wp2
          go_meet
          case rel => exact ⟨_, (a0), (by first | rfl | (simp; done) | (simp [*]; done)), H', ⟨by have := HJ1.out; first | omega | exact Nat.le_refl _⟩, by repeat (first | exact Drawn0.refl _ | apply Drawn0.step)⟩
      case rest =>
        clear HC6
        try clear c1
        try clear c2
        try clear p2
        try clear c3
        try clear c3b0
        try clear c3b1
        try clear c4
        try clear c4b0
        try clear c4b1
        try clear p5
        try clear q5
        try clear hx5
        try clear qi5
        try clear c7
        try clear c8
        try clear c8b0
        try clear c8b1
        try clear p2
        try clear p5
        try clear q5
        obtain ⟨kq, x4_5, rfl, HA, HJ5, ⟨mc5, rfl⟩⟩ := hcut
        cases kq with
        | zero => exact absurd HA.out (by simp [signalboxref1_Num.j1])
        | succ kj5 =>
          have H := HA.out
          clear HA
          simp only [signalboxref1_Num.j1] at H
          have HC9 := Aside0.mk H
          clear H
          go_upto_region 4 with (fail)
          go_cut [35] (fun v35 wc => ∃ (kq : Nat) (x35_8 : Bool), v35 = .bool x35_8 ∧ Aside0 (signalboxref1_Num.j2 kq a0 x4_5 x35_8 = some (r1, r2)) ∧ Aside0 (kq ≤ kj5) ∧ Drawn0 w wc)
          case first =>
            have H := HC9.out
            clear HC9
            by_cases c10 : (x4_5.size : Int) = 0
            · rw [if_pos c10] at H
              have c10b0 : ((x4_5.size : Int) == 0) = true := beq_iff_eq.mpr c10
              have c10b1 : ((x4_5.size : Int) != 0) = false := bne_eq_false_iff_eq.mpr c10
              clear c10
              (first | rw [c10b0] | (simp only [i64_w, i32_w]; rw [c10b0]) | skip)
              have H' := Aside0.mk H
              clear H
              go_wp2
              go_meet
              case rel => exact ⟨_, (true), (by first | rfl | (simp; done) | (simp [*]; done)), H', ⟨by have := HJ1.out; have := HJ5.out; first | omega | exact Nat.le_refl _⟩, by repeat (first | exact Drawn0.refl _ | apply Drawn0.step)⟩
            · rw [if_neg c10] at H
              have c10b0 : ((x4_5.size : Int) == 0) = false := beq_eq_false_iff_ne.mpr c10
              have c10b1 : ((x4_5.size : Int) != 0) = true := bne_iff_ne.mpr c10
              (first | rw [c10b0] | (simp only [i64_w, i32_w]; rw [c10b0]) | skip)
              by_cases c11 : (x4_5.size : Int) > 19
              · rw [if_pos c11] at H
                have c11b0 : decide (19 < (x4_5.size : Int)) = true := decide_eq_true c11
                have c11b1 : decide (19 < x4_5.size) = true := decide_eq_true (by omega)
                clear c11
                have H' := Aside0.mk H
                clear H
                go_wp2
                go_meet
                case rel => exact ⟨_, (true), (by first | rfl | (simp; done) | (simp [*]; done)), H', ⟨by have := HJ1.out; have := HJ5.out; first | omega | exact Nat.le_refl _⟩, by repeat (first | exact Drawn0.refl _ | apply Drawn0.step)⟩
              · rw [if_neg c11] at H
                have c11b0 : decide (19 < (x4_5.size : Int)) = false := decide_eq_false c11
                have c11b1 : decide (19 < x4_5.size) = false := decide_eq_false (by omega)
                clear c11
                by_cases c12 : 0 < (x4_5.size : Int)
                · rw [if_pos c12] at H
                  have c12b0 : decide (0 < (x4_5.size : Int)) = true := decide_eq_true c12
                  have c12b1 : decide (0 < x4_5.size) = true := decide_eq_true (by omega)
                  clear c12
                  by_cases c14 : (bt x4_5 0) = 48
                  · rw [if_pos c14] at H
                    have c14b0 : ((bt x4_5 0) == 48) = true := beq_iff_eq.mpr c14
                    have c14b1 : ((bt x4_5 0) != 48) = false := bne_eq_false_iff_eq.mpr c14
                    clear c14
                    have H' := Aside0.mk H
                    clear H
                    have p13 : 0 ≤ (0 : Int) := (by omega)
                    have q13 : 0 < x4_5.size := (by have : (0 : Int) < (x4_5.size : Int) := of_decide_eq_true (by first | (with_reducible assumption) | assumption); omega)
                    have hx13 : ∀ h : 0 < x4_5.size, ((x4_5[0]'h).toNat : Int) = bt x4_5 0 := bt_at x4_5 0
                    clear p13
                    have qi13 : (0 < (x4_5.size : Int)) = True := eq_true (of_decide_eq_true (by first | (with_reducible assumption) | assumption))
                    replace q13 := eq_true q13
                    go_wp2
                    go_meet
                    case rel => exact ⟨_, ((a0.toList != ([48] : List UInt8))), (by first | rfl | (simp; done) | (simp [*]; done)), H', ⟨by have := HJ1.out; have := HJ5.out; first | omega | exact Nat.le_refl _⟩, by repeat (first | exact Drawn0.refl _ | apply Drawn0.step)⟩
                  · rw [if_neg c14] at H
                    have c14b0 : ((bt x4_5 0) == 48) = false := beq_eq_false_iff_ne.mpr c14
                    have c14b1 : ((bt x4_5 0) != 48) = true := bne_iff_ne.mpr c14
                    have H' := Aside0.mk H
                    clear H
                    have p13 : 0 ≤ (0 : Int) := (by omega)
                    have q13 : 0 < x4_5.size := (by have : (0 : Int) < (x4_5.size : Int) := of_decide_eq_true (by first | (with_reducible assumption) | assumption); omega)
                    have hx13 : ∀ h : 0 < x4_5.size, ((x4_5[0]'h).toNat : Int) = bt x4_5 0 := bt_at x4_5 0
                    clear p13
                    have qi13 : (0 < (x4_5.size : Int)) = True := eq_true (of_decide_eq_true (by first | (with_reducible assumption) | assumption))
                    replace q13 := eq_true q13
                    go_wp2
                    go_meet
                    case rel => exact ⟨_, (false), (by first | rfl | (simp; done) | (simp [*]; done)), H', ⟨by have := HJ1.out; have := HJ5.out; first | omega | exact Nat.le_refl _⟩, by repeat (first | exact Drawn0.refl _ | apply Drawn0.step)⟩
                · rw [if_neg c12] at H
                  exact absurd H (by simp)
          case rest =>
            clear HC9
            try clear c1
            try clear p1
            try clear q1
            try clear hx1
            try clear qi1
            try clear c2
            try clear p2
            try clear c3
            try clear c3b0
            try clear c3b1
            try clear c4
            try clear c4b0
            try clear c4b1
            try clear c5
            try clear p5
            try clear q5
            try clear hx5
            try clear qi5
            try clear c7
            try clear c8
            try clear c8b0
            try clear c8b1
            try clear c10
            try clear c10b0
            try clear c10b1
            try clear c11
            try clear c11b0
            try clear c11b1
            try clear c12
            try clear c12b0
            try clear c12b1
            try clear p13
            try clear q13
            try clear hx13
            try clear qi13
            try clear c14
            try clear c14b0
            try clear c14b1
            try clear p13
            try clear p2
            try clear p5
            try clear q13
            try clear q5
            obtain ⟨kq, x35_8, rfl, HA, HJ8, ⟨mc8, rfl⟩⟩ := hcut
            cases kq with
            | zero => exact absurd HA.out (by simp [signalboxref1_Num.j2])
            | succ kj8 =>
              have H := HA.out
              clear HA
              simp only [signalboxref1_Num.j2] at H
              by_cases c15 : x35_8 = true
              · subst c15
                have H1 : (some (0, false)) = some (r1, r2) := by rw [if_pos rfl] at H; exact H
                clear H
                have H := H1
                clear H1
                simp only [Option.some.injEq, Prod.mk.injEq] at H
                obtain ⟨rfl, rfl⟩ := H
                go_wp2
                go_ret2
                exact ⟨by first | rfl | (simp; done) | (simp [*]; done), by repeat (first | exact Drawn0.refl _ | apply Drawn0.step)⟩
              · replace c15 := Bool.eq_false_iff.mpr c15
                subst c15
                have H1 : (signalboxref1_Num.l0 kj8 a0 x4_5 0 0) = some (r1, r2) := by rw [if_neg (show ¬ (false = true) by decide)] at H; exact H
                clear H
                have H := H1
                clear H1
                have H' := Aside0.mk H
                clear H
                go_wp2
                go_loopg [5, 6] kj8 (fun kq v5 v6 w' => ∃ (x5_4 : Int) (x6_4 : Int), v5 = .int .i64 x5_4 ∧ v6 = .int .i64 x6_4 ∧ Aside0 (signalboxref1_Num.l0 kq a0 x4_5 x5_4 x6_4 = some (r1, r2)) ∧ Aside0 (kq ≤ kj8) ∧ Drawn0 w w')
                case atStart => exact ⟨(0), (0), (by first | rfl | (simp; done) | (simp [*]; done)), (by first | rfl | (simp; done) | (simp [*]; done)), H', ⟨Nat.le_refl _⟩, by repeat (first | exact Drawn0.refl _ | apply Drawn0.step)⟩
                case round =>
                  clear H'
                  try clear c1
                  try clear p1
                  try clear q1
                  try clear hx1
                  try clear qi1
                  try clear c2
                  try clear p2
                  try clear c3
                  try clear c3b0
                  try clear c3b1
                  try clear c4
                  try clear c4b0
                  try clear c4b1
                  try clear c5
                  try clear p5
                  try clear q5
                  try clear hx5
                  try clear qi5
                  try clear c7
                  try clear c8
                  try clear c8b0
                  try clear c8b1
                  try clear c10
                  try clear c10b0
                  try clear c10b1
                  try clear c11
                  try clear c11b0
                  try clear c11b1
                  try clear c12
                  try clear c12b0
                  try clear c12b1
                  try clear p13
                  try clear q13
                  try clear hx13
                  try clear qi13
                  try clear c14
                  try clear c14b0
                  try clear c14b1
                  try clear c15
                  try clear p1
                  try clear p13
                  try clear p2
                  try clear p5
                  try clear q1
                  try clear q13
                  try clear q5
                  obtain ⟨x5_4, x6_4, rfl, rfl, HA, HK4, ⟨m4, rfl⟩⟩ := hrel
                  cases gk with
                  | zero => exact absurd HA.out (by simp [signalboxref1_Num.l0])
                  | succ k4 =>
                    have H := HA.out
                    clear HA
                    simp only [signalboxref1_Num.l0] at H
                    by_cases c16 : x6_4 < (x4_5.size : Int)
                    · rw [if_pos c16] at H
                      have c16b0 : decide (x6_4 < (x4_5.size : Int)) = true := decide_eq_true c16
                      clear c16
                      by_cases c17 : 0 ≤ x6_4
                      · rw [if_pos c17] at H
                        have c17b0 : decide (0 ≤ x6_4) = true := decide_eq_true c17
                        clear c17
                        by_cases c19 : (wrap64 ((wrap64 (bt x4_5 x6_4)) - 48)) < 0
                        · rw [if_pos c19] at H
                          have c19b0 : decide ((wrap64 ((wrap64 (bt x4_5 x6_4)) - 48)) < 0) = true := decide_eq_true c19
                          clear c19
                          simp only [Option.some.injEq, Prod.mk.injEq] at H
                          obtain ⟨rfl, rfl⟩ := H
                          have p18 : 0 ≤ (x6_4 : Int) := of_decide_eq_true (by first | (with_reducible assumption) | assumption)
                          have q18 : x6_4 < (x4_5.size : Int) := of_decide_eq_true (by first | (with_reducible assumption) | assumption)
                          have hx18 := bt_at x4_5 x6_4
                          replace p18 := eq_true p18
                          replace q18 := eq_true q18
                          go_wp2
                          go_ret2
                          exact ⟨by first | rfl | (simp; done) | (simp [*]; done), by repeat (first | exact Drawn0.refl _ | apply Drawn0.step)⟩
                        · rw [if_neg c19] at H
                          have c19b0 : decide ((wrap64 ((wrap64 (bt x4_5 x6_4)) - 48)) < 0) = false := decide_eq_false c19
                          clear c19
                          by_cases c20 : (wrap64 ((wrap64 (bt x4_5 x6_4)) - 48)) > 9
                          · rw [if_pos c20] at H
                            have c20b0 : decide (9 < (wrap64 ((wrap64 (bt x4_5 x6_4)) - 48))) = true := decide_eq_true c20
                            clear c20
                            simp only [Option.some.injEq, Prod.mk.injEq] at H
                            obtain ⟨rfl, rfl⟩ := H
                            have p18 : 0 ≤ (x6_4 : Int) := of_decide_eq_true (by first | (with_reducible assumption) | assumption)
                            have q18 : x6_4 < (x4_5.size : Int) := of_decide_eq_true (by first | (with_reducible assumption) | assumption)
                            have hx18 := bt_at x4_5 x6_4
                            replace p18 := eq_true p18
                            replace q18 := eq_true q18
                            go_wp2
                            go_ret2
                            exact ⟨by first | rfl | (simp; done) | (simp [*]; done), by repeat (first | exact Drawn0.refl _ | apply Drawn0.step)⟩
                          · rw [if_neg c20] at H
                            have c20b0 : decide (9 < (wrap64 ((wrap64 (bt x4_5 x6_4)) - 48))) = false := decide_eq_false c20
                            clear c20
                            by_cases c21 : x5_4 < (wrap64 (Int.tdiv (wrap64 ((-9223372036854775808) + (wrap64 ((wrap64 (bt x4_5 x6_4)) - 48)))) 10))
                            · rw [if_pos c21] at H
                              have c21b0 : decide (x5_4 < (wrap64 (Int.tdiv (wrap64 ((-9223372036854775808) + (wrap64 ((wrap64 (bt x4_5 x6_4)) - 48)))) 10))) = true := decide_eq_true c21
                              clear c21
                              simp only [Option.some.injEq, Prod.mk.injEq] at H
                              obtain ⟨rfl, rfl⟩ := H
                              have p18 : 0 ≤ (x6_4 : Int) := of_decide_eq_true (by first | (with_reducible assumption) | assumption)
                              have q18 : x6_4 < (x4_5.size : Int) := of_decide_eq_true (by first | (with_reducible assumption) | assumption)
                              have hx18 := bt_at x4_5 x6_4
                              replace p18 := eq_true p18
                              replace q18 := eq_true q18
                              go_wp2
                              go_ret2
                              exact ⟨by first | rfl | (simp; done) | (simp [*]; done), by repeat (first | exact Drawn0.refl _ | apply Drawn0.step)⟩
                            · rw [if_neg c21] at H
                              have c21b0 : decide (x5_4 < (wrap64 (Int.tdiv (wrap64 ((-9223372036854775808) + (wrap64 ((wrap64 (bt x4_5 x6_4)) - 48)))) 10))) = false := decide_eq_false c21
                              clear c21
                              have H' := Aside0.mk H
                              clear H
                              have p18 : 0 ≤ (x6_4 : Int) := of_decide_eq_true (by first | (with_reducible assumption) | assumption)
                              have q18 : x6_4 < (x4_5.size : Int) := of_decide_eq_true (by first | (with_reducible assumption) | assumption)
                              have hx18 := bt_at x4_5 x6_4
                              replace p18 := eq_true p18
                              replace q18 := eq_true q18
                              go_wp2
                              go_roundg k4
                              case measure => have := HJ1.out; have := HJ5.out; have := HJ8.out; have := HK4.out; omega
                              case rel => exact ⟨(wrap64 ((wrap64 (10 * x5_4)) - (wrap64 ((wrap64 (bt x4_5 x6_4)) - 48)))), (wrap64 (x6_4 + 1)), (by first | rfl | (simp; done) | (simp [*]; done)), (by first | rfl | (simp; done) | (simp [*]; done)), H', ⟨by have := HJ1.out; have := HJ5.out; have := HJ8.out; have := HK4.out; omega⟩, by repeat (first | exact Drawn0.refl _ | apply Drawn0.step)⟩
                      · rw [if_neg c17] at H
                        exact absurd H (by simp)
                    · rw [if_neg c16] at H
                      have c16b0 : decide (x6_4 < (x4_5.size : Int)) = false := decide_eq_false c16
                      clear c16
                      by_cases c22 : (x4_5.size : Int) < (a0.size : Int)
                      · rw [if_pos c22] at H
                        have c22b0 : decide ((x4_5.size : Int) < (a0.size : Int)) = true := decide_eq_true c22
                        have c22b1 : decide (x4_5.size < a0.size) = true := decide_eq_true (Int.ofNat_lt.mp c22)
                        clear c22
                        simp only [Option.some.injEq, Prod.mk.injEq] at H
                        obtain ⟨rfl, rfl⟩ := H
                        go_wp2
                        go_ret2
                        exact ⟨by first | rfl | (simp; done) | (simp [*]; done), by repeat (first | exact Drawn0.refl _ | apply Drawn0.step)⟩
                      · rw [if_neg c22] at H
                        have c22b0 : decide ((x4_5.size : Int) < (a0.size : Int)) = false := decide_eq_false c22
                        have c22b1 : decide (x4_5.size < a0.size) = false := decide_eq_false (fun h => c22 (Int.ofNat_lt.mpr h))
                        clear c22
                        by_cases c23 : x5_4 = (-9223372036854775808)
                        · rw [if_pos c23] at H
                          have c23b0 : (x5_4 == (-9223372036854775808)) = true := beq_iff_eq.mpr c23
                          have c23b1 : (x5_4 != (-9223372036854775808)) = false := bne_eq_false_iff_eq.mpr c23
                          clear c23
                          simp only [Option.some.injEq, Prod.mk.injEq] at H
                          obtain ⟨rfl, rfl⟩ := H
                          go_wp2
                          go_ret2
                          exact ⟨by first | rfl | (simp; done) | (simp [*]; done), by repeat (first | exact Drawn0.refl _ | apply Drawn0.step)⟩
                        · rw [if_neg c23] at H
                          have c23b0 : (x5_4 == (-9223372036854775808)) = false := beq_eq_false_iff_ne.mpr c23
                          have c23b1 : (x5_4 != (-9223372036854775808)) = true := bne_iff_ne.mpr c23
                          simp only [Option.some.injEq, Prod.mk.injEq] at H
                          obtain ⟨rfl, rfl⟩ := H
                          go_wp2
                          go_ret2
                          exact ⟨by first | rfl | (simp; done) | (simp [*]; done), by repeat (first | exact Drawn0.refl _ | apply Drawn0.step)⟩

/-! ### signalboxref31_row: function 18 -/
def signalboxref31_row.l0 : Nat → List ByteArray → List Int → Int → Option (List Int × Bool)
  | 0, _, _, _ => none
  | k + 1, x6, x7, x8 => if x8 < (x6.length : Int) then (if 0 ≤ x8 then ((signalboxref1_Num.f k (rdOf ByteArray.empty x6 x8)).bind fun bt170 => (if bt170.2 = true then (if x7.length < 17592186044416 then (signalboxref31_row.l0 k x6 (x7 ++ [bt170.1]) (wrap64 (x8 + 1))) else (none)) else (some (([] : List Int), false)))) else (none)) else (some (x7, true))
def signalboxref31_row.f (k : Nat) (a0 : ByteArray) (a1 : ByteArray) : Option (List Int × Bool) := (signalboxref1_Words.f k a0).bind fun t162 => (if 0 < (t162.length : Int) then (if (rdOf ByteArray.empty t162 0).toList = a1.toList then (signalboxref31_row.l0 k t162 (([] : List Int)) 1) else (some (([] : List Int), false))) else (none))
theorem signalboxref31_row.mono_l : ∀ k, (∀ y0 y1 y2, LeO (signalboxref31_row.l0 k y0 y1 y2) (signalboxref31_row.l0 (k + 1) y0 y1 y2))
  | 0 => fun _ _ _ r h => by simp [signalboxref31_row.l0] at h
  | k + 1 => by
    have ih0 := signalboxref31_row.mono_l k
    · intro y0 y1 y2
      unfold signalboxref31_row.l0
      repeat' first
      | (with_reducible exact ih0 _ _ _)
      | (with_reducible exact signalboxref1_Num.mono _ _)
      | (with_reducible exact signalboxref1_Words.mono _ _)
      | (with_reducible exact LeO.refl _)
      | (with_reducible exact LeO.none _)
      | (with_reducible refine LeO.ite ?_ ?_)
      | (with_reducible refine LeO.bind ?_ (fun _ => ?_))
      | exact ih0 _ _ _
      | exact signalboxref1_Num.mono _ _
      | exact signalboxref1_Words.mono _ _
      | exact LeO.none _
      | refine LeO.ite ?_ ?_
      | refine LeO.bind ?_ (fun _ => ?_)
theorem signalboxref31_row.mono : ∀ a0 a1 k, LeO (signalboxref31_row.f k a0 a1) (signalboxref31_row.f (k + 1) a0 a1) := by
  intro a0 a1 k
  have ih0 := signalboxref31_row.mono_l k
  unfold signalboxref31_row.f
  repeat' first
      | (with_reducible exact ih0 _ _ _)
      | (with_reducible exact signalboxref1_Num.mono _ _)
      | (with_reducible exact signalboxref1_Words.mono _ _)
      | (with_reducible exact LeO.refl _)
      | (with_reducible exact LeO.none _)
      | (with_reducible refine LeO.ite ?_ ?_)
      | (with_reducible refine LeO.bind ?_ (fun _ => ?_))
      | exact ih0 _ _ _
      | exact signalboxref1_Num.mono _ _
      | exact signalboxref1_Words.mono _ _
      | exact LeO.none _
      | refine LeO.ite ?_ ?_
      | refine LeO.bind ?_ (fun _ => ?_)
set_option maxHeartbeats 8000000 in
set_option maxRecDepth 100000 in
theorem signalboxref31_row.calls (k : Nat) (a0 : ByteArray) (a1 : ByteArray) (r1 : List Int) (r2 : Bool) (w : World) (h : signalboxref31_row.f k a0 a1 = some (r1, r2)) :
    Calls Tryd.prog 18 #[.string a0, .string a1] w fun e w' => ∃ v0_ : Value, e = .returned (.tuple #[v0_, .bool r2]) ∧ Kd.R (Kd.int .i64) 3 w' w.heap.size (fun _ => True) v0_ r1 ∧ Below w.heap.size w w' := by
  have HB := Aside0.mk (Below.refl w.heap.size w)
  have H : ((signalboxref1_Words.f k a0).bind fun t162 => (if 0 < (t162.length : Int) then (if (rdOf ByteArray.empty t162 0).toList = a1.toList then (signalboxref31_row.l0 k t162 (([] : List Int)) 1) else (some (([] : List Int), false))) else (none))) = some (r1, r2) := h
  clear h
  replace H := Option.bind_eq_some_iff.mp H
  obtain ⟨t162, A30, H⟩ := H
  replace H : (if 0 < (t162.length : Int) then (if (rdOf ByteArray.empty t162 0).toList = a1.toList then (signalboxref31_row.l0 k t162 (([] : List Int)) 1) else (some (([] : List Int), false))) else (none)) = some (r1, r2) := H
  have A3 := Aside0.mk A30
  clear A30
  obtain ⟨y165, hy165⟩ : ∃ y_ : List Int, y_ = (([] : List Int)) := ⟨_, rfl⟩
  replace H : (if 0 < (t162.length : Int) then (if (rdOf ByteArray.empty t162 0).toList = a1.toList then (signalboxref31_row.l0 k t162 y165 1) else (some (([] : List Int), false))) else (none)) = some (r1, r2) := by first | (rw [hy165]; with_reducible exact H) | (have H2_ := (Option.bind_some _ _).symm.trans H; rw [hy165]; with_reducible exact H2_) | (have H2_ := (Option.bind_some _ _).symm.trans H; with_reducible exact H2_) | with_reducible exact H | (rw [hy165]; exact H) | exact H
  have Ny165 := Aside0.mk hy165
  clear hy165
  by_cases c4 : 0 < (t162.length : Int)
  · rw [if_pos c4] at H
    have c4b0 : decide (0 < (t162.length : Int)) = true := decide_eq_true c4
    have c4b1 : decide (0 < t162.length) = true := decide_eq_true (by omega)
    clear c4
    by_cases c5 : (rdOf ByteArray.empty t162 0).toList = a1.toList
    · rw [if_pos c5] at H
      have c5b0 : ((rdOf ByteArray.empty t162 0).toList == a1.toList) = true := beq_iff_eq.mpr c5
      have c5b1 : ((rdOf ByteArray.empty t162 0).toList != a1.toList) = false := bne_eq_false_iff_eq.mpr c5
      clear c5
      have H' := Aside0.mk H
      clear H
      go_enter Tryd.func18, Tryd.ntmps18
      go_wp2_with (first | ((with_reducible refine gate_callee (f := 23) rfl ?_); refine goesL_ (some 12) rfl rfl Tryd.func23 (by kernel_rfl) rfl #[.string a0] rfl (by (try simp only [List.map_toArray, List.map_cons, List.map_nil]); first | done | rfl | (simp only [List.length_drop, List.length_take]; rfl)) ?_; (with_reducible refine (signalboxref1_Words.calls k a0 t162 _ A3.out).mono ?_); rintro e w6 ⟨v163, rfl, ho0, hb⟩; refine ⟨_, rfl, ?_⟩; have n0_ := Aside0.mk (Kd.R_lower ho0 (below_size (by repeat (first | (with_reducible first | exact HB.out | apply below_alloc | apply pw_below_drewN | apply below_drew1) | exact HB.out)))); have n1_ := Aside0.mk (below_step (by repeat (first | (with_reducible first | exact HB.out | apply below_alloc | apply pw_below_drewN | apply below_drew1) | exact HB.out)) hb); clear HB; have HO164 := n0_; have HB := n1_; clear n0_ n1_; (try clear hb); (try clear hb2); (try clear hk); (try clear hi); (try clear ho0)) | ((with_reducible refine gate_dst (N := 13) rfl ?_); refine Kd.R_lit (Kd.int .i64) _ 3 ?hg (N := 13) ?hd (xs := ([] : List Int)) (inner := []) (ok := fun _ => True) (okp := fun _ => True) ?hr ?hp (fun _ hk => hk) trivial (Below.refl _ _) (Nat.le_refl _) (by simp) ?_; (case hd => rfl); (case hg => rfl); (case hr => first | (go_simp; done) | (go_simp; rfl)); (case hp => exact (Reps.none _ _)); intro v166 w7 ho8 hb hg_ hnew_; clear hg_ hnew_; (first | rw [← Ny165.out] at ho8 | (simp only [Int.reduceToNat] at ho8; rw [← Ny165.out] at ho8)); have n0_ := Aside0.mk (Kd.R_below (by (with_reducible repeat (first | apply Kd.R_alloc | apply Kd.R_drewN | apply Kd.R_drew)); exact HO164.out) hb); have n1_ := Aside0.mk (Kd.R_lower ho8 (below_size (by repeat (first | (with_reducible first | exact HB.out | apply below_alloc | apply pw_below_drewN | apply below_drew1) | exact HB.out)))); have n2_ := Aside0.mk (below_step (by repeat (first | (with_reducible first | exact HB.out | apply below_alloc | apply pw_below_drewN | apply below_drew1) | exact HB.out)) hb); clear HO164; clear HB; have HO164 := n0_; have HO167 := n1_; have HB := n2_; clear n0_ n1_ n2_; clear hb ho8; obtain ⟨Ao9, co9, eo9⟩ := Kd.R_slice HO164.out; subst eo9; have p168 : 0 ≤ (0 : Int) := (by omega); have q168 : 0 < (t162.length : Int) := of_decide_eq_true (by first | (with_reducible assumption) | assumption); obtain ⟨ad168, e168, hx168_0⟩ := Kd.at_string (Kd.R_reads' HO164.out).2.2 0 p168 q168; cases e168; have qi168 : (0 < t162.length) = True := eq_true (by omega); (try rw [show ((0 : Int)).toNat = 0 from rfl] at hx168_0); (try rw [Addr.add_zero'] at hx168_0); replace p168 := eq_true p168; replace q168 := eq_true q168))
      go_loopg [7, 8] k (fun kq v7 v8 w' => ∃ (x7_1 : List Int) (x8_1 : Int), v8 = .int .i64 x8_1 ∧ Aside0 (signalboxref31_row.l0 kq t162 x7_1 x8_1 = some (r1, r2)) ∧ Aside0 (kq ≤ k) ∧ Aside0 (Kd.R Kd.string 9 w' w.heap.size (fun _ => True) (.slice (some ad168) t162.length co9) t162) ∧ Aside0 (Kd.R (Kd.int .i64) 3 w' w.heap.size (fun _ => True) v7 x7_1) ∧ Aside0 (Below w.heap.size w w'))
      case atStart => exact ⟨(y165), (1), (by first | rfl | (simp; done) | (simp [*]; done)), H', ⟨Nat.le_refl _⟩, ⟨by (with_reducible repeat (first | apply Kd.R_alloc | apply Kd.R_drewN | apply Kd.R_drew)); exact HO164.out⟩, ⟨by (with_reducible repeat (first | apply Kd.R_alloc | apply Kd.R_drewN | apply Kd.R_drew)); exact HO167.out⟩, ⟨by repeat (first | (with_reducible first | exact HB.out | apply below_alloc | apply pw_below_drewN | apply below_drew1) | exact HB.out)⟩⟩
      case round =>
        clear H'
        try clear c1
        try clear p1
        try clear q1
        try clear hx1
        try clear qi1
        try clear c2
        try clear p2
        try clear c4
        try clear c4b0
        try clear c4b1
        try clear c5
        try clear c5b0
        try clear c5b1
        try clear hx168_0
        try clear p168
        try clear q168
        obtain ⟨x7_1, x8_1, rfl, HA, HK1, HO_6, HO_7, HB⟩ := hrel
        cases gk with
        | zero => exact absurd HA.out (by simp [signalboxref31_row.l0])
        | succ k1 =>
          have H := HA.out
          clear HA
          simp only [signalboxref31_row.l0] at H
          by_cases c10 : x8_1 < (t162.length : Int)
          · rw [if_pos c10] at H
            have c10b0 : decide (x8_1 < (t162.length : Int)) = true := decide_eq_true c10
            clear c10
            by_cases c11 : 0 ≤ x8_1
            · rw [if_pos c11] at H
              have c11b0 : decide (0 ≤ x8_1) = true := decide_eq_true c11
              clear c11
              replace H := Option.bind_eq_some_iff.mp H
              obtain ⟨⟨t170, t171⟩, A120, H⟩ := H
              replace H : (if t171 = true then (if x7_1.length < 17592186044416 then (signalboxref31_row.l0 k1 t162 (x7_1 ++ [t170]) (wrap64 (x8_1 + 1))) else (none)) else (some (([] : List Int), false))) = some (r1, r2) := H
              have A12 := Aside0.mk A120
              clear A120
              by_cases c13 : t171 = true
              · subst c13
                have H1 : (if x7_1.length < 17592186044416 then (signalboxref31_row.l0 k1 t162 (x7_1 ++ [t170]) (wrap64 (x8_1 + 1))) else (none)) = some (r1, r2) := by rw [if_pos rfl] at H; exact H
                clear H
                have H := H1
                clear H1
                by_cases c14 : x7_1.length < 17592186044416
                · rw [if_pos c14] at H
                  have LMc14 := Aside0.mk c14
                  clear c14
                  obtain ⟨y172, hy172⟩ : ∃ y_ : List Int, y_ = (x7_1 ++ [t170]) := ⟨_, rfl⟩
                  replace H : (signalboxref31_row.l0 k1 t162 y172 (wrap64 (x8_1 + 1))) = some (r1, r2) := by first | (rw [hy172]; with_reducible exact H) | (have H2_ := (Option.bind_some _ _).symm.trans H; rw [hy172]; with_reducible exact H2_) | (have H2_ := (Option.bind_some _ _).symm.trans H; with_reducible exact H2_) | with_reducible exact H | (rw [hy172]; exact H) | exact H
                  have Ny172 := Aside0.mk hy172
                  clear hy172
                  have H' := Aside0.mk H
                  clear H
                  have p169 : 0 ≤ (x8_1 : Int) := of_decide_eq_true (by first | (with_reducible assumption) | assumption)
                  have q169 : x8_1 < (t162.length : Int) := of_decide_eq_true (by first | (with_reducible assumption) | assumption)
                  obtain ⟨ad169, e169, hx169_0⟩ := Kd.at_string (Kd.R_reads' HO_6.out).2.2 x8_1 p169 q169
                  obtain rfl : ad168 = ad169 := (by injection e169)
                  replace p169 := eq_true p169
                  replace q169 := eq_true q169
                  go_wp2_with (first | ((with_reducible refine gate_callee (f := 24) rfl ?_); refine goesL_ (some 30) rfl rfl Tryd.func24 (by kernel_rfl) rfl #[.string (rdOf ByteArray.empty t162 x8_1)] rfl (by (try simp only [List.map_toArray, List.map_cons, List.map_nil]); first | done | rfl | (simp only [List.length_drop, List.length_take]; rfl)) ?_; (with_reducible refine (signalboxref1_Num.calls k1 (rdOf ByteArray.empty t162 x8_1) t170 true _ A12.out).mono ?_); rintro e w' ⟨rfl, ⟨nd, rfl⟩⟩; refine ⟨_, rfl, ?_⟩) | ((with_reducible refine gate_builtin (b := .append) (xs := #[.tmp 35, .tmp 37]) rfl ?_); at_builtin; refine Kd.R_append (Kd.int .i64) (w0 := w) w.heap.size rfl (.tmp 35) (.tmp 37) 24 3 (.int .i64 0) 8 rfl Tryd.underlying24 info3 rfl (by decide) (by omega) u7 x7_1 t170 [.int .i64 t170] (fun _ => True) (fun _ => False) rfl rfl ?aP (fun _ hk => hk.elim) ?aF ?aO ?aB ?aS ?aL ?_; (case aP => exact rfl); (case aB => exact (by repeat (first | (with_reducible first | exact HB.out | apply below_alloc | apply pw_below_drewN | apply below_drew1) | exact HB.out))); (case aF => exact (fun _ _ => trivial)); (case aO => exact (by (with_reducible repeat (first | apply Kd.R_alloc | apply Kd.R_drewN | apply Kd.R_drew)); exact HO_7.out)); (case aS => exact (below_size (by repeat (first | (with_reducible first | exact HB.out | apply below_alloc | apply pw_below_drewN | apply below_drew1) | exact HB.out)))); (case aL => have := LMc14.out; omega); intro v173 w15 ho hb hg hat; rw [← Ny172.out] at ho; have n0_ := Aside0.mk (Kd.R_over' (by (with_reducible repeat (first | apply Kd.R_alloc | apply Kd.R_drewN | apply Kd.R_drew)); exact HO_6.out) (Kd.R_typed (by (with_reducible repeat (first | apply Kd.R_alloc | apply Kd.R_drewN | apply Kd.R_drew)); exact HO_7.out)) (by decide) hg); have n1_ := Aside0.mk (hb); have n2_ := Aside0.mk (ho); clear HO_6; clear HB; clear HO_7; have HO_6 := n0_; have HB := n1_; have HO174 := n2_; clear n0_ n1_ n2_; clear ho hb hg hat))
                  go_roundg k1
                  case measure => have := HK1.out; omega
                  case rel => exact ⟨(y172), (wrap64 (x8_1 + 1)), (by first | rfl | (simp; done) | (simp [*]; done)), H', ⟨by have := HK1.out; omega⟩, ⟨by (with_reducible repeat (first | apply Kd.R_alloc | apply Kd.R_drewN | apply Kd.R_drew)); exact HO_6.out⟩, ⟨by (with_reducible repeat (first | apply Kd.R_alloc | apply Kd.R_drewN | apply Kd.R_drew)); exact HO174.out⟩, ⟨by repeat (first | (with_reducible first | exact HB.out | apply below_alloc | apply pw_below_drewN | apply below_drew1) | exact HB.out)⟩⟩
                · rw [if_neg c14] at H
                  exact absurd H (by simp)
              · replace c13 := Bool.eq_false_iff.mpr c13
                subst c13
                have H1 : (some (([] : List Int), false)) = some (r1, r2) := by rw [if_neg (show ¬ (false = true) by decide)] at H; exact H
                clear H
                have H := H1
                clear H1
                simp only [Option.some.injEq, Prod.mk.injEq] at H
                obtain ⟨rfl, rfl⟩ := H
                have p169 : 0 ≤ (x8_1 : Int) := of_decide_eq_true (by first | (with_reducible assumption) | assumption)
                have q169 : x8_1 < (t162.length : Int) := of_decide_eq_true (by first | (with_reducible assumption) | assumption)
                obtain ⟨ad169, e169, hx169_0⟩ := Kd.at_string (Kd.R_reads' HO_6.out).2.2 x8_1 p169 q169
                obtain rfl : ad168 = ad169 := (by injection e169)
                replace p169 := eq_true p169
                replace q169 := eq_true q169
                go_wp2_with (first | ((with_reducible refine gate_callee (f := 24) rfl ?_); refine goesL_ (some 30) rfl rfl Tryd.func24 (by kernel_rfl) rfl #[.string (rdOf ByteArray.empty t162 x8_1)] rfl (by (try simp only [List.map_toArray, List.map_cons, List.map_nil]); first | done | rfl | (simp only [List.length_drop, List.length_take]; rfl)) ?_; (with_reducible refine (signalboxref1_Num.calls k1 (rdOf ByteArray.empty t162 x8_1) t170 false _ A12.out).mono ?_); rintro e w' ⟨rfl, ⟨nd, rfl⟩⟩; refine ⟨_, rfl, ?_⟩))
                go_ret2
                exact ⟨_, by first | rfl | (simp [errW_none, errW_some] <;> rfl) | (simp [*, errW_none, errW_some] <;> rfl), by first | exact Kd.R_nil _ _ _ _ _ | exact Kd.N_nil _ _ _ _ _ | exact Kd.V_nil _ _ _ _ _ | exact Kd.Q_nil _ _ _ _ _ | exact Kd.S_nil _ _ _ _ _, by repeat (first | (with_reducible first | exact HB.out | apply below_alloc | apply pw_below_drewN | apply below_drew1) | exact HB.out)⟩
            · rw [if_neg c11] at H
              exact absurd H (by simp)
          · rw [if_neg c10] at H
            have c10b0 : decide (x8_1 < (t162.length : Int)) = false := decide_eq_false c10
            clear c10
            simp only [Option.some.injEq, Prod.mk.injEq] at H
            obtain ⟨rfl, rfl⟩ := H
            go_wp2
            go_ret2
            exact ⟨_, by first | rfl | (simp [errW_none, errW_some] <;> rfl) | (simp [*, errW_none, errW_some] <;> rfl), by (with_reducible repeat (first | apply Kd.R_alloc | apply Kd.R_drewN | apply Kd.R_drew)); exact HO_7.out, by repeat (first | (with_reducible first | exact HB.out | apply below_alloc | apply pw_below_drewN | apply below_drew1) | exact HB.out)⟩
    · rw [if_neg c5] at H
      have c5b0 : ((rdOf ByteArray.empty t162 0).toList == a1.toList) = false := beq_eq_false_iff_ne.mpr c5
      have c5b1 : ((rdOf ByteArray.empty t162 0).toList != a1.toList) = true := bne_iff_ne.mpr c5
      simp only [Option.some.injEq, Prod.mk.injEq] at H
      obtain ⟨rfl, rfl⟩ := H
      go_enter Tryd.func18, Tryd.ntmps18
      go_wp2_with (first | ((with_reducible refine gate_callee (f := 23) rfl ?_); refine goesL_ (some 12) rfl rfl Tryd.func23 (by kernel_rfl) rfl #[.string a0] rfl (by (try simp only [List.map_toArray, List.map_cons, List.map_nil]); first | done | rfl | (simp only [List.length_drop, List.length_take]; rfl)) ?_; (with_reducible refine (signalboxref1_Words.calls k a0 t162 _ A3.out).mono ?_); rintro e w16 ⟨v163, rfl, ho0, hb⟩; refine ⟨_, rfl, ?_⟩; have n0_ := Aside0.mk (Kd.R_lower ho0 (below_size (by repeat (first | (with_reducible first | exact HB.out | apply below_alloc | apply pw_below_drewN | apply below_drew1) | exact HB.out)))); have n1_ := Aside0.mk (below_step (by repeat (first | (with_reducible first | exact HB.out | apply below_alloc | apply pw_below_drewN | apply below_drew1) | exact HB.out)) hb); clear HB; have HO164 := n0_; have HB := n1_; clear n0_ n1_; (try clear hb); (try clear hb2); (try clear hk); (try clear hi); (try clear ho0)) | ((with_reducible refine gate_dst (N := 13) rfl ?_); refine Kd.R_lit (Kd.int .i64) _ 3 ?hg (N := 13) ?hd (xs := ([] : List Int)) (inner := []) (ok := fun _ => True) (okp := fun _ => True) ?hr ?hp (fun _ hk => hk) trivial (Below.refl _ _) (Nat.le_refl _) (by simp) ?_; (case hd => rfl); (case hg => rfl); (case hr => first | (go_simp; done) | (go_simp; rfl)); (case hp => exact (Reps.none _ _)); intro v166 w17 ho18 hb hg_ hnew_; clear hg_ hnew_; (first | rw [← Ny165.out] at ho18 | (simp only [Int.reduceToNat] at ho18; rw [← Ny165.out] at ho18)); have n0_ := Aside0.mk (Kd.R_below (by (with_reducible repeat (first | apply Kd.R_alloc | apply Kd.R_drewN | apply Kd.R_drew)); exact HO164.out) hb); have n1_ := Aside0.mk (Kd.R_lower ho18 (below_size (by repeat (first | (with_reducible first | exact HB.out | apply below_alloc | apply pw_below_drewN | apply below_drew1) | exact HB.out)))); have n2_ := Aside0.mk (below_step (by repeat (first | (with_reducible first | exact HB.out | apply below_alloc | apply pw_below_drewN | apply below_drew1) | exact HB.out)) hb); clear HO164; clear HB; have HO164 := n0_; have HO167 := n1_; have HB := n2_; clear n0_ n1_ n2_; clear hb ho18; obtain ⟨Ao19, co19, eo19⟩ := Kd.R_slice HO164.out; subst eo19; have p168 : 0 ≤ (0 : Int) := (by omega); have q168 : 0 < (t162.length : Int) := of_decide_eq_true (by first | (with_reducible assumption) | assumption); obtain ⟨ad168, e168, hx168_0⟩ := Kd.at_string (Kd.R_reads' HO164.out).2.2 0 p168 q168; cases e168; have qi168 : (0 < t162.length) = True := eq_true (by omega); (try rw [show ((0 : Int)).toNat = 0 from rfl] at hx168_0); (try rw [Addr.add_zero'] at hx168_0); replace p168 := eq_true p168; replace q168 := eq_true q168))
      go_ret2
      exact ⟨_, by first | rfl | (simp [errW_none, errW_some] <;> rfl) | (simp [*, errW_none, errW_some] <;> rfl), by first | exact Kd.R_nil _ _ _ _ _ | exact Kd.N_nil _ _ _ _ _ | exact Kd.V_nil _ _ _ _ _ | exact Kd.Q_nil _ _ _ _ _ | exact Kd.S_nil _ _ _ _ _, by repeat (first | (with_reducible first | exact HB.out | apply below_alloc | apply pw_below_drewN | apply below_drew1) | exact HB.out)⟩
  · rw [if_neg c4] at H
    exact absurd H (by simp)

-- NOT PRINTED: function 11 (signalboxref31_ReadScript)

-- NOT PRINTED: function 5 (signalboxlaw33_ScriptSpoilt)

end Go.Proofs.YtmjflpffafnkdaaDoor.PScriptSpoilt
