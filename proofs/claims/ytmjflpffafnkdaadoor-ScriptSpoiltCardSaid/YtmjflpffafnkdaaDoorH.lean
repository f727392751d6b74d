/- The reference's text of a job. Conditions: see each theorem. -/
import Derived.Test.YtmjflpffafnkdaaDoorC
namespace Go.Proofs.YtmjflpffafnkdaaDoor
open Go.RowKit
open Go.Proofs.YtmjflpffafnkdaaDoorW.PrintWords Go.Proofs.YtmjflpffafnkdaaDoorW.PrintLast Go.Proofs.YtmjflpffafnkdaaDoorW.PrintMore
variable {B0 : Nat}

def numsR (l : List Int) : ByteArray := lineB ⟨#[]⟩ l

set_option maxHeartbeats 800000 in
theorem nums_any (A : Option Addr) (c : Nat) (l : List Int) (w : World) (hl : l.length ≤ 30000)
    (hb : I64 l) (hr : Kd.C (Kd.int .i64) w A l.length l) (hL : Laid B0 w) :
    Calls Tryd.prog 14 #[.slice A l.length c] w fun e w' => e = .returned (.string (numsR l)) ∧ Below w.heap.size w w' := by
  have HB := Lib.hid hb; clear hb
  have HR := Lib.hid hr; clear hr
  have HT := Lib.hid hL; clear hL
  go_enter Tryd.func14, Tryd.ntmps14
  go_wp2
  go_loopw [3, 4] (fun s i wr => ∃ k : Nat, k ≤ l.length ∧ i = .int .i64 k ∧ s = .string (addNums ⟨#[]⟩ (l.take k)) ∧ Below w.heap.size w wr) (fun _ i _ => l.length - (intOf i).toNat)
  case atStart => exact ⟨0, Nat.zero_le _, rfl, rfl, Below.refl _ _⟩
  case round =>
    obtain ⟨k, hk, rfl, rfl, hbel⟩ := hrel
    have hsz := addNums_size ⟨#[]⟩ (l.take k) (fun x hx => HB.out x (List.mem_of_mem_take hx))
    rw [List.length_take, Nat.min_eq_left hk, show (⟨#[]⟩ : ByteArray).size = 0 from rfl] at hsz
    by_cases hlt : k < l.length
    · obtain ⟨ad, e1, hc⟩ := Kd.at_int (Kd.C_below HR.out hbel) (k : Int) (by omega) (by omega)
      cases e1
      have p1 := eq_true (show (0 : Int) ≤ (k : Int) by omega)
      have q1 := eq_true (show (k : Int) < (l.length : Int) by omega)
      rw [rd_nat, Int.toNat_natCast] at hc
      obtain ⟨x, hx⟩ : ∃ x, l.getD k 0 = x := ⟨_, rfl⟩
      rw [hx] at hc
      have hxb := HB.out x (by rw [← hx, List.getD_eq_getElem?_getD, List.getElem?_eq_getElem hlt]; exact List.getElem_mem _)
      have hxs := itoaB_size x hxb.1 hxb.2
      have HX := Lib.hid hx; clear hx
      go_wp2_with (go_at_call 19; refine (Itoa_any x hxb.1 hxb.2 _ (HT.out.below hbel)).mono ?_; rintro e w2 ⟨rfl, hb2⟩)
      go_roundw
      case rel => exact ⟨k + 1, by omega, by go_num, by rw [take_snocI l k hlt, HX.out, addNums_snoc, ByteArray.append_assoc], hbel.trans (hb2.mono hbel.size)⟩
      case measure => simp [intOf]; omega
    · obtain rfl : k = l.length := by omega
      rw [List.take_length] at hsz ⊢
      go_wp2
      go_ret
      exact ⟨rfl, hbel⟩

theorem addNums_app (a b : ByteArray) (l : List Int) : addNums (a ++ b) l = a ++ addNums b l := by
  induction l generalizing b with
  | nil => rfl
  | cons x l ih =>
    show addNums (a ++ b ++ ((⟨#[32]⟩ : ByteArray) ++ itoaB x)) l = a ++ addNums (b ++ ((⟨#[32]⟩ : ByteArray) ++ itoaB x)) l
    rw [ByteArray.append_assoc, ih]
theorem line_nums (s : ByteArray) (l : List Int) : s ++ numsR l = lineB s l := by
  unfold numsR lineB
  rw [← ByteArray.append_assoc, ← addNums_app, show s ++ (⟨#[]⟩ : ByteArray) = s from ByteArray.append_empty]

theorem nums_three (g : Nat) (p st so : Int) (w : World) (hb : I64 [p, st, so]) (h : w.heap[g]? = some (.cells #[.int .i64 p, .int .i64 st, .int .i64 so] 3 (0, 0))) (hL : Laid B0 w) :
    Calls Tryd.prog 14 #[.slice (some ⟨g, 0, none⟩) 3 3] w fun e w' => e = .returned (.string (numsR [p, st, so])) ∧ Below w.heap.size w w' :=
  nums_any _ 3 [p, st, so] w (show 3 ≤ 30000 by decide) hb (three_C _ _ _ _ _ h) hL

theorem text_ref (cl : Bool) (p st so : Int) (l1 l2 : List Int) : lineB (modeB cl) [] ++ limitsB ++ numsR [p, st, so] ++ inputB ++ numsR l1 ++ picksB ++ numsR l2 = textB cl p st so l1 l2 := by
  simp only [textB, ← line_nums, ByteArray.append_assoc]

def startB (cl : Bool) : ByteArray := lineB (modeB cl) []
theorem start_lit (cl : Bool) : startB cl = if cl then ⟨#[99, 108, 97, 105, 109, 101, 100, 10]⟩ else ⟨#[117, 110, 99, 108, 97, 105, 109, 101, 100, 10]⟩ := by cases cl <;> rfl

set_option maxHeartbeats 4000000 in
theorem RefText_any (cl : Bool) (p st so : Int) (A1 A2 : Option Addr) (c1 c2 : Nat) (l1 l2 : List Int) (w : World)
    (hb0 : I64 [p, st, so]) (hb1 : I64 l1) (hb2 : I64 l2) (hl1 : l1.length ≤ 30000) (hl2 : l2.length ≤ 30000)
    (hr1 : Kd.C (Kd.int .i64) w A1 l1.length l1) (hr2 : Kd.C (Kd.int .i64) w A2 l2.length l2) (hL : Laid B0 w) :
    Calls Tryd.prog 8 #[.agg #[.bool cl, .int .i64 p, .int .i64 st, .int .i64 so, .slice A1 l1.length c1, .slice A2 l2.length c2]] w fun e w' =>
      e = .returned (.string (textB cl p st so l1 l2)) ∧ Below w.heap.size w w' := by
  have s0 := lineB_size (modeB cl) [] I64_nil
  have s0' := modeB_size cl
  have s1 := lineB_size ⟨#[]⟩ _ hb0
  have s2 := lineB_size ⟨#[]⟩ _ hb1
  have s3 := lineB_size ⟨#[]⟩ _ hb2
  have sz : (⟨#[]⟩ : ByteArray).size = 0 := rfl
  simp only [List.length_nil, List.length_cons] at s0 s1
  have S0 : (startB cl).size ≤ 100 := by unfold startB; omega
  have S1 : (numsR [p, st, so]).size ≤ 100 := by unfold numsR; omega
  have S2 : (numsR l1).size ≤ 1000000 := by unfold numsR; omega
  have S3 : (numsR l2).size ≤ 1000000 := by unfold numsR; omega
  clear s0 s0' s1 s2 s3 sz
  have T1 : limitsB.size = 6 := rfl
  have T2 : inputB.size = 5 := rfl
  have T3 : picksB.size = 5 := rfl
  have H0 := Lib.hid hb0; clear hb0
  have H1 := Lib.hid hb1; clear hb1
  have H2 := Lib.hid hb2; clear hb2
  have HR1 := Lib.hid hr1; clear hr1
  have HR2 := Lib.hid hr2; clear hr2
  have HT := Lib.hid hL; clear hL
  have N1 : ¬ 9223372036854775807 < (startB cl).size + 6 := by omega
  have N2 : ¬ 9223372036854775807 < (startB cl).size + 6 + (numsR [p, st, so]).size := by omega
  have N3 : ¬ 9223372036854775807 < (startB cl).size + 6 + (numsR [p, st, so]).size + 5 := by omega
  have N4 : ¬ 9223372036854775807 < (startB cl).size + 6 + (numsR [p, st, so]).size + 5 + (numsR l1).size := by omega
  have N5 : ¬ 9223372036854775807 < (startB cl).size + 6 + (numsR [p, st, so]).size + 5 + (numsR l1).size + 5 := by omega
  have N6 : ¬ 9223372036854775807 < (startB cl).size + 6 + (numsR [p, st, so]).size + 5 + (numsR l1).size + 5 + (numsR l2).size := by omega
  have sf : (⟨#[117, 110, 99, 108, 97, 105, 109, 101, 100, 10]⟩ : ByteArray) = startB false := rfl
  have stt : (⟨#[99, 108, 97, 105, 109, 101, 100, 10]⟩ : ByteArray) = startB true := rfl
  cases cl
  all_goals
    go_enter Tryd.func8, Tryd.ntmps8
    go_wp2_with fail
    try rw [sf]
    try rw [stt]
    clear sf stt
  · obtain ⟨W, hW⟩ : ∃ W, w.alloc (.cells #[.bool false, .int .i64 p, .int .i64 st, .int .i64 so, .slice A1 l1.length c1, .slice A2 l2.length c2] 26) = W := ⟨_, rfl⟩
    obtain ⟨g, hg⟩ : ∃ g, w.heap.size = g := ⟨_, rfl⟩
    have hBW : Below w.heap.size w W := by rw [← hW]; exact (Below.refl _ _).alloc (Nat.le_refl _) _
    have hblk : W.heap[g]? = some (.cells #[.bool false, .int .i64 p, .int .i64 st, .int .i64 so, .slice A1 l1.length c1, .slice A2 l2.length c2] 26 (0, 0)) := by rw [← hW, ← hg]; exact blk_new _ _
    rw [hW, hg]
    have k0 : W.cell? ⟨g, 0, none⟩ = some (.bool false) := by simp [World.cell?, hblk]
    have k1 : W.cell? ⟨g, 1, none⟩ = some (.int .i64 p) := by simp [World.cell?, hblk]
    have k2 : W.cell? ⟨g, 2, none⟩ = some (.int .i64 st) := by simp [World.cell?, hblk]
    have k3 : W.cell? ⟨g, 3, none⟩ = some (.int .i64 so) := by simp [World.cell?, hblk]
    have k4 : W.cell? ⟨g, 4, none⟩ = some (.slice A1 l1.length c1) := by simp [World.cell?, hblk]
    have k5 : W.cell? ⟨g, 5, none⟩ = some (.slice A2 l2.length c2) := by simp [World.cell?, hblk]
    have HLW := Lib.hid (HT.out.below hBW)
    have HRW1 := Lib.hid (Kd.C_below HR1.out hBW)
    have HRW2 := Lib.hid (Kd.C_below HR2.out hBW)
    have HBW := Lib.hid hBW; clear hBW
    have HG := Lib.hid hg; clear hg hblk hW
    have hd : Hid (Below W.heap.size W W.drew) := (Below.refl _ _).drew
    go_region_held3 (fun w' => w'.cell? ⟨g, 0, none⟩ = some (.bool false) ∧ w'.cell? ⟨g, 1, none⟩ = some (.int .i64 p) ∧ w'.cell? ⟨g, 2, none⟩ = some (.int .i64 st) ∧ w'.cell? ⟨g, 3, none⟩ = some (.int .i64 so) ∧ w'.cell? ⟨g, 4, none⟩ = some (.slice A1 l1.length c1) ∧ w'.cell? ⟨g, 5, none⟩ = some (.slice A2 l2.length c2) ∧ Hid (Below W.heap.size W w'))
      (first | exact ⟨k0, k1, k2, k3, k4, k5, hd⟩ | exact TS.step (by assumption) hb9.out | exact TS.step (by assumption) (below_alloc (Below.refl _ _) _) | assumption)
      (first
        | (go_at_call 14; (with_reducible refine (nums_three (B0 := B0) _ p st so _ H0.out ?_ ?_).mono ?_); (first | exact blk_new _ _ | exact ((hb9.out.block _ (by simp)).trans (blk_new _ _))); exact (TS.laid (by assumption) HLW.out); rintro e w' ⟨rfl, hb⟩; have hb9 := Lib.hid hb; clear hb)
        | (go_at_call 14; (with_reducible refine (nums_any (B0 := B0) A1 _ l1 _ hl1 H1.out ?_ ?_).mono ?_); exact (TS.reads (by assumption) HRW1.out); exact (TS.laid (by assumption) HLW.out); rintro e w' ⟨rfl, hb⟩; have hb9 := Lib.hid hb; clear hb)
        | (go_at_call 14; (with_reducible refine (nums_any (B0 := B0) A2 _ l2 _ hl2 H2.out ?_ ?_).mono ?_); exact (TS.reads (by assumption) HRW2.out); exact (TS.laid (by assumption) HLW.out); rintro e w' ⟨rfl, hb⟩; have hb9 := Lib.hid hb; clear hb))
    all_goals go_wp2
    all_goals go_ret
    all_goals exact ⟨congrArg (fun x => Ending.returned (Value.string x)) (text_ref false p st so l1 l2), HBW.out.trans ((TS.below (by assumption)).mono HBW.out.size)⟩
  · obtain ⟨W, hW⟩ : ∃ W, w.alloc (.cells #[.bool true, .int .i64 p, .int .i64 st, .int .i64 so, .slice A1 l1.length c1, .slice A2 l2.length c2] 26) = W := ⟨_, rfl⟩
    obtain ⟨g, hg⟩ : ∃ g, w.heap.size = g := ⟨_, rfl⟩
    have hBW : Below w.heap.size w W := by rw [← hW]; exact (Below.refl _ _).alloc (Nat.le_refl _) _
    have hblk : W.heap[g]? = some (.cells #[.bool true, .int .i64 p, .int .i64 st, .int .i64 so, .slice A1 l1.length c1, .slice A2 l2.length c2] 26 (0, 0)) := by rw [← hW, ← hg]; exact blk_new _ _
    rw [hW, hg]
    have k0 : W.cell? ⟨g, 0, none⟩ = some (.bool true) := by simp [World.cell?, hblk]
    have k1 : W.cell? ⟨g, 1, none⟩ = some (.int .i64 p) := by simp [World.cell?, hblk]
    have k2 : W.cell? ⟨g, 2, none⟩ = some (.int .i64 st) := by simp [World.cell?, hblk]
    have k3 : W.cell? ⟨g, 3, none⟩ = some (.int .i64 so) := by simp [World.cell?, hblk]
    have k4 : W.cell? ⟨g, 4, none⟩ = some (.slice A1 l1.length c1) := by simp [World.cell?, hblk]
    have k5 : W.cell? ⟨g, 5, none⟩ = some (.slice A2 l2.length c2) := by simp [World.cell?, hblk]
    have HLW := Lib.hid (HT.out.below hBW)
    have HRW1 := Lib.hid (Kd.C_below HR1.out hBW)
    have HRW2 := Lib.hid (Kd.C_below HR2.out hBW)
    have HBW := Lib.hid hBW; clear hBW
    have HG := Lib.hid hg; clear hg hblk hW
    have hd : Hid (Below W.heap.size W W.drew) := (Below.refl _ _).drew
    go_region_held3 (fun w' => w'.cell? ⟨g, 0, none⟩ = some (.bool true) ∧ w'.cell? ⟨g, 1, none⟩ = some (.int .i64 p) ∧ w'.cell? ⟨g, 2, none⟩ = some (.int .i64 st) ∧ w'.cell? ⟨g, 3, none⟩ = some (.int .i64 so) ∧ w'.cell? ⟨g, 4, none⟩ = some (.slice A1 l1.length c1) ∧ w'.cell? ⟨g, 5, none⟩ = some (.slice A2 l2.length c2) ∧ Hid (Below W.heap.size W w'))
      (first | exact ⟨k0, k1, k2, k3, k4, k5, hd⟩ | exact TS.step (by assumption) hb9.out | exact TS.step (by assumption) (below_alloc (Below.refl _ _) _) | assumption)
      (first
        | (go_at_call 14; (with_reducible refine (nums_three (B0 := B0) _ p st so _ H0.out ?_ ?_).mono ?_); (first | exact blk_new _ _ | exact ((hb9.out.block _ (by simp)).trans (blk_new _ _))); exact (TS.laid (by assumption) HLW.out); rintro e w' ⟨rfl, hb⟩; have hb9 := Lib.hid hb; clear hb)
        | (go_at_call 14; (with_reducible refine (nums_any (B0 := B0) A1 _ l1 _ hl1 H1.out ?_ ?_).mono ?_); exact (TS.reads (by assumption) HRW1.out); exact (TS.laid (by assumption) HLW.out); rintro e w' ⟨rfl, hb⟩; have hb9 := Lib.hid hb; clear hb)
        | (go_at_call 14; (with_reducible refine (nums_any (B0 := B0) A2 _ l2 _ hl2 H2.out ?_ ?_).mono ?_); exact (TS.reads (by assumption) HRW2.out); exact (TS.laid (by assumption) HLW.out); rintro e w' ⟨rfl, hb⟩; have hb9 := Lib.hid hb; clear hb))
    all_goals go_wp2
    all_goals go_ret
    all_goals exact ⟨congrArg (fun x => Ending.returned (Value.string x)) (text_ref true p st so l1 l2), HBW.out.trans ((TS.below (by assumption)).mono HBW.out.size)⟩
end Go.Proofs.YtmjflpffafnkdaaDoor
