/- A job as a text, as the program makes it. Conditions: see each theorem. -/
import Derived.Test.YtmjflpffafnkdaaDoorB
import Derived.Deep.RegionHeld3
namespace Go.Proofs.YtmjflpffafnkdaaDoor
open Go.RowKit
open Go.Proofs.YtmjflpffafnkdaaDoorW.PrintWords Go.Proofs.YtmjflpffafnkdaaDoorW.PrintLast Go.Proofs.YtmjflpffafnkdaaDoorW.PrintMore
variable {B0 : Nat}

def modeB (cl : Bool) : ByteArray := if cl then ⟨#[99, 108, 97, 105, 109, 101, 100]⟩ else ⟨#[117, 110, 99, 108, 97, 105, 109, 101, 100]⟩
def limitsB : ByteArray := ⟨#[108, 105, 109, 105, 116, 115]⟩
def inputB : ByteArray := ⟨#[105, 110, 112, 117, 116]⟩
def picksB : ByteArray := ⟨#[112, 105, 99, 107, 115]⟩
def textB (cl : Bool) (p st so : Int) (l1 l2 : List Int) : ByteArray :=
  lineB (modeB cl) [] ++ lineB limitsB [p, st, so] ++ lineB inputB l1 ++ lineB picksB l2

theorem mode_any (cl : Bool) (w : World) : Calls Tryd.prog 13 #[.bool cl] w fun e w' => e = .returned (.string (modeB cl)) ∧ w = w' := by
  cases cl
  all_goals
    go_enter Tryd.func13, Tryd.ntmps13
    go_wp2
    go_ret
    exact ⟨rfl, rfl⟩

theorem I64_nil : I64 [] := fun x hx => by simp at hx
theorem modeB_size (cl : Bool) : (modeB cl).size ≤ 9 := by cases cl <;> decide

theorem line_nil (word : ByteArray) (w : World) (hw : word.size ≤ 1000) (hL : Laid B0 w) :
    Calls Tryd.prog 12 #[.string word, .slice none 0 0] w fun e w' => e = .returned (.string (lineB word [])) ∧ Below w.heap.size w w' :=
  line_any word none 0 [] w (by simp) hw I64_nil (Kd.C_nil _ _) hL

theorem three_C (w : World) (g : Nat) (p st so : Int) (h : w.heap[g]? = some (.cells #[.int .i64 p, .int .i64 st, .int .i64 so] 3 (0, 0))) : Kd.C (Kd.int .i64) w (some ⟨g, 0, none⟩) [p, st, so].length [p, st, so] := by
  refine Kd.C_of_reads (d := (0 : Int)) ⟨rfl, show 3 ≤ 9223372036854775807 by decide, fun _ => ⟨_, rfl, fun j hj => ?_⟩⟩
  rw [add_plain]
  have hj' : j < 3 := hj
  rcases (show j = 0 ∨ j = 1 ∨ j = 2 by omega) with rfl | rfl | rfl <;> simp [World.cell?, h]

/-- What the region of Text reads, and that nothing that lay has turned. -/
def TS (cl : Bool) (p st so : Int) (v1 v2 : Value) (g : Nat) (W w' : World) : Prop :=
  w'.cell? ⟨g, 0, none⟩ = some (.bool cl) ∧ w'.cell? ⟨g, 1, none⟩ = some (.int .i64 p) ∧ w'.cell? ⟨g, 2, none⟩ = some (.int .i64 st) ∧ w'.cell? ⟨g, 3, none⟩ = some (.int .i64 so) ∧ w'.cell? ⟨g, 4, none⟩ = some v1 ∧ w'.cell? ⟨g, 5, none⟩ = some v2 ∧ Hid (Below W.heap.size W w')
section
variable {cl : Bool} {p st so : Int} {v1 v2 : Value} {g : Nat} {W w1 w2 : World}
theorem TS.step (h : TS cl p st so v1 v2 g W w1) (hb : Below w1.heap.size w1 w2) : TS cl p st so v1 v2 g W w2 :=
  ⟨pw_cell_below hb h.1, pw_cell_below hb h.2.1, pw_cell_below hb h.2.2.1, pw_cell_below hb h.2.2.2.1, pw_cell_below hb h.2.2.2.2.1, pw_cell_below hb h.2.2.2.2.2.1,
    (h.2.2.2.2.2.2.out.trans (hb.mono h.2.2.2.2.2.2.out.size) : Below _ _ _)⟩
theorem TS.below (h : TS cl p st so v1 v2 g W w1) : Below W.heap.size W w1 := h.2.2.2.2.2.2.out
theorem TS.laid (h : TS cl p st so v1 v2 g W w1) (hL : Laid B0 W) : Laid B0 w1 := hL.below h.below
theorem TS.reads {A : Option Addr} {l : List Int} (h : TS cl p st so v1 v2 g W w1) (hr : Kd.C (Kd.int .i64) W A l.length l) : Kd.C (Kd.int .i64) w1 A l.length l := Kd.C_below hr h.below
end

theorem lineB_size (s : ByteArray) (l : List Int) (hb : I64 l) : (lineB s l).size ≤ s.size + 22 * l.length + 1 := by
  have := addNums_size s l hb
  unfold lineB
  rw [ByteArray.size_append]
  have e : (⟨#[10]⟩ : ByteArray).size = 1 := rfl
  omega

theorem line_limits (g : Nat) (p st so : Int) (w : World) (hb : I64 [p, st, so]) (h : w.heap[g]? = some (.cells #[.int .i64 p, .int .i64 st, .int .i64 so] 3 (0, 0))) (hL : Laid B0 w) :
    Calls Tryd.prog 12 #[.string ⟨#[108, 105, 109, 105, 116, 115]⟩, .slice (some ⟨g, 0, none⟩) 3 3] w fun e w' => e = .returned (.string (lineB limitsB [p, st, so])) ∧ Below w.heap.size w w' :=
  line_any limitsB _ 3 [p, st, so] w (show 3 ≤ 30000 by decide) (by decide) hb (three_C _ _ _ _ _ h) hL
theorem line_input (A : Option Addr) (c : Nat) (l : List Int) (w : World) (hl : l.length ≤ 30000) (hb : I64 l) (hr : Kd.C (Kd.int .i64) w A l.length l) (hL : Laid B0 w) :
    Calls Tryd.prog 12 #[.string ⟨#[105, 110, 112, 117, 116]⟩, .slice A l.length c] w fun e w' => e = .returned (.string (lineB inputB l)) ∧ Below w.heap.size w w' :=
  line_any inputB A c l w hl (by decide) hb hr hL
theorem line_picks (A : Option Addr) (c : Nat) (l : List Int) (w : World) (hl : l.length ≤ 30000) (hb : I64 l) (hr : Kd.C (Kd.int .i64) w A l.length l) (hL : Laid B0 w) :
    Calls Tryd.prog 12 #[.string ⟨#[112, 105, 99, 107, 115]⟩, .slice A l.length c] w fun e w' => e = .returned (.string (lineB picksB l)) ∧ Below w.heap.size w w' :=
  line_any picksB A c l w hl (by decide) hb hr hL

set_option maxHeartbeats 4000000 in
theorem Text_any (cl : Bool) (p st so : Int) (A1 A2 : Option Addr) (c1 c2 : Nat) (l1 l2 : List Int) (w : World)
    (hb0 : I64 [p, st, so]) (hb1 : I64 l1) (hb2 : I64 l2) (hl1 : l1.length ≤ 30000) (hl2 : l2.length ≤ 30000)
    (hr1 : Kd.C (Kd.int .i64) w A1 l1.length l1) (hr2 : Kd.C (Kd.int .i64) w A2 l2.length l2) (hL : Laid B0 w) :
    Calls Tryd.prog 7 #[.agg #[.bool cl, .int .i64 p, .int .i64 st, .int .i64 so, .slice A1 l1.length c1, .slice A2 l2.length c2]] w fun e w' =>
      e = .returned (.string (textB cl p st so l1 l2)) ∧ Below w.heap.size w w' := by
  have s0 := lineB_size (modeB cl) [] I64_nil
  have s0' := modeB_size cl
  have s1 := lineB_size limitsB _ hb0
  have s1' : limitsB.size = 6 := rfl
  have s2 := lineB_size inputB _ hb1
  have s2' : inputB.size = 5 := rfl
  have s3 := lineB_size picksB _ hb2
  have s3' : picksB.size = 5 := rfl
  simp only [List.length_nil, List.length_cons] at s0 s1
  have S0 : (lineB (modeB cl) []).size ≤ 100 := by omega
  have S1 : (lineB limitsB [p, st, so]).size ≤ 100 := by omega
  have S2 : (lineB inputB l1).size ≤ 1000000 := by omega
  have S3 : (lineB picksB l2).size ≤ 1000000 := by omega
  clear s0 s0' s1 s1' s2 s2' s3 s3'
  have N1 : ¬ 9223372036854775807 < (lineB (modeB cl) []).size + (lineB limitsB [p, st, so]).size := by omega
  have N2 : ¬ 9223372036854775807 < (lineB (modeB cl) []).size + (lineB limitsB [p, st, so]).size + (lineB inputB l1).size := by omega
  have N3 : ¬ 9223372036854775807 < (lineB (modeB cl) []).size + (lineB limitsB [p, st, so]).size + (lineB inputB l1).size + (lineB picksB l2).size := by omega
  have H0 := Lib.hid hb0; clear hb0
  have H1 := Lib.hid hb1; clear hb1
  have H2 := Lib.hid hb2; clear hb2
  have HR1 := Lib.hid hr1; clear hr1
  have HR2 := Lib.hid hr2; clear hr2
  have HT := Lib.hid hL; clear hL
  go_enter Tryd.func7, Tryd.ntmps7
  go_wp2_with fail
  obtain ⟨W, hW⟩ : ∃ W, w.alloc (.cells #[.bool cl, .int .i64 p, .int .i64 st, .int .i64 so, .slice A1 l1.length c1, .slice A2 l2.length c2] 26) = W := ⟨_, rfl⟩
  obtain ⟨g, hg⟩ : ∃ g, w.heap.size = g := ⟨_, rfl⟩
  have hBW : Below w.heap.size w W := by rw [← hW]; exact (Below.refl _ _).alloc (Nat.le_refl _) _
  have hblk : W.heap[g]? = some (.cells #[.bool cl, .int .i64 p, .int .i64 st, .int .i64 so, .slice A1 l1.length c1, .slice A2 l2.length c2] 26 (0, 0)) := by rw [← hW, ← hg]; exact blk_new _ _
  rw [hW, hg]
  have k0 : W.cell? ⟨g, 0, none⟩ = some (.bool cl) := by simp [World.cell?, hblk]
  have k1 : W.cell? ⟨g, 1, none⟩ = some (.int .i64 p) := by simp [World.cell?, hblk]
  have k2 : W.cell? ⟨g, 2, none⟩ = some (.int .i64 st) := by simp [World.cell?, hblk]
  have k3 : W.cell? ⟨g, 3, none⟩ = some (.int .i64 so) := by simp [World.cell?, hblk]
  have k4 : W.cell? ⟨g, 4, none⟩ = some (.slice A1 l1.length c1) := by simp [World.cell?, hblk]
  have k5 : W.cell? ⟨g, 5, none⟩ = some (.slice A2 l2.length c2) := by simp [World.cell?, hblk]
  have HLW := Lib.hid (HT.out.below hBW)
  have HRW1 := Lib.hid (Kd.C_below HR1.out hBW)
  have HRW2 := Lib.hid (Kd.C_below HR2.out hBW)
  have HBW := Lib.hid hBW; clear hBW
  have HG := Lib.hid hg; clear hg hblk hW
  have hd : Hid (Below W.heap.size W W.drew) := (Below.refl _ _).drew
  go_region_held3 (fun w' => w'.cell? ⟨g, 0, none⟩ = some (.bool cl) ∧ w'.cell? ⟨g, 1, none⟩ = some (.int .i64 p) ∧ w'.cell? ⟨g, 2, none⟩ = some (.int .i64 st) ∧ w'.cell? ⟨g, 3, none⟩ = some (.int .i64 so) ∧ w'.cell? ⟨g, 4, none⟩ = some (.slice A1 l1.length c1) ∧ w'.cell? ⟨g, 5, none⟩ = some (.slice A2 l2.length c2) ∧ Hid (Below W.heap.size W w'))
    (first | exact ⟨k0, k1, k2, k3, k4, k5, hd⟩ | exact TS.step (by assumption) hb9.out | exact TS.step (by assumption) (below_alloc (Below.refl _ _) _) | assumption)
    (first
      | (go_at_call 13; (with_reducible refine (mode_any cl _).mono ?_); rintro e w' ⟨rfl, rfl⟩)
      | (go_at_call 12; (with_reducible refine (line_nil (B0 := B0) (modeB cl) _ ?_ ?_).mono ?_); exact (Nat.le_trans (modeB_size cl) (by decide)); exact (TS.laid (by assumption) HLW.out); rintro e w' ⟨rfl, hb⟩; have hb9 := Lib.hid hb; clear hb)
      | (go_at_call 12; (with_reducible refine (line_limits (B0 := B0) _ p st so _ H0.out ?_ ?_).mono ?_); (first | exact blk_new _ _ | exact ((hb9.out.block _ (by simp)).trans (blk_new _ _))); exact (TS.laid (by assumption) HLW.out); rintro e w' ⟨rfl, hb⟩; have hb9 := Lib.hid hb; clear hb)
      | (go_at_call 12; (with_reducible refine (line_input (B0 := B0) _ _ l1 _ hl1 H1.out ?_ ?_).mono ?_); exact (TS.reads (by assumption) HRW1.out); exact (TS.laid (by assumption) HLW.out); rintro e w' ⟨rfl, hb⟩; have hb9 := Lib.hid hb; clear hb)
      | (go_at_call 12; (with_reducible refine (line_picks (B0 := B0) _ _ l2 _ hl2 H2.out ?_ ?_).mono ?_); exact (TS.reads (by assumption) HRW2.out); exact (TS.laid (by assumption) HLW.out); rintro e w' ⟨rfl, hb⟩; have hb9 := Lib.hid hb; clear hb))
  all_goals go_wp2
  all_goals go_ret
  all_goals exact ⟨rfl, HBW.out.trans ((TS.below (by assumption)).mono HBW.out.size)⟩
end Go.Proofs.YtmjflpffafnkdaaDoor
