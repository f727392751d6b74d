/- A line read into a job, by its number, as the program does it. Conditions: see each theorem. -/
import Derived.Test.YtmjflpffafnkdaaDoorC
namespace Go.Proofs.YtmjflpffafnkdaaDoor
open Go.RowKit
open Go.Proofs.YtmjflpffafnkdaaDoorW.PrintWords Go.Proofs.YtmjflpffafnkdaaDoorW.PrintLast Go.Proofs.YtmjflpffafnkdaaDoorW.PrintMore
variable {B0 : Nat}

/-- A job in block g; its lists lie in blocks from B on. -/
def JobAt (W : World) (g B : Nat) (cl : Bool) (p st so : Int) (l1 l2 : List Int) : Prop :=
  ∃ v1 v2, W.heap[g]? = some (.cells #[.bool cl, .int .i64 p, .int .i64 st, .int .i64 so, v1, v2] 26 (0, 0)) ∧
    Kd.R (Kd.int .i64) 3 W B (fun _ => True) v1 l1 ∧ Kd.R (Kd.int .i64) 3 W B (fun _ => True) v2 l2

theorem R_form {α : Type} {d : Kd α} {e base : Nat} {ok : Nat → Prop} {w : World} {v : Value} {xs : List α} (h : d.R e w base ok v xs) (hn : 0 < xs.length) :
    ∃ b c, v = .slice (some ⟨b, 0, none⟩) xs.length c ∧ base ≤ b ∧ b < w.heap.size := by
  obtain ⟨inner, ho⟩ := Kd.R_own h
  obtain ⟨g, cap, e1, _⟩ := ho.form hn
  subst e1
  exact ⟨g, cap, rfl, own_base ho g (by simp [Value.ownBlock]), own_lt ho g (by simp [Value.ownBlock])⟩

theorem R_low {α : Type} {d : Kd α} {e base : Nat} {w : World} {v : Value} {xs : List α} (h : d.R e w base (fun _ => True) v xs) {p : Addr} (hp : p.block < base) (u : Value) : d.R e (w.setCell p u) base (fun _ => True) v xs :=
  Kd.R_mono (Kd.R_far (Kd.R_bound h) (fun k hk => by have := hk.2.1; omega) u) (fun _ _ => trivial)

theorem R_grown_low {α : Type} {d : Kd α} {e base g : Nat} {w w1 : World} {v : Value} {xs : List α} (h : d.R e w base (fun _ => True) v xs) (hg : w.grownBy w1 (some g)) (hp : g < base) : d.R e w1 base (fun _ => True) v xs :=
  Kd.R_mono (Kd.R_grown (Kd.R_bound h) hg (fun k hk e => by have := hk.2.1; injection e with e; omega)) (fun _ _ => trivial)

theorem heap_set (w : World) (g o : Nat) (u : Value) (cs : Array Value) (t : TypeId) (h : w.heap[g]? = some (.cells cs t (0, 0))) : (w.setCell ⟨g, o, none⟩ u).heap[g]? = some (.cells (cs.setIfInBounds o u) t (0, 0)) := by
  simp [World.setCell, Array.getElem?_modify, h]

theorem grown_set (w : World) (g o : Nat) (u : Value) : w.grownBy (w.setCell ⟨g, o, none⟩ u) (some g) :=
  ⟨rfl, rfl, rfl, by simp [World.setCell], fun k _ hk => Below.heap_setCell w ⟨g, o, none⟩ u k (fun e => hk (by rw [e]))⟩

set_option maxHeartbeats 800000 in
theorem read_1 (g B : Nat) (cl : Bool) (p st so : Int) (l1 l2 : List Int) (s : ByteArray) (hs : s.size ≤ 100000) (w : World) (hJ : JobAt w g B cl p st so l1 l2) (hg0 : B0 ≤ g) (hg : g < B) (hB : B ≤ w.heap.size) (hL : Laid B0 w) :
    Calls Tryd.prog 16 #[.pointer (some ⟨g, 0, none⟩), .int .i64 1, .string s] w fun e w' =>
      e = .returned (.bool (s.toList == (lineB (modeB (s.toList == (lineB (modeB true) []).toList)) []).toList)) ∧
      JobAt w' g B (s.toList == (lineB (modeB true) []).toList) p st so l1 l2 ∧ w.grownBy w' (some g) := by
  have HT := Lib.hid hL; clear hL
  obtain ⟨v1, v2, hb, hr1, hr2⟩ := hJ
  have HB := Lib.hid hb; have HR1 := Lib.hid hr1; have HR2 := Lib.hid hr2; clear hb hr1 hr2
  go_enter Tryd.func16, Tryd.ntmps16
  go_wp2_with fail
  refine (numbers_any s hs _ HT.out).mono ?_
  rintro e w1 ⟨vl, rfl, _, hb1⟩
  have HB1 := Lib.hid hb1; clear hb1
  go_wp2_with fail
  refine (mode_any true _).mono ?_
  rintro e w' ⟨rfl, rfl⟩
  go_wp2_with fail
  refine (line_nil (modeB true) _ (by decide) (HT.out.below HB1.out)).mono ?_
  rintro e w2 ⟨rfl, hb2⟩
  have hbw2 : Below w.heap.size w w2 := HB1.out.trans (hb2.mono HB1.out.size)
  have HB2 := Lib.hid hbw2; clear hbw2 hb2
  have hblk : w2.heap[g]? = some (.cells #[.bool cl, .int .i64 p, .int .i64 st, .int .i64 so, v1, v2] 26 (0, 0)) := (HB2.out.block g (by omega)).trans HB.out
  obtain ⟨b, hbb⟩ : ∃ b, (s.toList == (lineB (modeB true) []).toList) = b := ⟨_, rfl⟩
  have HBLK := Lib.hid hblk; clear hblk
  have hc0 : w2.cell? ⟨g, 0, none⟩ = some (.bool cl) := by simp [World.cell?, HBLK.out]
  have hf0 : w2.frozen? ⟨g, 0, none⟩ = false := by simp [World.frozen?, HBLK.out]
  have hgn : w2.grownBy (w2.setCell ⟨g, 0, none⟩ (.bool b)) (some g) := grown_set _ _ _ _
  have hblk3 := heap_set w2 g 0 (.bool b) _ _ HBLK.out
  have hc3 : (w2.setCell ⟨g, 0, none⟩ (.bool b)).cell? ⟨g, 0, none⟩ = some (.bool b) := by simp [World.cell?, hblk3]
  have HGN := Lib.hid hgn; have HBLK3 := Lib.hid hblk3; clear hgn hblk3
  go_wp2_with fail
  refine (mode_any b _).mono ?_
  rintro e w' ⟨rfl, rfl⟩
  have hls : Laid B0 (w2.setCell ⟨g, 0, none⟩ (.bool b)) := (HT.out.below HB2.out).setCell hg0 _
  go_wp2_with fail
  refine (line_nil (modeB b) _ (Nat.le_trans (modeB_size b) (by decide)) hls).mono ?_
  rintro e w4 ⟨rfl, hb4⟩
  have HB4 := Lib.hid hb4; clear hb4
  have HBB := Lib.hid hbb
  go_wp2
  go_ret
  have hg3 : w.grownBy w4 (some g) := by
    have h1 : w.grownBy w2 (some g) := grown_of_below HB2.out _
    have h2 : w2.grownBy w4 (some g) := HGN.out.trans (grown_of_below HB4.out _)
    exact h1.trans h2
  rw [HBB.out]
  exact ⟨rfl, ⟨v1, v2, (HB4.out.block g (by have := (Array.getElem?_eq_some_iff.1 HBLK3.out).1; omega)).trans HBLK3.out, R_grown_low HR1.out hg3 hg, R_grown_low HR2.out hg3 hg⟩, hg3⟩

theorem line_lim (A : Option Addr) (cc : Nat) (a b c : Int) (w : World) (hb : I64 [a, b, c]) (hr : Kd.C (Kd.int .i64) w A [a, b, c].length [a, b, c]) (hL : Laid B0 w) :
    Calls Tryd.prog 12 #[.string ⟨#[108, 105, 109, 105, 116, 115]⟩, .slice A 3 cc] w fun e w' => e = .returned (.string (lineB limitsB [a, b, c])) ∧ Below w.heap.size w w' :=
  line_any limitsB A cc [a, b, c] w (show 3 ≤ 30000 by decide) (by decide) hb hr hL
theorem numsOf_I64 (s : ByteArray) : I64 (numsOf s) := by
  intro x hx
  obtain ⟨b, _, rfl⟩ := List.mem_map.1 hx
  exact atoiV_bd _
theorem grown_drew {w w1 : World} {row : Option Nat} (h : w.grownBy w1 row) : w.grownBy w1.drew row := h.trans (grown_of_below (Below.refl _ _).drew row)
theorem Laid.drew {w : World} (h : Laid B0 w) : Laid B0 w.drew := h.below ((Below.refl _ _).drew)

/-- What the other lines' cases leave: the job anew, blocks behind the heap. -/
theorem read_end {w w1 : World} {g B : Nat} {cl : Bool} {p st so : Int} {l1 l2 : List Int} (hJ : JobAt w g B cl p st so l1 l2) (hb : Below w.heap.size w w1) : JobAt w1 g B cl p st so l1 l2 ∧ w.grownBy w1 (some g) := by
  obtain ⟨v1, v2, h, h1, h2⟩ := hJ
  exact ⟨⟨v1, v2, (hb.block g (Array.getElem?_eq_some_iff.1 h).1).trans h, Kd.R_below h1 hb, Kd.R_below h2 hb⟩, grown_of_below hb _⟩

set_option maxHeartbeats 800000 in
theorem read_other (g B : Nat) (n : Int) (hn : 5 ≤ n) (hn2 : n ≤ 100000) (cl : Bool) (p st so : Int) (l1 l2 : List Int) (s : ByteArray) (hs : s.size ≤ 100000) (w : World) (hJ : JobAt w g B cl p st so l1 l2) (hL : Laid B0 w) :
    Calls Tryd.prog 16 #[.pointer (some ⟨g, 0, none⟩), .int .i64 n, .string s] w fun e w' =>
      e = .returned (.bool false) ∧ JobAt w' g B cl p st so l1 l2 ∧ w.grownBy w' (some g) := by
  have HT := Lib.hid hL; clear hL
  have HJ := Lib.hid hJ; clear hJ
  have t1 : (n == 1) = false := by rw [beq_eq_false_iff_ne]; omega
  have t2 : (n == 2) = false := by rw [beq_eq_false_iff_ne]; omega
  have t3 : (n == 3) = false := by rw [beq_eq_false_iff_ne]; omega
  have t4 : (n == 4) = false := by rw [beq_eq_false_iff_ne]; omega
  go_enter Tryd.func16, Tryd.ntmps16
  go_wp2_with fail
  refine (numbers_any s hs _ HT.out).mono ?_
  rintro e w1 ⟨vl, rfl, _, hb1⟩
  have HB1 := Lib.hid hb1; clear hb1
  go_wp2
  go_ret
  exact ⟨rfl, read_end HJ.out HB1.out⟩

set_option maxHeartbeats 800000 in
theorem read_2no (g B : Nat) (cl : Bool) (p st so : Int) (l1 l2 : List Int) (s : ByteArray) (hs : s.size ≤ 100000) (hl : (numsOf s).length ≠ 3) (w : World) (hJ : JobAt w g B cl p st so l1 l2) (hL : Laid B0 w) :
    Calls Tryd.prog 16 #[.pointer (some ⟨g, 0, none⟩), .int .i64 2, .string s] w fun e w' =>
      e = .returned (.bool false) ∧ JobAt w' g B cl p st so l1 l2 ∧ w.grownBy w' (some g) := by
  have HT := Lib.hid hL; clear hL
  have HJ := Lib.hid hJ; clear hJ
  have t3 : (((numsOf s).length : Int) == 3) = false := by rw [beq_eq_false_iff_ne]; omega
  have t4 : (((numsOf s).length : Int) != 3) = true := by rw [bne_iff_ne]; omega
  clear hl
  go_enter Tryd.func16, Tryd.ntmps16
  go_wp2_with fail
  refine (numbers_any s hs _ HT.out).mono ?_
  rintro e w1 ⟨vl, rfl, hr, hb1⟩
  obtain ⟨A, c, rfl⟩ := Kd.R_slice hr
  have HB1 := Lib.hid hb1; clear hb1 hr
  go_wp2
  go_ret
  exact ⟨rfl, read_end HJ.out HB1.out⟩

set_option maxHeartbeats 1600000 in
theorem read_2 (g B : Nat) (cl : Bool) (p st so : Int) (l1 l2 : List Int) (s : ByteArray) (a b c : Int) (hs : s.size ≤ 100000) (hl : numsOf s = [a, b, c]) (w : World) (hJ : JobAt w g B cl p st so l1 l2) (hg0 : B0 ≤ g) (hg : g < B) (hB : B ≤ w.heap.size) (hL : Laid B0 w) :
    Calls Tryd.prog 16 #[.pointer (some ⟨g, 0, none⟩), .int .i64 2, .string s] w fun e w' =>
      e = .returned (.bool (s.toList == (lineB limitsB [a, b, c]).toList)) ∧ JobAt w' g B cl a b c l1 l2 ∧ w.grownBy w' (some g) := by
  have HT := Lib.hid hL; clear hL
  have HL := Lib.hid hl; clear hl
  obtain ⟨v1, v2, hb, hr1, hr2⟩ := hJ
  have HB := Lib.hid hb; have HR1 := Lib.hid hr1; have HR2 := Lib.hid hr2; clear hb hr1 hr2
  go_enter Tryd.func16, Tryd.ntmps16
  go_wp2_with fail
  refine (numbers_any s hs _ HT.out).mono ?_
  rintro e w1 ⟨vl, rfl, hr, hb1⟩
  rw [HL.out] at hr
  obtain ⟨bl, cc, rfl, _, _⟩ := R_form hr (show 0 < 3 by decide)
  have HB1 := Lib.hid hb1; clear hb1
  have k0 : w1.cell? ⟨bl, 0, none⟩ = some (.int .i64 a) := (Kd.R_cell 0 hr 0 (by decide) (show (0 : Int) < 3 by decide)).1
  have k1 : w1.cell? ⟨bl, 1, none⟩ = some (.int .i64 b) := (Kd.R_cell 0 hr 1 (by decide) (show (1 : Int) < 3 by decide)).1
  have k2 : w1.cell? ⟨bl, 2, none⟩ = some (.int .i64 c) := (Kd.R_cell 0 hr 2 (by decide) (show (2 : Int) < 3 by decide)).1
  have HC := Lib.hid hr; clear hr
  have hblk : w1.heap[g]? = some (.cells #[.bool cl, .int .i64 p, .int .i64 st, .int .i64 so, v1, v2] 26 (0, 0)) := (HB1.out.block g (by omega)).trans HB.out
  have HBLK := Lib.hid hblk; clear hblk
  have f1 : w1.frozen? ⟨g, 1, none⟩ = false := by simp [World.frozen?, HBLK.out]
  have f2 : w1.frozen? ⟨g, 2, none⟩ = false := by simp [World.frozen?, HBLK.out]
  have f3 : w1.frozen? ⟨g, 3, none⟩ = false := by simp [World.frozen?, HBLK.out]
  have c1 : w1.cell? ⟨g, 1, none⟩ = some (.int .i64 p) := by simp [World.cell?, HBLK.out]
  have c2 : w1.cell? ⟨g, 2, none⟩ = some (.int .i64 st) := by simp [World.cell?, HBLK.out]
  have c3 : w1.cell? ⟨g, 3, none⟩ = some (.int .i64 so) := by simp [World.cell?, HBLK.out]
  go_wp2_with fail
  go_region
  go_wp2_with fail
  have hi := numsOf_I64 s
  rw [HL.out] at hi
  have h3 := heap_set _ g 3 (.int .i64 c) _ _ (heap_set _ g 2 (.int .i64 b) _ _ (heap_set w1 g 1 (.int .i64 a) _ _ HBLK.out))
  have g3 := ((grown_set w1 g 1 (.int .i64 a)).trans (grown_set _ g 2 (.int .i64 b))).trans (grown_set _ g 3 (.int .i64 c))
  obtain ⟨W3, hW3⟩ : ∃ W3, (((w1.setCell ⟨g, 1, none⟩ (.int .i64 a)).setCell ⟨g, 2, none⟩ (.int .i64 b)).setCell ⟨g, 3, none⟩ (.int .i64 c)) = W3 := ⟨_, rfl⟩
  rw [hW3] at h3 g3 ⊢
  have HW3 := Lib.hid hW3; clear hW3
  have hgn : w.grownBy W3.drew (some g) := (grown_of_below HB1.out _).trans (grown_drew g3)
  have hr3 := R_grown_low HC.out (grown_drew g3) (by omega)
  refine (line_lim _ cc a b c _ hi (Kd.R_reads' hr3).2.2 (HT.out.grown hgn hg0)).mono ?_
  rintro e w4 ⟨rfl, hb4⟩
  have HB4 := Lib.hid hb4; have HI := Lib.hid hi; have H3 := Lib.hid h3; have HGN := Lib.hid hgn; clear hb4 hi h3 g3 hgn hr3
  go_wp2
  go_ret
  have hg4 : w.grownBy w4 (some g) := HGN.out.trans (grown_of_below HB4.out _)
  exact ⟨rfl, ⟨v1, v2, (HB4.out.block g (by have := (Array.getElem?_eq_some_iff.1 H3.out).1; exact this)).trans H3.out, R_grown_low HR1.out hg4 hg, R_grown_low HR2.out hg4 hg⟩, hg4⟩

set_option maxHeartbeats 1600000 in
theorem read_3 (g B : Nat) (cl : Bool) (p st so : Int) (l1 l2 : List Int) (s : ByteArray) (hs : s.size ≤ 100000) (hl : (numsOf s).length ≤ 30000) (w : World) (hJ : JobAt w g B cl p st so l1 l2) (hg0 : B0 ≤ g) (hg : g < B) (hB : B ≤ w.heap.size) (hL : Laid B0 w) :
    Calls Tryd.prog 16 #[.pointer (some ⟨g, 0, none⟩), .int .i64 3, .string s] w fun e w' =>
      e = .returned (.bool (s.toList == (lineB inputB (numsOf s)).toList)) ∧ JobAt w' g B cl p st so (numsOf s) l2 ∧ w.grownBy w' (some g) := by
  have HT := Lib.hid hL; clear hL
  obtain ⟨v1, v2, hb, hr1, hr2⟩ := hJ
  have HB := Lib.hid hb; have HR1 := Lib.hid hr1; have HR2 := Lib.hid hr2; clear hb hr1 hr2
  go_enter Tryd.func16, Tryd.ntmps16
  go_wp2_with fail
  refine (numbers_any s hs _ HT.out).mono ?_
  rintro e w1 ⟨vl, rfl, hr, hb1⟩
  obtain ⟨A, cc, rfl⟩ := Kd.R_slice hr
  have HB1 := Lib.hid hb1; clear hb1
  have HC := Lib.hid hr; clear hr
  have hblk : w1.heap[g]? = some (.cells #[.bool cl, .int .i64 p, .int .i64 st, .int .i64 so, v1, v2] 26 (0, 0)) := (HB1.out.block g (by omega)).trans HB.out
  have HBLK := Lib.hid hblk; clear hblk
  have f1 : w1.frozen? ⟨g, 4, none⟩ = false := by simp [World.frozen?, HBLK.out]
  have c1 : w1.cell? ⟨g, 4, none⟩ = some v1 := by simp [World.cell?, HBLK.out]
  go_wp2_with fail
  have h3 := heap_set w1 g 4 (.slice A (numsOf s).length cc) _ _ HBLK.out
  have g3 := grown_set w1 g 4 (.slice A (numsOf s).length cc)
  obtain ⟨W3, hW3⟩ : ∃ W3, (w1.setCell ⟨g, 4, none⟩ (.slice A (numsOf s).length cc)) = W3 := ⟨_, rfl⟩
  rw [hW3] at h3 g3 ⊢
  have HW3 := Lib.hid hW3; clear hW3
  have hgn : w.grownBy W3 (some g) := (grown_of_below HB1.out _).trans g3
  have hr3 := R_grown_low HC.out g3 (by omega)
  refine (line_input A cc (numsOf s) _ hl (numsOf_I64 s) (Kd.R_reads' hr3).2.2 (HT.out.grown hgn hg0)).mono ?_
  rintro e w4 ⟨rfl, hb4⟩
  have HB4 := Lib.hid hb4; have H3 := Lib.hid h3; have HGN := Lib.hid hgn; have HR3 := Lib.hid hr3; clear hb4 h3 g3 hgn hr3
  go_wp2
  go_ret
  have hg4 : w.grownBy w4 (some g) := HGN.out.trans (grown_of_below HB4.out _)
  exact ⟨rfl, ⟨_, v2, (HB4.out.block g (by have := (Array.getElem?_eq_some_iff.1 H3.out).1; exact this)).trans H3.out, Kd.R_lower (Kd.R_below HR3.out HB4.out) hB, R_grown_low HR2.out hg4 hg⟩, hg4⟩

set_option maxHeartbeats 1600000 in
theorem read_4 (g B : Nat) (cl : Bool) (p st so : Int) (l1 l2 : List Int) (s : ByteArray) (hs : s.size ≤ 100000) (hl : (numsOf s).length ≤ 30000) (w : World) (hJ : JobAt w g B cl p st so l1 l2) (hg0 : B0 ≤ g) (hg : g < B) (hB : B ≤ w.heap.size) (hL : Laid B0 w) :
    Calls Tryd.prog 16 #[.pointer (some ⟨g, 0, none⟩), .int .i64 4, .string s] w fun e w' =>
      e = .returned (.bool (s.toList == (lineB picksB (numsOf s)).toList)) ∧ JobAt w' g B cl p st so l1 (numsOf s) ∧ w.grownBy w' (some g) := by
  have HT := Lib.hid hL; clear hL
  obtain ⟨v1, v2, hb, hr1, hr2⟩ := hJ
  have HB := Lib.hid hb; have HR1 := Lib.hid hr1; have HR2 := Lib.hid hr2; clear hb hr1 hr2
  go_enter Tryd.func16, Tryd.ntmps16
  go_wp2_with fail
  refine (numbers_any s hs _ HT.out).mono ?_
  rintro e w1 ⟨vl, rfl, hr, hb1⟩
  obtain ⟨A, cc, rfl⟩ := Kd.R_slice hr
  have HB1 := Lib.hid hb1; clear hb1
  have HC := Lib.hid hr; clear hr
  have hblk : w1.heap[g]? = some (.cells #[.bool cl, .int .i64 p, .int .i64 st, .int .i64 so, v1, v2] 26 (0, 0)) := (HB1.out.block g (by omega)).trans HB.out
  have HBLK := Lib.hid hblk; clear hblk
  have f1 : w1.frozen? ⟨g, 5, none⟩ = false := by simp [World.frozen?, HBLK.out]
  have c1 : w1.cell? ⟨g, 5, none⟩ = some v2 := by simp [World.cell?, HBLK.out]
  go_wp2_with fail
  have h3 := heap_set w1 g 5 (.slice A (numsOf s).length cc) _ _ HBLK.out
  have g3 := grown_set w1 g 5 (.slice A (numsOf s).length cc)
  obtain ⟨W3, hW3⟩ : ∃ W3, (w1.setCell ⟨g, 5, none⟩ (.slice A (numsOf s).length cc)) = W3 := ⟨_, rfl⟩
  rw [hW3] at h3 g3 ⊢
  have HW3 := Lib.hid hW3; clear hW3
  have hgn : w.grownBy W3 (some g) := (grown_of_below HB1.out _).trans g3
  have hr3 := R_grown_low HC.out g3 (by omega)
  refine (line_picks A cc (numsOf s) _ hl (numsOf_I64 s) (Kd.R_reads' hr3).2.2 (HT.out.grown hgn hg0)).mono ?_
  rintro e w4 ⟨rfl, hb4⟩
  have HB4 := Lib.hid hb4; have H3 := Lib.hid h3; have HGN := Lib.hid hgn; have HR3 := Lib.hid hr3; clear hb4 h3 g3 hgn hr3
  go_wp2
  go_ret
  have hg4 : w.grownBy w4 (some g) := HGN.out.trans (grown_of_below HB4.out _)
  exact ⟨rfl, ⟨v1, _, (HB4.out.block g (by have := (Array.getElem?_eq_some_iff.1 H3.out).1; exact this)).trans H3.out, R_grown_low HR1.out hg4 hg, Kd.R_lower (Kd.R_below HR3.out HB4.out) hB⟩, hg4⟩
end Go.Proofs.YtmjflpffafnkdaaDoor
