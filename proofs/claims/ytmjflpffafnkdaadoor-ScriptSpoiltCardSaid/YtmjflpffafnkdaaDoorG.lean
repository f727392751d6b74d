/- A text read as a job: the walk. Conditions: see the theorem. -/
import Derived.Test.YtmjflpffafnkdaaDoorF
namespace Go.Proofs.YtmjflpffafnkdaaDoor
open Go.RowKit Go.Shelf
open Go.Proofs.YtmjflpffafnkdaaDoorW.PrintWords Go.Proofs.YtmjflpffafnkdaaDoorW.PrintLast Go.Proofs.YtmjflpffafnkdaaDoorW.PrintMore
open Rf
attribute [local go_sem] Oper.semAt_some
variable {B0 : Nat}

def zeroCells : Array Value := #[.bool false, .int .i64 0, .int .i64 0, .int .i64 0, .slice none 0 0, .slice none 0 0]

/-- Between two rounds of Read. N: the heap's size when the call began. -/
structure RI (N : Nat) (w : World) (s : ByteArray) (pre : List ByteArray) (W : World) : Prop where
  r0 : W.heap[N]? = some (.cells zeroCells 26 (0, 0))
  r1 : W.heap[N + 1]? = some (.cells #[.int .i64 0] 3 (0, 0))
  r2 : W.heap[N + 2]? = some (.cells #[.int .i64 0] 29 (0, 0))
  job : JbAt W (N + 3) (N + 8) (jobAfter Jb.zero 0 pre)
  num : W.heap[N + 4]? = some (.cells #[.int .i64 pre.length] 3 (0, 0))
  right : allRight Jb.zero 0 pre
  below : Below N w W
/-- Where a round has left: the result's cells. -/
structure RX (N : Nat) (w : World) (s : ByteArray) (pre : List ByteArray) (W : World) : Prop where
  r0 : W.heap[N]? = some (.cells zeroCells 26 (0, 0))
  r1 : W.heap[N + 1]? = some (.cells #[.int .i64 pre.length] 3 (0, 0))
  r2 : W.heap[N + 2]? = some (.cells #[.int .i64 6] 29 (0, 0))
  wrong : ∀ rest, loopS Jb.zero 0 (pre ++ rest) = .inr pre.length
  below : Below N w W

theorem JbAt.steps {A B : World} {g N : Nat} {j : Jb} {own : Nat → Prop} (h : JbAt A g N j) (hs : Rf.Steps own A B) (hg : ¬ own g) (ho : ∀ k, own k → k < N) : JbAt B g N j := by
  obtain ⟨v1, v2, hb, h1, h2⟩ := h
  refine ⟨v1, v2, (hs.block g (Array.getElem?_eq_some_iff.1 hb).1 hg).trans hb, ?_, ?_⟩
  · exact Kd.R_mono (Kd.R_step (Kd.R_bound h1) (fun k hk hlt => hs.block k hlt (fun hok => by have := ho k hok; have := hk.2.1; omega))) (fun _ _ => trivial)
  · exact Kd.R_mono (Kd.R_step (Kd.R_bound h2) (fun k hk hlt => hs.block k hlt (fun hok => by have := ho k hok; have := hk.2.1; omega))) (fun _ _ => trivial)

theorem RI.steps {N : Nat} {w A B : World} {s : ByteArray} {pre : List ByteArray} {own : Nat → Prop} (h : RI N w s pre A) (hs : Rf.Steps own A B) (ho : ∀ k, own k → N + 5 ≤ k ∧ k < N + 8) : RI N w s pre B where
  r0 := (hs.block _ (Array.getElem?_eq_some_iff.1 h.r0).1 (fun h' => by have := ho _ h'; omega)).trans h.r0
  r1 := (hs.block _ (Array.getElem?_eq_some_iff.1 h.r1).1 (fun h' => by have := ho _ h'; omega)).trans h.r1
  r2 := (hs.block _ (Array.getElem?_eq_some_iff.1 h.r2).1 (fun h' => by have := ho _ h'; omega)).trans h.r2
  job := h.job.steps hs (fun h' => by have := ho _ h'; omega) (fun k h' => (ho k h').2)
  num := (hs.block _ (Array.getElem?_eq_some_iff.1 h.num).1 (fun h' => by have := ho _ h'; omega)).trans h.num
  right := h.right
  below := h.below.trans (hs.below (by have := (Array.getElem?_eq_some_iff.1 h.r0).1; omega) (fun k h' => by have := ho k h'; omega))
theorem RX.steps {N : Nat} {w A B : World} {s : ByteArray} {pre : List ByteArray} {own : Nat → Prop} (h : RX N w s pre A) (hs : Rf.Steps own A B) (ho : ∀ k, own k → N + 5 ≤ k ∧ k < N + 8) : RX N w s pre B where
  r0 := (hs.block _ (Array.getElem?_eq_some_iff.1 h.r0).1 (fun h' => by have := ho _ h'; omega)).trans h.r0
  r1 := (hs.block _ (Array.getElem?_eq_some_iff.1 h.r1).1 (fun h' => by have := ho _ h'; omega)).trans h.r1
  r2 := (hs.block _ (Array.getElem?_eq_some_iff.1 h.r2).1 (fun h' => by have := ho _ h'; omega)).trans h.r2
  wrong := h.wrong
  below := h.below.trans (hs.below (by have := (Array.getElem?_eq_some_iff.1 h.r0).1; omega) (fun k h' => by have := ho k h'; omega))

/-- The result's cells, written. -/
def fin (w : World) (N : Nat) (v0 v1 v2 v3 v4 v5 x y : Value) : World :=
  (((((((w.setCell ⟨N, 0, none⟩ v0).setCell ⟨N, 1, none⟩ v1).setCell ⟨N, 2, none⟩ v2).setCell ⟨N, 3, none⟩ v3).setCell ⟨N, 4, none⟩ v4).setCell ⟨N, 5, none⟩ v5).setCell ⟨N + 1, 0, none⟩ x).setCell ⟨N + 1 + 1, 0, none⟩ y
theorem fin_eq (w : World) (N : Nat) (v0 v1 v2 v3 v4 v5 x y : Value) : (((((((w.setCell ⟨N, 0, none⟩ v0).setCell ⟨N, 1, none⟩ v1).setCell ⟨N, 2, none⟩ v2).setCell ⟨N, 3, none⟩ v3).setCell ⟨N, 4, none⟩ v4).setCell ⟨N, 5, none⟩ v5).setCell ⟨N + 1, 0, none⟩ x).setCell ⟨N + 1 + 1, 0, none⟩ y = fin w N v0 v1 v2 v3 v4 v5 x y := by
  unfold fin; rfl
theorem drew_heap (w : World) : w.drew.heap = w.heap := rfl
theorem heap_set_ne (w : World) (p : Addr) (u : Value) (k : Nat) (h : k ≠ p.block) : (w.setCell p u).heap[k]? = w.heap[k]? := Below.heap_setCell w p u k h
theorem fin_facts (w : World) (N : Nat) (v0 v1 v2 v3 v4 v5 x y u0 u1 u2 u3 u4 u5 ux uy : Value) (e0 : w.heap[N]? = some (.cells #[u0, u1, u2, u3, u4, u5] 26 (0, 0)))
    (e1 : w.heap[N + 1]? = some (.cells #[ux] 3 (0, 0))) (e2 : w.heap[N + 1 + 1]? = some (.cells #[uy] 29 (0, 0))) :
    (fin w N v0 v1 v2 v3 v4 v5 x y).heap[N]? = some (.cells #[v0, v1, v2, v3, v4, v5] 26 (0, 0)) ∧ (fin w N v0 v1 v2 v3 v4 v5 x y).heap[N + 1]? = some (.cells #[x] 3 (0, 0)) ∧
    (fin w N v0 v1 v2 v3 v4 v5 x y).heap[N + 1 + 1]? = some (.cells #[y] 29 (0, 0)) ∧ Rf.Steps (fun k => N ≤ k ∧ k ≤ N + 2) w (fin w N v0 v1 v2 v3 v4 v5 x y) := by
  unfold fin
  have h0 := heap_set _ N 5 v5 _ _ (heap_set _ N 4 v4 _ _ (heap_set _ N 3 v3 _ _ (heap_set _ N 2 v2 _ _ (heap_set _ N 1 v1 _ _ (heap_set w N 0 v0 _ _ e0)))))
  refine ⟨?_, ?_, ?_, ?_⟩
  · rw [heap_set_ne _ _ _ _ (show N ≠ N + 1 + 1 by omega), heap_set_ne _ _ _ _ (show N ≠ N + 1 by omega), h0]; rfl
  · rw [heap_set_ne _ _ _ _ (show N + 1 ≠ N + 1 + 1 by omega)]
    have := heap_set _ (N + 1) 0 x _ _ (show (((((((w.setCell ⟨N, 0, none⟩ v0).setCell ⟨N, 1, none⟩ v1).setCell ⟨N, 2, none⟩ v2).setCell ⟨N, 3, none⟩ v3).setCell ⟨N, 4, none⟩ v4).setCell ⟨N, 5, none⟩ v5)).heap[N + 1]? = some (.cells #[ux] 3 (0, 0)) by
      rw [heap_set_ne _ _ _ _ (show N + 1 ≠ N by omega), heap_set_ne _ _ _ _ (show N + 1 ≠ N by omega), heap_set_ne _ _ _ _ (show N + 1 ≠ N by omega), heap_set_ne _ _ _ _ (show N + 1 ≠ N by omega), heap_set_ne _ _ _ _ (show N + 1 ≠ N by omega), heap_set_ne _ _ _ _ (show N + 1 ≠ N by omega), e1])
    rw [this]; rfl
  · have := heap_set _ (N + 1 + 1) 0 y _ _ (show ((((((((w.setCell ⟨N, 0, none⟩ v0).setCell ⟨N, 1, none⟩ v1).setCell ⟨N, 2, none⟩ v2).setCell ⟨N, 3, none⟩ v3).setCell ⟨N, 4, none⟩ v4).setCell ⟨N, 5, none⟩ v5)).setCell ⟨N + 1, 0, none⟩ x).heap[N + 1 + 1]? = some (.cells #[uy] 29 (0, 0)) by
      rw [heap_set_ne _ _ _ _ (show N + 1 + 1 ≠ N + 1 by omega), heap_set_ne _ _ _ _ (show N + 1 + 1 ≠ N by omega), heap_set_ne _ _ _ _ (show N + 1 + 1 ≠ N by omega), heap_set_ne _ _ _ _ (show N + 1 + 1 ≠ N by omega), heap_set_ne _ _ _ _ (show N + 1 + 1 ≠ N by omega), heap_set_ne _ _ _ _ (show N + 1 + 1 ≠ N by omega), heap_set_ne _ _ _ _ (show N + 1 + 1 ≠ N by omega), e2])
    rw [this]; rfl
  · have S : ∀ (W : World) (p : Addr) (u : Value), N ≤ p.block ∧ p.block ≤ N + 2 → Rf.Steps (fun k => N ≤ k ∧ k ≤ N + 2) W (W.setCell p u) := fun W p u h => Rf.Steps.setCell (own := fun k => N ≤ k ∧ k ≤ N + 2) h u
    exact (((((((S _ _ _ (by simp)).trans (S _ _ _ (by simp))).trans (S _ _ _ (by simp))).trans (S _ _ _ (by simp))).trans (S _ _ _ (by simp))).trans (S _ _ _ (by simp))).trans (S _ _ _ (by simp))).trans (S _ _ _ (by simp; omega))

theorem alloc_old (w : World) (o : Obj) (k : Nat) (h : k < w.heap.size) : (w.alloc o).heap[k]? = w.heap[k]? := Below.heap_alloc w o k h
theorem alloc_at (w : World) (o : Obj) (k : Nat) (h : k = w.heap.size) : (w.alloc o).heap[k]? = some o := by subst h; exact World.alloc_heap_new w o
theorem six_allocs (w : World) (o0 o1 o2 o3 o4 o5 : Obj) (N : Nat) (hN : w.heap.size = N) (W : World) (hW : (((((w.alloc o0).alloc o1).alloc o2).alloc o3).alloc o4).alloc o5 = W) :
    W.heap.size = N + 6 ∧ Below N w W ∧ W.heap[N]? = some o0 ∧ W.heap[N + 1]? = some o1 ∧ W.heap[N + 2]? = some o2 ∧ W.heap[N + 3]? = some o3 ∧ W.heap[N + 4]? = some o4 ∧ W.heap[N + 5]? = some o5 := by
  subst hN hW
  refine ⟨by simp, ?_, ?_, ?_, ?_, ?_, ?_, ?_⟩
  · exact ((((((Below.refl _ _).alloc (Nat.le_refl _) _).alloc (by simp) _).alloc (by simp <;> omega) _).alloc (by simp <;> omega) _).alloc (by simp <;> omega) _).alloc (by simp <;> omega) _
  · rw [alloc_old _ _ _ (by simp <;> omega), alloc_old _ _ _ (by simp <;> omega), alloc_old _ _ _ (by simp <;> omega), alloc_old _ _ _ (by simp <;> omega), alloc_old _ _ _ (by simp), alloc_at _ _ _ (by simp)]
  · rw [alloc_old _ _ _ (by simp <;> omega), alloc_old _ _ _ (by simp <;> omega), alloc_old _ _ _ (by simp <;> omega), alloc_old _ _ _ (by simp), alloc_at _ _ _ (by simp)]
  · rw [alloc_old _ _ _ (by simp <;> omega), alloc_old _ _ _ (by simp <;> omega), alloc_old _ _ _ (by simp), alloc_at _ _ _ (by simp)]
  · rw [alloc_old _ _ _ (by simp <;> omega), alloc_old _ _ _ (by simp), alloc_at _ _ _ (by simp)]
  · rw [alloc_old _ _ _ (by simp), alloc_at _ _ _ (by simp)]
  · rw [alloc_at _ _ _ (by simp)]

/-- The three results, read out of their cells. -/
theorem results_read (tmps : Array Value) (N : Nat) (W : World) (b : Bool) (i1 i2 i3 x y : Int) (v1 v2 : Value) (h2 : tmps.getD 2 undef = .pointer (some ⟨N, 0, none⟩)) (h3 : tmps.getD 3 undef = .pointer (some ⟨N + 1, 0, none⟩)) (h4 : tmps.getD 4 undef = .pointer (some ⟨N + 1 + 1, 0, none⟩))
    (e0 : W.heap[N]? = some (.cells #[.bool b, .int .i64 i1, .int .i64 i2, .int .i64 i3, v1, v2] 26 (0, 0))) (e1 : W.heap[N + 1]? = some (.cells #[.int .i64 x] 3 (0, 0))) (e2 : W.heap[N + 1 + 1]? = some (.cells #[.int .i64 y] 29 (0, 0))) :
    (results Tryd.f9 tmps).run Tryd.prog W = .ok (.tuple #[.agg #[.bool b, .int .i64 i1, .int .i64 i2, .int .i64 i3, v1, v2], .int .i64 x, .int .i64 y]) W := by
  have a0 : W.cell? ⟨N, 0, none⟩ = some (.bool b) := by simp [World.cell?, e0]
  have a1 : W.cell? ⟨N, 1, none⟩ = some (.int .i64 i1) := by simp [World.cell?, e0]
  have a2 : W.cell? ⟨N, 2, none⟩ = some (.int .i64 i2) := by simp [World.cell?, e0]
  have a3 : W.cell? ⟨N, 3, none⟩ = some (.int .i64 i3) := by simp [World.cell?, e0]
  have a4 : W.cell? ⟨N, 4, none⟩ = some v1 := by simp [World.cell?, e0]
  have a5 : W.cell? ⟨N, 5, none⟩ = some v2 := by simp [World.cell?, e0]
  have d1 : W.cell? ⟨N + 1, 0, none⟩ = some (.int .i64 x) := by simp [World.cell?, e1]
  have d2 : W.cell? ⟨N + 1 + 1, 0, none⟩ = some (.int .i64 y) := by simp [World.cell?, e2]
  have hh2 : tmps[2]?.getD undef = .pointer (some ⟨N, 0, none⟩) := by rw [← Array.getD_eq_getD_getElem?]; exact h2
  have hh3 : tmps[3]?.getD undef = .pointer (some ⟨N + 1, 0, none⟩) := by rw [← Array.getD_eq_getD_getElem?]; exact h3
  have hh4 : tmps[4]?.getD undef = .pointer (some ⟨N + 1 + 1, 0, none⟩) := by rw [← Array.getD_eq_getD_getElem?]; exact h4
  simp [results, Tryd.f9, go_sem, hh2, hh3, hh4, a0, a1, a2, a3, a4, a5, d1, d2]

/-- The end of Read: the marks taken, the results read. -/
theorem read_fin {tmps : Array Value} {N : Nat} {w WF : World} {s : ByteArray} {R : Ending → World → Prop} (j : Jb) (v1 v2 : Value) (x y : Int) (h2 : tmps.getD 2 undef = .pointer (some ⟨N, 0, none⟩)) (h3 : tmps.getD 3 undef = .pointer (some ⟨N + 1, 0, none⟩)) (h4 : tmps.getD 4 undef = .pointer (some ⟨N + 1 + 1, 0, none⟩))
    (e0 : WF.heap[N]? = some (.cells #[.bool j.cl, .int .i64 j.p, .int .i64 j.st, .int .i64 j.so, v1, v2] 26 (0, 0))) (e1 : WF.heap[N + 1]? = some (.cells #[.int .i64 x] 3 (0, 0))) (e2 : WF.heap[N + 1 + 1]? = some (.cells #[.int .i64 y] 29 (0, 0)))
    (hK : WF.heap[N + 6]? = some (.deferred (some []))) (hr1 : Kd.R (Kd.int .i64) 3 WF (N + 8) (fun _ => True) v1 j.l1) (hr2 : Kd.R (Kd.int .i64) 3 WF (N + 8) (fun _ => True) v2 j.l2) (hb : Below N w WF) (hN : w.heap.size = N)
    (hR : ∀ W, Kd.R (Kd.int .i64) 3 W N (fun _ => True) v1 j.l1 → Kd.R (Kd.int .i64) 3 W N (fun _ => True) v2 j.l2 → Below N w W → R (.returned (.tuple #[.agg #[.bool j.cl, .int .i64 j.p, .int .i64 j.st, .int .i64 j.so, v1, v2], .int .i64 x, .int .i64 y])) W) :
    bodyPostM Fence.wide 3 Tryd.prog Tryd.f9 R .ret { tmps := tmps, defers := [{ target := .collected (N + 6), args := #[] }] } WF := by
  have hst : Rf.Steps (fun k => k = N + 6) WF (WF.putObj (N + 6) (.deferred none)) := Rf.Steps.putObj (own := fun k => k = N + 6) _ rfl
  refine ⟨by simp, .inl ⟨_, _, rfl, run_takeDeferred hK, ?_⟩⟩
  refine ⟨_, results_read tmps N _ j.cl j.p j.st j.so x y v1 v2 h2 h3 h4 ((World.putObj_heap_other (by omega)).trans e0) ((World.putObj_heap_other (by omega)).trans e1) ((World.putObj_heap_other (by omega)).trans e2), ?_⟩
  have hmv : ∀ {v : Value} {l : List Int}, Kd.R (Kd.int .i64) 3 WF (N + 8) (fun _ => True) v l → Kd.R (Kd.int .i64) 3 (WF.putObj (N + 6) (.deferred none)) N (fun _ => True) v l := fun h =>
    Kd.R_lower (Kd.R_mono (Kd.R_step (Kd.R_bound h) (fun k hk hlt => hst.block k hlt (by have := hk.2.1; omega))) (fun _ _ => trivial)) (by omega)
  exact hR _ (hmv hr1) (hmv hr2) (hb.trans (hst.below (by have := hb.size; omega) (fun k hk => by omega)))

set_option maxRecDepth 100000 in
set_option maxHeartbeats 4000000 in
theorem Read_any (s : ByteArray) (hs : s.size ≤ 25000) (w : World) (hL : Laid B0 w) :
    Calls Tryd.prog 9 #[.string s] w fun e w' => ∃ v1 v2, e = .returned (.tuple #[.agg #[.bool (readT s).1.cl, .int .i64 (readT s).1.p, .int .i64 (readT s).1.st, .int .i64 (readT s).1.so, v1, v2], .int .i64 (readT s).2.1, .int .i64 (readT s).2.2]) ∧
      Kd.R (Kd.int .i64) 3 w' w.heap.size (fun _ => True) v1 (readT s).1.l1 ∧ Kd.R (Kd.int .i64) 3 w' w.heap.size (fun _ => True) v2 (readT s).1.l2 ∧ Below w.heap.size w w' := by
  have HT := Lib.hid hL; clear hL
  obtain ⟨N, hN⟩ : ∃ N, w.heap.size = N := ⟨_, rfl⟩
  have HN := Lib.hid hN
  have mixed : Tryd.prog.follows .mixedOrders = true := by kernel_rfl
  refine (callsIn_wide (n := 3)).1 ?_
  refine callsIn_of_wp_marks Tryd.func9 rfl trivial ?_ rfl
  simp only [Tryd.ntmps9, List.size_toArray, List.length_cons, List.length_nil, Nat.reduceAdd, Nat.reduceSub, Array.replicate_succ, Array.replicate_zero, List.push_toArray, List.append_toArray, List.nil_append, List.cons_append]
  gi_wp2_with (refine ⟨trivial, ?_⟩; gi_at_call 15; refine (callsIn_wide.2 (Lines_any _ _)).mono ?_; rintro e w' ⟨rfl, rfl⟩)
  obtain ⟨W0, hW0⟩ : ∃ W0, ((((((w.alloc (.cells zeroCells 26)).alloc (.cells #[.int .i64 0] 3)).alloc (.cells #[.int .i64 0] 29)).alloc (.cells zeroCells 26)).alloc (.cells #[.int .i64 0] 3)).alloc (.cells #[.string s] 9)) = W0 := ⟨_, rfl⟩
  obtain ⟨hsz, hb0, hh0, hh1, hh2, hh3, hh4, hh5⟩ := six_allocs w _ _ _ _ _ _ N hN W0 hW0
  rw [show ((((((w.alloc (.cells #[.bool false, .int .i64 0, .int .i64 0, .int .i64 0, .slice none 0 0, .slice none 0 0] 26)).alloc (.cells #[.int .i64 0] 3)).alloc (.cells #[.int .i64 0] 29)).alloc (.cells #[.bool false, .int .i64 0, .int .i64 0, .int .i64 0, .slice none 0 0, .slice none 0 0] 26)).alloc (.cells #[.int .i64 0] 3)).alloc (.cells #[.string s] 9)) = W0 from hW0]
  have hRI : RI N w s [] W0 := ⟨hh0, hh1, hh2, ⟨_, _, hh3, Kd.R_nil _ _ _ _ _, Kd.R_nil _ _ _ _ _⟩, hh4, trivial, hb0⟩
  have HRI := Lib.hid hRI; have HSZ := Lib.hid hsz
  have hit := lines_iter s (by omega) (N + 5) W0 hh5
  clear hW0 hb0 hh0 hh1 hh2 hh3 hh4 hh5 hRI hN
  refine wpIn_iter (own := fun k => k = N + 5) (gf := 20) (lb := #[.pointer (some ⟨N + 1 + 1 + 1 + 1 + 1, 0, none⟩)]) rfl (enters_of Tryd.func20 (by kernel_rfl) rfl) hit (fun k hk => by omega) (fun _ => rfl)
    (fun pre W => RI N w s pre W) (fun c pre W => c = .ret ∧ RX N w s pre W)
    (fun pre A B h hs => h.steps hs (fun k hk => by omega))
    (fun c pre A B h hs => ⟨h.1, h.2.steps hs (fun k hk => by omega)⟩)
    HRI.out
    (fun x => { tmps := #[.string s, undef, .pointer (some ⟨N, 0, none⟩), .pointer (some ⟨N + 1, 0, none⟩), .pointer (some ⟨N + 1 + 1, 0, none⟩), .pointer (some ⟨N + 1 + 1 + 1, 0, none⟩), .pointer (some ⟨N + 1 + 1 + 1 + 1, 0, none⟩), .string x, .string s, .func (.func 20) #[] #[.pointer (some ⟨N + 1 + 1 + 1 + 1 + 1, 0, none⟩)], .string x, undef, undef, undef, undef, undef, undef, undef, undef, undef, undef, undef, undef, undef, undef], defers := [] })
    ?assign ?body ?done ?stop
  case assign =>
    intro l x W K hK
    gi_wp2
    exact hK
  case body =>
    intro l pre x W hsp hsize hri
    clear hit hsz
    have hlen : pre.length + 1 ≤ s.size + 1 := by
      have h1 := hsp.length_le
      have h2 := linesF_len (s.size + 1) s
      rw [List.length_append] at h1
      simp only [List.length_cons, List.length_nil] at h1
      omega
    have hxs : x.size ≤ s.size := linesF_sizes _ _ x (hsp.subset (List.mem_append.2 (.inr (by simp))))
    have HRW := Lib.hid hri; clear hri hsp
    have c4 : W.cell? ⟨N + 1 + 1 + 1 + 1, 0, none⟩ = some (.int .i64 pre.length) := by simp [World.cell?, show W.heap[N + 1 + 1 + 1 + 1]? = _ from HRW.out.num]
    have f4 : W.frozen? ⟨N + 1 + 1 + 1 + 1, 0, none⟩ = false := by simp [World.frozen?, show W.heap[N + 1 + 1 + 1 + 1]? = _ from HRW.out.num]
    have hw1 : IntKind.i64.wrap ((pre.length : Int) + 1) = (pre.length : Int) + 1 := IntWalk.i64_in _ (by omega)
    gi_wp2_with fail
    refine ⟨trivial, ?_⟩
    obtain ⟨W1, hW1⟩ : ∃ W1, W.setCell ⟨N + 1 + 1 + 1 + 1, 0, none⟩ (.int .i64 ((pre.length : Int) + 1)) = W1 := ⟨_, rfl⟩
    rw [hW1]
    have hst1 : Rf.Steps (fun k => k = N + 4) W W1 := by rw [← hW1]; exact Rf.Steps.setCell (own := fun k => k = N + 4) (p := ⟨N + 1 + 1 + 1 + 1, 0, none⟩) rfl _
    have hn1 : W1.heap[N + 4]? = some (.cells #[.int .i64 ((pre.length : Int) + 1)] 3 (0, 0)) := by rw [← hW1]; exact heap_set W (N + 4) 0 _ _ _ HRW.out.num
    have hj1 : JbAt W1 (N + 3) (N + 8) (jobAfter Jb.zero 0 pre) := HRW.out.job.steps hst1 (by omega) (fun k hk => by omega)
    have hL1 : Laid B0 W1 := HT.out.below0 ((HRW.out.below.mono (by rw [HN.out.symm]; exact HT.out.1)).trans (hst1.below (Nat.le_trans HT.out.1 (by have := HRW.out.below.size; exact this)) (fun k hk => by have := HT.out.1; have := HN.out; omega)))
    have hgn : W1.heap.size = W.heap.size := by rw [← hW1]; simp [World.setCell]
    have hrd : Calls Tryd.prog 16 #[.pointer (some ⟨N + 1 + 1 + 1, 0, none⟩), .int .i64 ((pre.length : Int) + 1), .string x] W1 _ :=
      read_any (B0 := B0) (N + 3) (N + 8) (pre.length + 1) (by omega) (by omega) _ x (by omega) W1 hj1 (by have := HT.out.1; have := HN.out; omega) (by omega) (by have := HSZ.out; omega) hL1
    have HRD := Lib.hid hrd
    have HST1 := Lib.hid hst1; have HN1 := Lib.hid hn1; have HSZ1 := Lib.hid hgn; have HW1 := Lib.hid hW1
    clear hst1 hn1 hj1 hL1 hgn hW1 hrd
    refine ⟨rfl, ?_⟩
    refine (CallsIn.inRound l (callsIn_wide.2 HRD.out)).mono ?_
    rintro e w2 ⟨rfl, hj2, hg2⟩
    have HJ2 := Lib.hid hj2; have HG2 := Lib.hid hg2; clear hj2 hg2
    have hch : ∀ k, k < W.heap.size → k ≠ N + 4 → k ≠ N + 3 → w2.heap[k]? = W.heap[k]? := fun k h1 h2 h3 =>
      (HG2.out.block k (by rw [HSZ1.out]; exact h1) (fun e => h3 (by injection e))).trans (HST1.out.block k h1 h2)
    have hn2 : w2.heap[N + 4]? = some (.cells #[.int .i64 ((pre.length : Int) + 1)] 3 (0, 0)) := (HG2.out.block _ (Array.getElem?_eq_some_iff.1 HN1.out).1 (fun e => by injection e with e; omega)).trans HN1.out
    have hkp : Keeps (fun k => k = N + 5 ∨ k = W0.heap.size ∨ k = W0.heap.size + 1) W w2 := fun k hk => hch k (by have := HSZ.out; omega) (by have := HSZ.out; omega) (by have := HSZ.out; omega)
    have hbl2 : Below N w w2 := HRW.out.below.trans ((HST1.out.below (Nat.le_trans (by have := HN.out; omega) HRW.out.below.size) (fun k hk => by omega)).trans ((Below.refl N W1).grown HG2.out (by rw [HSZ1.out]; have := HSZ.out; omega) (fun k e => by injection e with e; omega)))
    have HCH := Lib.hid hch; have HN2 := Lib.hid hn2; have HKP := Lib.hid hkp; have HBL2 := Lib.hid hbl2
    clear hch hn2 hkp hbl2
    have hz0 : N + 4 < W.heap.size := by have := HSZ.out; omega
    cases hb : (readS (jobAfter Jb.zero 0 pre) (pre.length + 1) x).1 with
    | true =>
      have HBT := Lib.hid hb
      gi_wp2
      refine ⟨HKP.out, ⟨(HCH.out N (by omega) (by omega) (by omega)).trans HRW.out.r0, (HCH.out (N + 1) (by omega) (by omega) (by omega)).trans HRW.out.r1, (HCH.out (N + 2) (by omega) (by omega) (by omega)).trans HRW.out.r2, ?_, ?_, ?_, HBL2.out⟩⟩
      · rw [jobAfter_snoc, show 0 + pre.length + 1 = pre.length + 1 by omega]; exact HJ2.out
      · rw [HN2.out]; simp
      · rw [allRight_snoc, show 0 + pre.length + 1 = pre.length + 1 by omega]; exact ⟨HRW.out.right, HBT.out⟩
    | false =>
      have HBT := Lib.hid hb
      have e0 := (HCH.out N (by omega) (by omega) (by omega)).trans HRW.out.r0
      have e1 : w2.heap[N + 1]? = _ := (HCH.out (N + 1) (by omega) (by omega) (by omega)).trans HRW.out.r1
      have e2 : w2.heap[N + 1 + 1]? = _ := (HCH.out (N + 2) (by omega) (by omega) (by omega)).trans HRW.out.r2
      have e4 : w2.heap[N + 1 + 1 + 1 + 1]? = _ := HN2.out
      unfold zeroCells at e0
      have d4 : w2.cell? ⟨N + 1 + 1 + 1 + 1, 0, none⟩ = some (.int .i64 ((pre.length : Int) + 1)) := by simp [World.cell?, e4]
      have d1 : w2.cell? ⟨N + 1, 0, none⟩ = some (.int .i64 0) := by simp [World.cell?, e1]
      have d2 : w2.cell? ⟨N + 1 + 1, 0, none⟩ = some (.int .i64 0) := by simp [World.cell?, e2]
      have g1 : w2.frozen? ⟨N + 1, 0, none⟩ = false := by simp [World.frozen?, e1]
      have g2 : w2.frozen? ⟨N + 1 + 1, 0, none⟩ = false := by simp [World.frozen?, e2]
      have a0 : w2.cell? ⟨N, 0, none⟩ = some (.bool false) := by simp [World.cell?, e0]
      have a1 : w2.cell? ⟨N, 1, none⟩ = some (.int .i64 0) := by simp [World.cell?, e0]
      have a2 : w2.cell? ⟨N, 2, none⟩ = some (.int .i64 0) := by simp [World.cell?, e0]
      have a3 : w2.cell? ⟨N, 3, none⟩ = some (.int .i64 0) := by simp [World.cell?, e0]
      have a4 : w2.cell? ⟨N, 4, none⟩ = some (.slice none 0 0) := by simp [World.cell?, e0]
      have a5 : w2.cell? ⟨N, 5, none⟩ = some (.slice none 0 0) := by simp [World.cell?, e0]
      have g00 : w2.frozen? ⟨N, 0, none⟩ = false := by simp [World.frozen?, e0]
      have g01 : w2.frozen? ⟨N, 1, none⟩ = false := by simp [World.frozen?, e0]
      have g02 : w2.frozen? ⟨N, 2, none⟩ = false := by simp [World.frozen?, e0]
      have g03 : w2.frozen? ⟨N, 3, none⟩ = false := by simp [World.frozen?, e0]
      have g04 : w2.frozen? ⟨N, 4, none⟩ = false := by simp [World.frozen?, e0]
      have g05 : w2.frozen? ⟨N, 5, none⟩ = false := by simp [World.frozen?, e0]
      have E0 := Lib.hid e0; have E1 := Lib.hid e1; have E2 := Lib.hid e2
      clear e0 e1 e2 e4
      gi_wp2_with fail
      gi_region_with_o (fail)
      all_goals gi_wp2
      all_goals
        obtain ⟨F0, F1, F2, FS⟩ := fin_facts w2 N (.bool false) (.int .i64 0) (.int .i64 0) (.int .i64 0) (.slice none 0 0) (.slice none 0 0) (.int .i64 ((pre.length : Int) + 1)) (.int .i64 6) _ _ _ _ _ _ _ _ E0.out E1.out E2.out
        have FD := FS.trans (Rf.Steps.drew _ _)
        rw [fin_eq]
        generalize fin w2 N (.bool false) (.int .i64 0) (.int .i64 0) (.int .i64 0) (.slice none 0 0) (.slice none 0 0) (.int .i64 ((pre.length : Int) + 1)) (.int .i64 6) = WF at F0 F1 F2 FS FD ⊢
        refine ⟨?_, rfl, ?_⟩
        rotate_left
        · refine ⟨(by rw [drew_heap]; exact F0), ?_, (by rw [drew_heap]; exact F2), ?_, HBL2.out.trans (FD.below (by have := HBL2.out.size; have := HN.out; omega) (fun k hk => hk.1))⟩
          · rw [drew_heap, F1]; simp
          · intro rest
            rw [List.append_assoc, List.singleton_append, loopS_wrong _ _ _ _ _ HRW.out.right (by rw [show 0 + pre.length + 1 = pre.length + 1 by omega]; exact HBT.out)]
            simp
        · intro k hk
          have hz := HSZ.out
          have hk2 := HKP.out k hk
          have hlt : k < w2.heap.size := by have := HG2.out.size; have := HSZ1.out; omega
          exact (FD.block k hlt (by omega)).trans hk2
  case done =>
    intro xs W hxs hri hsize hK
    have hlen : xs.length ≤ s.size + 1 := by rw [hxs]; exact linesF_len _ _
    have hr0 := hri.r0
    have hr1 : W.heap[N + 1]? = _ := hri.r1
    have hr2 : W.heap[N + 1 + 1]? = _ := hri.r2
    have hr4 : W.heap[N + 1 + 1 + 1 + 1]? = _ := hri.num
    unfold zeroCells at hr0
    have d4 : W.cell? ⟨N + 1 + 1 + 1 + 1, 0, none⟩ = some (.int .i64 xs.length) := by simp [World.cell?, hr4]
    have d1 : W.cell? ⟨N + 1, 0, none⟩ = some (.int .i64 0) := by simp [World.cell?, hr1]
    have d2 : W.cell? ⟨N + 1 + 1, 0, none⟩ = some (.int .i64 0) := by simp [World.cell?, hr2]
    have g1 : W.frozen? ⟨N + 1, 0, none⟩ = false := by simp [World.frozen?, hr1]
    have g2 : W.frozen? ⟨N + 1 + 1, 0, none⟩ = false := by simp [World.frozen?, hr2]
    have a0 : W.cell? ⟨N, 0, none⟩ = some (.bool false) := by simp [World.cell?, hr0]
    have a1 : W.cell? ⟨N, 1, none⟩ = some (.int .i64 0) := by simp [World.cell?, hr0]
    have a2 : W.cell? ⟨N, 2, none⟩ = some (.int .i64 0) := by simp [World.cell?, hr0]
    have a3 : W.cell? ⟨N, 3, none⟩ = some (.int .i64 0) := by simp [World.cell?, hr0]
    have a4 : W.cell? ⟨N, 4, none⟩ = some (.slice none 0 0) := by simp [World.cell?, hr0]
    have a5 : W.cell? ⟨N, 5, none⟩ = some (.slice none 0 0) := by simp [World.cell?, hr0]
    have g00 : W.frozen? ⟨N, 0, none⟩ = false := by simp [World.frozen?, hr0]
    have g01 : W.frozen? ⟨N, 1, none⟩ = false := by simp [World.frozen?, hr0]
    have g02 : W.frozen? ⟨N, 2, none⟩ = false := by simp [World.frozen?, hr0]
    have g03 : W.frozen? ⟨N, 3, none⟩ = false := by simp [World.frozen?, hr0]
    have g04 : W.frozen? ⟨N, 4, none⟩ = false := by simp [World.frozen?, hr0]
    have g05 : W.frozen? ⟨N, 5, none⟩ = false := by simp [World.frozen?, hr0]
    obtain ⟨v1, v2, hj, hq1, hq2⟩ := hri.job
    obtain ⟨A1, c1, rfl⟩ := Kd.R_slice hq1
    obtain ⟨A2, c2, rfl⟩ := Kd.R_slice hq2
    have hj' : W.heap[N + 1 + 1 + 1]? = _ := hj
    have hK6 : W.heap[N + 6]? = some (.deferred (some [])) := by rw [← HSZ.out]; exact hK
    have HRW := Lib.hid hri; have HK := Lib.hid hK6; clear hK6; have E0 := Lib.hid hr0; have E1 := Lib.hid hr1; have E2 := Lib.hid hr2; have HXS := Lib.hid hxs
    have Q1 := Lib.hid hq1; have Q2 := Lib.hid hq2
    have b0 : W.cell? ⟨N + 1 + 1 + 1, 0, none⟩ = some (.bool (jobAfter Jb.zero 0 xs).cl) := by simp [World.cell?, hj']
    have b1 : W.cell? ⟨N + 1 + 1 + 1, 1, none⟩ = some (.int .i64 (jobAfter Jb.zero 0 xs).p) := by simp [World.cell?, hj']
    have b2 : W.cell? ⟨N + 1 + 1 + 1, 2, none⟩ = some (.int .i64 (jobAfter Jb.zero 0 xs).st) := by simp [World.cell?, hj']
    have b3 : W.cell? ⟨N + 1 + 1 + 1, 3, none⟩ = some (.int .i64 (jobAfter Jb.zero 0 xs).so) := by simp [World.cell?, hj']
    have b4 : W.cell? ⟨N + 1 + 1 + 1, 4, none⟩ = some (.slice A1 (jobAfter Jb.zero 0 xs).l1.length c1) := by simp [World.cell?, hj']
    have b5 : W.cell? ⟨N + 1 + 1 + 1, 5, none⟩ = some (.slice A2 (jobAfter Jb.zero 0 xs).l2.length c2) := by simp [World.cell?, hj']
    clear hr0 hr1 hr2 hr4 hri hj hj' hK hxs hq1 hq2 hit
    by_cases hlt : xs.length < 4
    · have hlt' : (xs.length : Int) < 4 := by omega
      have hw1 : IntKind.i64.wrap ((xs.length : Int) + 1) = (xs.length : Int) + 1 := IntWalk.i64_in _ (by omega)
      gi_wp2_with fail
      refine wpIn_mono ?_ NoPanic.imp
      gi_region_with_o (fail)
      all_goals refine NoPanic.normal ?_
      all_goals gi_wp2
      all_goals
        obtain ⟨F0, F1, F2, FS⟩ := fin_facts W N (.bool false) (.int .i64 0) (.int .i64 0) (.int .i64 0) (.slice none 0 0) (.slice none 0 0) (.int .i64 ((xs.length : Int) + 1)) (.int .i64 6) _ _ _ _ _ _ _ _ E0.out E1.out E2.out
        have FD := FS.trans (Rf.Steps.drew _ _)
        rw [fin_eq]
        generalize fin W N (.bool false) (.int .i64 0) (.int .i64 0) (.int .i64 0) (.slice none 0 0) (.slice none 0 0) (.int .i64 ((xs.length : Int) + 1)) (.int .i64 6) = WF at F0 F1 F2 FS FD ⊢
        have hread : readT s = (Jb.zero, (xs.length : Int) + 1, 6) := by
          unfold readT
          rw [← HXS.out, loopS_right _ _ _ HRW.out.right]
          show (if 0 + xs.length < 4 then _ else _) = _
          rw [if_pos (by omega), Nat.zero_add]
        rw [hread]
        refine read_fin (w := w) (s := s) Jb.zero (.slice none 0 0) (.slice none 0 0) ((xs.length : Int) + 1) 6 rfl rfl rfl F0 F1 F2 ((FD.block _ (Array.getElem?_eq_some_iff.1 HK.out).1 (by omega)).trans HK.out) (Kd.R_nil _ _ _ _ _) (Kd.R_nil _ _ _ _ _) (HRW.out.below.trans (FD.below (by have := HRW.out.below.size; have := HN.out; omega) (fun k hk => hk.1))) HN.out ?_
        intro W' q1 q2 q3
        rw [HN.out]
        exact ⟨_, _, rfl, q1, q2, q3⟩
    · have hlt' : ¬ (xs.length : Int) < 4 := by omega
      have hlt2 : decide (xs.length < 4) = false := by simpa using hlt
      gi_wp2
      obtain ⟨F0, F1, F2, FS⟩ := fin_facts W N (.bool (jobAfter Jb.zero 0 xs).cl) (.int .i64 (jobAfter Jb.zero 0 xs).p) (.int .i64 (jobAfter Jb.zero 0 xs).st) (.int .i64 (jobAfter Jb.zero 0 xs).so) (.slice A1 (jobAfter Jb.zero 0 xs).l1.length c1) (.slice A2 (jobAfter Jb.zero 0 xs).l2.length c2) (.int .i64 0) (.int .i64 0) _ _ _ _ _ _ _ _ E0.out E1.out E2.out
      rw [fin_eq]
      generalize fin W N (.bool (jobAfter Jb.zero 0 xs).cl) (.int .i64 (jobAfter Jb.zero 0 xs).p) (.int .i64 (jobAfter Jb.zero 0 xs).st) (.int .i64 (jobAfter Jb.zero 0 xs).so) (.slice A1 (jobAfter Jb.zero 0 xs).l1.length c1) (.slice A2 (jobAfter Jb.zero 0 xs).l2.length c2) (.int .i64 0) (.int .i64 0) = WF at F0 F1 F2 FS ⊢
      have hread : readT s = (jobAfter Jb.zero 0 xs, 0, 0) := by
        unfold readT
        rw [← HXS.out, loopS_right _ _ _ HRW.out.right]
        show (if 0 + xs.length < 4 then _ else _) = _
        rw [if_neg (by omega)]
      rw [hread]
      have hmv : ∀ {v : Value} {l : List Int}, Kd.R (Kd.int .i64) 3 W (N + 8) (fun _ => True) v l → Kd.R (Kd.int .i64) 3 WF (N + 8) (fun _ => True) v l := fun h =>
        Kd.R_mono (Kd.R_step (Kd.R_bound h) (fun k hk hlt => FS.block k hlt (by have := hk.2.1; omega))) (fun _ _ => trivial)
      refine read_fin (w := w) (s := s) (jobAfter Jb.zero 0 xs) _ _ 0 0 rfl rfl rfl F0 F1 F2 ((FS.block _ (Array.getElem?_eq_some_iff.1 HK.out).1 (by omega)).trans HK.out) (hmv Q1.out) (hmv Q2.out) (HRW.out.below.trans (FS.below (by have := HRW.out.below.size; have := HN.out; omega) (fun k hk => hk.1))) HN.out ?_
      intro W' q1 q2 q3
      rw [HN.out]
      exact ⟨_, _, rfl, q1, q2, q3⟩
  case stop =>
    rintro c pre W hsp ⟨rfl, hrx⟩ hsize hK
    obtain ⟨rest, hrest⟩ := hsp
    rw [hsz] at hK ⊢
    gi_wp2
    have hread : readT s = (Jb.zero, (pre.length : Int), 6) := by
      unfold readT
      rw [← hrest, hrx.wrong]
    rw [hread]
    refine read_fin (w := w) (s := s) Jb.zero (.slice none 0 0) (.slice none 0 0) (pre.length : Int) 6 rfl rfl rfl hrx.r0 hrx.r1 hrx.r2 hK (Kd.R_nil _ _ _ _ _) (Kd.R_nil _ _ _ _ _) hrx.below HN.out ?_
    intro W' q1 q2 q3
    rw [HN.out]
    exact ⟨_, _, rfl, q1, q2, q3⟩
end Go.Proofs.YtmjflpffafnkdaaDoor
