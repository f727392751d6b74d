/- A loop over an iterator that keeps a state of its own: the iterator's contract, and the loop's rule. Nothing here speaks of a program. -/
import Derived.RangeFuncNested
import Derived.RangeFuncBound
import Derived.RangeFuncCalls
import Derived.RangeFuncLeaves
import Derived.RangeFuncWrites
import Derived.Shelf.Abstract
import Derived.Shelf.RegionOpen
import Derived.WalkKit
import Derived.OwnWalkIn
import Derived.TacticsInMore
import Derived.LoopNIn
import Derived.LoopIn
namespace Go.Proofs.YtmjflpffafnkdaaDoor.Rf
open Go Go.RowKit

/-- From W to W' the blocks of 'own' may have turned, and blocks are new; nothing else. -/
structure Steps (own : Nat → Prop) (W W' : World) : Prop where
  os : W'.os = W.os
  tape : W'.tape = W.tape
  output : W'.output = W.output
  size : W.heap.size ≤ W'.heap.size
  block : ∀ k, k < W.heap.size → ¬ own k → W'.heap[k]? = W.heap[k]?
theorem Steps.refl (own : Nat → Prop) (W : World) : Steps own W W := ⟨rfl, rfl, rfl, Nat.le_refl _, fun _ _ _ => rfl⟩
theorem Steps.trans {own : Nat → Prop} {A B C : World} (h : Steps own A B) (k : Steps own B C) : Steps own A C :=
  ⟨k.os.trans h.os, k.tape.trans h.tape, k.output.trans h.output, Nat.le_trans h.size k.size, fun i hi ho => (k.block i (Nat.lt_of_lt_of_le hi h.size) ho).trans (h.block i hi ho)⟩
theorem Steps.mono {own own' : Nat → Prop} {A B : World} (h : Steps own A B) (ho : ∀ k, own k → own' k) : Steps own' A B :=
  ⟨h.os, h.tape, h.output, h.size, fun i hi hn => h.block i hi (fun h' => hn (ho i h'))⟩
theorem Steps.of_below {own : Nat → Prop} {A B : World} (h : Below A.heap.size A B) : Steps own A B := ⟨h.os, h.tape, h.output, h.size, fun i hi _ => h.block i hi⟩
theorem Steps.of_grown {own : Nat → Prop} {A B : World} {g : Nat} (h : A.grownBy B (some g)) (hg : own g) : Steps own A B :=
  ⟨h.os, h.tape, h.output, h.size, fun i hi hn => h.block i hi (fun e => by injection e with e; subst e; exact hn hg)⟩
theorem Steps.drew (own : Nat → Prop) (W : World) : Steps own W W.drew := ⟨rfl, rfl, rfl, Nat.le_refl _, fun _ _ _ => rfl⟩
theorem Steps.setCell {own : Nat → Prop} {W : World} {p : Addr} (h : own p.block) (u : Value) : Steps own W (W.setCell p u) :=
  ⟨rfl, rfl, rfl, by simp [World.setCell], fun k _ hn => Below.heap_setCell W p u k (fun e => hn (e ▸ h))⟩
theorem Steps.alloc (own : Nat → Prop) (W : World) (o : Obj) : Steps own W (W.alloc o) :=
  Steps.of_below ((Below.refl _ W).alloc (Nat.le_refl _) o)
theorem Steps.putObj {own : Nat → Prop} {W : World} {l : Nat} (o : Obj) (h : own l) : Steps own W (W.putObj l o) :=
  ⟨rfl, rfl, rfl, by simp, fun k _ hn => World.putObj_heap_other (fun e => hn (e ▸ h))⟩
theorem Steps.below {own : Nat → Prop} {W W' : World} {B : Nat} (h : Steps own W W') (hB : B ≤ W.heap.size) (ho : ∀ k, own k → B ≤ k) : Below B W W' :=
  ⟨h.os, h.tape, h.output, h.size, fun k hk => h.block k (by omega) (fun h' => by have := ho k h'; omega)⟩

/-- The blocks of 'own' lie as they lay. -/
def Keeps (own : Nat → Prop) (W W' : World) : Prop := ∀ k, own k → W'.heap[k]? = W.heap[k]?
theorem Keeps.trans {own : Nat → Prop} {A B C : World} (h : Keeps own A B) (k : Keeps own B C) : Keeps own A C := fun i hi => (k i hi).trans (h i hi)

/-- THE ITERATOR's CONTRACT. 'own': what it reads or writes between two rounds, and the rounds keep. -/
def Iter {α : Type} (P : Program) (gf : Nat) (lb : Array Value) (encs : α → Array Value) (own : Nat → Prop) (S Sp : List α → Prop) (w : World) : Prop :=
  ∀ (l : Nat) (J Jx : List α → World → Prop) (W : World), Keeps own w W → w.heap.size ≤ W.heap.size →
    (∀ pre A B, J pre A → Steps own A B → J pre B) → (∀ pre A B, Jx pre A → Steps own A B → Jx pre B) →
    (∀ pre x W1, Sp (pre ++ [x]) → J pre W1 → YieldAt Fence.wide 0 P l (encs x) W1 fun e W' =>
      (e = .returned (.bool true) ∧ J (pre ++ [x]) W' ∧ Keeps own W1 W') ∨ (e = .returned (.bool false) ∧ Jx (pre ++ [x]) W' ∧ Keeps own W1 W')) →
    J [] W →
    Calls P gf (#[.func (.yield l) #[] #[]] ++ lb) W fun e W' => (∃ v, e = .returned v) ∧ ((∃ xs, S xs ∧ J xs W') ∨ (∃ pre, Sp pre ∧ Jx pre W'))

/-- How a round's body may end. 'keep': the iterator's blocks, the loop's record, the block for deferred calls. -/
def bodyEnd {α : Type} (keep : Nat → Prop) (I : List α → World → Prop) (Ix : Code → List α → World → Prop) (xs : List α) (W : World) : Exit → Act → World → Prop
  | .normal, _, W' => Keeps keep W W' ∧ I xs W'
  | .ret, _, W' => Keeps keep W W' ∧ Ix .ret xs W'
  | .exit id, _, W' => Keeps keep W W' ∧ Ix (.exit id) xs W'
  | _, _, _ => False

/-- THE LOOP. -/
theorem wpIn_iter {α : Type} {P : Program} {m : Nat} {g : Operand} {ps : Array Tmp} {assign body : Code} {Q : Exit → Act → World → Prop} {a : Act} {w : World}
    {gf : Nat} {lb : Array Value} (hg : a.eval g = .func (.func gf) #[] lb) (eg : ∀ args w, (callFunc gf args).run P w = .ok (.enter gf args) w)
    {encs : α → Array Value} {own : Nat → Prop} {S Sp : List α → Prop} (hit : Iter P gf lb encs own S Sp w) (howb : ∀ k, own k → k < w.heap.size) (hps : ∀ x, (encs x).size = ps.size)
    (I : List α → World → Prop) (Ix : Code → List α → World → Prop)
    (hI : ∀ pre A B, I pre A → Steps (fun k => own k ∨ k = w.heap.size ∨ k = w.heap.size + 1) A B → I pre B)
    (hIx : ∀ c pre A B, Ix c pre A → Steps (fun k => own k ∨ k = w.heap.size ∨ k = w.heap.size + 1) A B → Ix c pre B)
    (h0 : I [] w) (a₁ : α → Act)
    (hassign : ∀ (l : Nat) (x : α) (W : World) (K : Act → World → Prop), K (a₁ x) W →
      assign.wpIn (Fence.wide.inRound l) 0 P (Exit.then K (fun _ _ _ => False)) { tmps := (ps.zip (encs x)).foldl (fun t (p, v) => t.setIfInBounds p v) a.tmps, defers := [] } W)
    (hbody : ∀ (l : Nat) (pre : List α) (x : α) (W : World), Sp (pre ++ [x]) → w.heap.size + 2 ≤ W.heap.size → I pre W → body.wpIn (Fence.wide.inRound l) 0 P (bodyEnd (fun k => own k ∨ k = w.heap.size ∨ k = w.heap.size + 1) I Ix (pre ++ [x]) W) (a₁ x) W)
    (hdone : ∀ (xs : List α) (W : World), S xs → I xs W → w.heap.size + 2 ≤ W.heap.size → W.heap[w.heap.size]? = some (.deferred (some [])) → Q .normal { a with defers := { target := .collected w.heap.size, args := #[] } :: a.defers } W)
    (hstop : ∀ (c : Code) (pre : List α) (W : World), Sp pre → Ix c pre W → w.heap.size + 2 ≤ W.heap.size → W.heap[w.heap.size]? = some (.deferred (some [])) → c.wpIn Fence.wide m P Q { a with defers := { target := .collected w.heap.size, args := #[] } :: a.defers } W) :
    (Code.rangeFunc g ps assign body).wpIn Fence.wide m P Q a w := by
  refine wpIn_rangeFunc ?_
  intro fn hfn
  obtain ⟨rec, hrec⟩ : ∃ rec : LoopState → Option Code → Loop, rec = fun st pe => { state := st, pending := pe, fn, tmps := a.tmps, params := ps, assign, body, defers := w.heap.size } := ⟨_, rfl⟩
  obtain ⟨W1, hW1⟩ : ∃ W1, (w.alloc (.deferred (some []))).alloc (.loop (rec .ready none)) = W1 := ⟨_, rfl⟩
  have hs1 : W1.heap.size = w.heap.size + 2 := by rw [← hW1]; simp
  have hL1 : W1.heap[w.heap.size + 1]? = some (.loop (rec .ready none)) := by
    rw [← hW1]; have := World.alloc_heap_new (w.alloc (.deferred (some []))) (.loop (rec .ready none)); rwa [World.size_alloc] at this
  have hK1 : W1.heap[w.heap.size]? = some (.deferred (some [])) := by
    rw [← hW1]; exact (Below.heap_alloc _ _ _ (by simp)).trans (World.alloc_heap_new w _)
  have hst : Steps (fun k => own k ∨ k = w.heap.size ∨ k = w.heap.size + 1) w W1 := by
    rw [← hW1]; exact (Steps.alloc _ w _).trans (Steps.alloc _ _ _)
  have hbW : Below w.heap.size w W1 := by
    rw [← hW1]; exact ((Below.refl _ w).alloc (Nat.le_refl _) _).alloc (by simp) _
  refine ⟨w.heap.size + 1, [{ target := .collected w.heap.size, args := #[] }], W1, { target := .fn (.func gf) lb, args := #[.func (.yield (w.heap.size + 1)) #[] #[]] }, W1, gf,
    #[.func (.yield (w.heap.size + 1)) #[] #[]] ++ lb, W1, ?_, ?_, ?_, ?_, fun h => by simp [Fence.wide] at h, ?_⟩
  · rw [← hW1, hrec]; exact run_enterLoop_outer _ _ _ _ _
  · simp only [resolve, hg]
    simp [go_sem]
  · intro f' hf'; trivial
  · simp [invoke, go_sem, eg]
  · refine (callsIn_wide.2 (hit (w.heap.size + 1)
      (fun pre W => I pre W ∧ W.heap[w.heap.size + 1]? = some (.loop (rec .ready none)) ∧ W.heap[w.heap.size]? = some (.deferred (some [])) ∧ w.heap.size + 2 ≤ W.heap.size)
      (fun pre W => ∃ c, Ix c pre W ∧ W.heap[w.heap.size + 1]? = some (.loop (rec .done (some c))) ∧ W.heap[w.heap.size]? = some (.deferred (some [])) ∧ w.heap.size + 2 ≤ W.heap.size)
      W1 (fun k hk => hbW.block k (howb k hk)) (by omega) ?_ ?_ ?_ ⟨hI _ _ _ h0 hst, hL1, hK1, by omega⟩)).mono ?_
    · rintro pre A B ⟨hi, hl, hk, hs⟩ hab
      have hlo : ∀ k, own k → k < w.heap.size := howb
      exact ⟨hI _ _ _ hi (hab.mono fun k h => .inl h), (hab.block _ (Array.getElem?_eq_some_iff.1 hl).1 (fun h => by have := hlo _ h; omega)).trans hl,
        (hab.block _ (Array.getElem?_eq_some_iff.1 hk).1 (fun h => by have := hlo _ h; omega)).trans hk, Nat.le_trans hs hab.size⟩
    · rintro pre A B ⟨c, hi, hl, hk, hs⟩ hab
      have hlo : ∀ k, own k → k < w.heap.size := howb
      exact ⟨c, hIx _ _ _ _ hi (hab.mono fun k h => .inl h), (hab.block _ (Array.getElem?_eq_some_iff.1 hl).1 (fun h => by have := hlo _ h; omega)).trans hl,
        (hab.block _ (Array.getElem?_eq_some_iff.1 hk).1 (fun h => by have := hlo _ h; omega)).trans hk, Nat.le_trans hs hab.size⟩
    · rintro pre x W hsp ⟨hi, hl, hk, hs⟩
      have hlt : w.heap.size + 1 < W.heap.size := (Array.getElem?_eq_some_iff.1 hl).1
      have hy := run_yield (P := P) (args := encs x) hl (by rw [hrec]; exact hps x)
      rw [hrec] at hy
      refine ⟨fn, _, assign, body, hy, roundIn_of_wpIn trivial (hassign _ x W _ ⟨_, run_beginRound hl (by rw [hrec]), ?_⟩)⟩
      obtain ⟨W2, hW2⟩ : ∃ W2, W.putObj (w.heap.size + 1) (.loop { rec .ready none with state := .busy }) = W2 := ⟨_, rfl⟩
      have hl2 : W2.heap[w.heap.size + 1]? = some (.loop { rec .ready none with state := .busy }) := by rw [← hW2]; exact World.putObj_heap_same hlt
      have hk2 : W2.heap[w.heap.size]? = some (.deferred (some [])) := by rw [← hW2]; exact (World.putObj_heap_other (by omega)).trans hk
      have ho2 : Keeps own W W2 := fun k h => by rw [← hW2]; exact World.putObj_heap_other (by have := howb k h; omega)
      have hs2 : w.heap.size + 2 ≤ W2.heap.size := by rw [← hW2]; simpa using hs
      have hi2 : I pre W2 := by rw [← hW2]; exact hI _ _ _ hi (Steps.putObj _ (.inr (.inr rfl)))
      have hgoal := hbody (w.heap.size + 1) pre x W2 hsp hs2 hi2
      rw [hW2]
      refine wpIn_mono hgoal ?_
      have fin : ∀ (jump : Option Code) (W3 : World), Keeps (fun k => own k ∨ k = w.heap.size ∨ k = w.heap.size + 1) W2 W3 →
          (Instr.endRound (w.heap.size + 1) jump).run P W3 = .ok (.bool jump.isNone) (W3.putObj (w.heap.size + 1) (.loop (rec (if jump.isNone then .ready else .done) jump))) ∧
          (W3.putObj (w.heap.size + 1) (.loop (rec (if jump.isNone then .ready else .done) jump))).heap[w.heap.size + 1]? = some (.loop (rec (if jump.isNone then .ready else .done) jump)) ∧
          (W3.putObj (w.heap.size + 1) (.loop (rec (if jump.isNone then .ready else .done) jump))).heap[w.heap.size]? = some (.deferred (some [])) ∧
          w.heap.size + 2 ≤ (W3.putObj (w.heap.size + 1) (.loop (rec (if jump.isNone then .ready else .done) jump))).heap.size ∧
          Keeps own W (W3.putObj (w.heap.size + 1) (.loop (rec (if jump.isNone then .ready else .done) jump))) := fun jump W3 hk3 => by
        have hl3 := (hk3 _ (.inr (.inr rfl))).trans hl2
        have hlt3 := (Array.getElem?_eq_some_iff.1 hl3).1
        have he := run_endRound (P := P) jump hl3
        rw [hrec] at he ⊢
        exact ⟨he, World.putObj_heap_same hlt3, (World.putObj_heap_other (by omega)).trans ((hk3 _ (.inr (.inl rfl))).trans hk2), by simp; omega,
          fun k h => (World.putObj_heap_other (by have := howb k h; omega)).trans ((hk3 k (.inl h)).trans (ho2 k h))⟩
      rintro e a3 W3 hp
      cases e with
      | normal =>
        obtain ⟨hk3, hi3⟩ := hp
        obtain ⟨hr, hl4, hk4, hs4, ho4⟩ := fin none W3 hk3
        exact ⟨_, _, hr, .inl ⟨rfl, ⟨hI _ _ _ hi3 (Steps.putObj _ (.inr (.inr rfl))), hl4, hk4, hs4⟩, ho4⟩⟩
      | ret =>
        obtain ⟨hk3, hi3⟩ := hp
        obtain ⟨hr, hl4, hk4, hs4, ho4⟩ := fin (some .ret) W3 hk3
        exact ⟨_, _, hr, .inr ⟨rfl, ⟨.ret, hIx _ _ _ _ hi3 (Steps.putObj _ (.inr (.inr rfl))), hl4, hk4, hs4⟩, ho4⟩⟩
      | exit id =>
        obtain ⟨hk3, hi3⟩ := hp
        obtain ⟨hr, hl4, hk4, hs4, ho4⟩ := fin (some (.exit id)) W3 hk3
        exact ⟨_, _, hr, .inr ⟨rfl, ⟨.exit id, hIx _ _ _ _ hi3 (Steps.putObj _ (.inr (.inr rfl))), hl4, hk4, hs4⟩, ho4⟩⟩
      | goto t => exact hp.elim
      | panic ch => exact hp.elim
      | outgrown => exact hp.elim
    · rintro e W2 ⟨⟨v, rfl⟩, (⟨xs, hS, hi, hl, hk, hs⟩ | ⟨pre, hSp, c, hi, hl, hk, hs⟩)⟩
      · exact ⟨none, _, by have := run_endLoop (P := P) hl (by rw [hrec]; simp); rw [hrec] at this; exact this, hdone xs _ hS (hI _ _ _ hi (Steps.putObj _ (.inr (.inr rfl)))) (by simpa using hs) ((World.putObj_heap_other (by omega)).trans hk)⟩
      · exact ⟨some c, _, by have := run_endLoop (P := P) hl (by rw [hrec]; simp); rw [hrec] at this; exact this, hstop c pre _ hSp (hIx _ _ _ _ hi (Steps.putObj _ (.inr (.inr rfl)))) (by simpa using hs) ((World.putObj_heap_other (by omega)).trans hk)⟩
end Go.Proofs.YtmjflpffafnkdaaDoor.Rf
