/- A text read as a job, as the program does it, line by line. Conditions: see each theorem. -/
import Derived.Test.YtmjflpffafnkdaaDoorE
namespace Go.Proofs.YtmjflpffafnkdaaDoor
open Go.RowKit Go.Shelf
open Go.Proofs.YtmjflpffafnkdaaDoorW.PrintWords Go.Proofs.YtmjflpffafnkdaaDoorW.PrintLast Go.Proofs.YtmjflpffafnkdaaDoorW.PrintMore
open Rf
attribute [local go_sem] Oper.semAt_some
variable {B0 : Nat}

/-- A job's parts. -/
structure Jb where
  cl : Bool
  p : Int
  st : Int
  so : Int
  l1 : List Int
  l2 : List Int
def Jb.zero : Jb := ⟨false, 0, 0, 0, [], []⟩
def beqB (s t : ByteArray) : Bool := s.toList == t.toList
/-- One line read, by its number. -/
def readS (j : Jb) (n : Nat) (s : ByteArray) : Bool × Jb :=
  if n = 1 then (beqB s (lineB (modeB (beqB s (lineB (modeB true) []))) []), { j with cl := beqB s (lineB (modeB true) []) })
  else if n = 2 then (match numsOf s with
    | [a, b, c] => (beqB s (lineB limitsB [a, b, c]), { j with p := a, st := b, so := c })
    | _ => (false, j))
  else if n = 3 then (beqB s (lineB inputB (numsOf s)), { j with l1 := numsOf s })
  else if n = 4 then (beqB s (lineB picksB (numsOf s)), { j with l2 := numsOf s })
  else (false, j)
def JbAt (W : World) (g B : Nat) (j : Jb) : Prop := JobAt W g B j.cl j.p j.st j.so j.l1 j.l2

theorem numsOf_len (s : ByteArray) : (numsOf s).length ≤ s.size + 2 := by
  have h := fieldsB_len s
  have : (numsOf s).length ≤ (fieldsB s).length := by unfold numsOf wordsB; rw [List.length_map, List.length_drop]; omega
  omega

theorem read_any (g B : Nat) (n : Nat) (hn : 1 ≤ n) (hn2 : n ≤ 100000) (j : Jb) (s : ByteArray) (hs : s.size ≤ 25000) (w : World) (hJ : JbAt w g B j) (hg0 : B0 ≤ g) (hg : g < B) (hB : B ≤ w.heap.size) (hL : Laid B0 w) :
    Calls Tryd.prog 16 #[.pointer (some ⟨g, 0, none⟩), .int .i64 n, .string s] w fun e w' =>
      e = .returned (.bool (readS j n s).1) ∧ JbAt w' g B (readS j n s).2 ∧ w.grownBy w' (some g) := by
  have hnl := numsOf_len s
  unfold readS
  by_cases h1 : n = 1
  · subst h1; exact read_1 g B _ _ _ _ _ _ s (by omega) w hJ hg0 hg hB hL
  by_cases h2 : n = 2
  · subst h2
    rw [if_neg (by decide), if_pos rfl]
    have hlen : (numsOf s).length = 3 ∨ (numsOf s).length ≠ 3 := by omega
    rcases hlen with hlen | hlen
    · obtain ⟨a, b, c, habc⟩ : ∃ a b c, numsOf s = [a, b, c] := by
        match h : numsOf s, hlen with
        | [a, b, c], _ => exact ⟨a, b, c, rfl⟩
      have := read_2 g B j.cl j.p j.st j.so j.l1 j.l2 s a b c (by omega) habc w hJ hg0 hg hB hL
      rw [habc]
      exact this
    · have := read_2no g B j.cl j.p j.st j.so j.l1 j.l2 s (by omega) hlen w hJ hL
      split
      · rename_i a b c habc; rw [habc] at hlen; simp at hlen
      · exact this
  by_cases h3 : n = 3
  · subst h3; exact read_3 g B _ _ _ _ _ _ s (by omega) (by omega) w hJ hg0 hg hB hL
  by_cases h4 : n = 4
  · subst h4; exact read_4 g B _ _ _ _ _ _ s (by omega) (by omega) w hJ hg0 hg hB hL
  rw [if_neg h1, if_neg h2, if_neg h3, if_neg h4]
  exact read_other g B (n : Int) (by omega) (by omega) _ _ _ _ _ _ s (by omega) w hJ hL

/-- All lines, one by one, from a job and a number on: the job, or the number of the line that is wrong. -/
def loopS : Jb → Nat → List ByteArray → (Jb × Nat) ⊕ Nat
  | j, n, [] => .inl (j, n)
  | j, n, l :: ls => if (readS j (n + 1) l).1 = true then loopS (readS j (n + 1) l).2 (n + 1) ls else .inr (n + 1)
/-- What Read answers: the job, the number of the first line that is wrong, the code. -/
def readT (s : ByteArray) : Jb × Int × Int :=
  match loopS Jb.zero 0 (linesF (s.size + 1) s) with
  | .inr n => (Jb.zero, n, 6)
  | .inl (j, n) => if n < 4 then (Jb.zero, n + 1, 6) else (j, 0, 0)

/-- The job behind a part of the lines, each of which is right. -/
def jobAfter : Jb → Nat → List ByteArray → Jb
  | j, _, [] => j
  | j, n, l :: ls => jobAfter (readS j (n + 1) l).2 (n + 1) ls
def allRight : Jb → Nat → List ByteArray → Prop
  | _, _, [] => True
  | j, n, l :: ls => (readS j (n + 1) l).1 = true ∧ allRight (readS j (n + 1) l).2 (n + 1) ls
theorem jobAfter_snoc (j : Jb) (n : Nat) (pre : List ByteArray) (x : ByteArray) : jobAfter j n (pre ++ [x]) = (readS (jobAfter j n pre) (n + pre.length + 1) x).2 := by
  induction pre generalizing j n with
  | nil => rfl
  | cons y pre ih => simp only [List.cons_append, jobAfter, ih, List.length_cons]; rw [show n + 1 + pre.length + 1 = n + (pre.length + 1) + 1 by omega]
theorem allRight_snoc (j : Jb) (n : Nat) (pre : List ByteArray) (x : ByteArray) : allRight j n (pre ++ [x]) ↔ allRight j n pre ∧ (readS (jobAfter j n pre) (n + pre.length + 1) x).1 = true := by
  induction pre generalizing j n with
  | nil => simp [allRight, jobAfter]
  | cons y pre ih =>
    simp only [List.cons_append, allRight, jobAfter, ih, List.length_cons]
    rw [show n + 1 + pre.length + 1 = n + (pre.length + 1) + 1 by omega]
    constructor
    · rintro ⟨a, b, c⟩; exact ⟨⟨a, b⟩, c⟩
    · rintro ⟨⟨a, b⟩, c⟩; exact ⟨a, b, c⟩
theorem loopS_right (j : Jb) (n : Nat) (ls : List ByteArray) (h : allRight j n ls) : loopS j n ls = .inl (jobAfter j n ls, n + ls.length) := by
  induction ls generalizing j n with
  | nil => rfl
  | cons l ls ih =>
    obtain ⟨h1, h2⟩ := h
    simp only [loopS, h1, if_true, jobAfter, List.length_cons]
    rw [ih _ _ h2]; congr 2; omega
theorem loopS_wrong (j : Jb) (n : Nat) (pre : List ByteArray) (x : ByteArray) (rest : List ByteArray) (h : allRight j n pre) (hx : (readS (jobAfter j n pre) (n + pre.length + 1) x).1 = false) :
    loopS j n (pre ++ x :: rest) = .inr (n + pre.length + 1) := by
  induction pre generalizing j n with
  | nil =>
    have hx' : (readS j (n + 1) x).1 = false := hx
    simp [loopS, hx']
  | cons l pre ih =>
    obtain ⟨h1, h2⟩ := h
    simp only [List.cons_append, loopS, h1, if_true, List.length_cons]
    rw [ih _ _ h2 (by rw [show n + 1 + pre.length + 1 = n + (l :: pre).length + 1 by simp; omega]; exact hx)]
    congr 1; omega
theorem linesF_sizes (f : Nat) (s : ByteArray) : ∀ x ∈ linesF f s, x.size ≤ s.size := by
  induction f generalizing s with
  | zero => intro x hx; simp [linesF] at hx
  | succ f ih =>
    intro x hx
    unfold linesF at hx
    split at hx
    · simp at hx
    · split at hx
      · rcases List.mem_cons.1 hx with rfl | hx
        · rw [ByteArray.size_extract]; omega
        · have := ih _ x hx; rw [ByteArray.size_extract] at this; omega
      · obtain rfl : x = s := by simpa using hx
        exact Nat.le_refl _
theorem linesF_len (f : Nat) (s : ByteArray) : (linesF f s).length ≤ f := by
  induction f generalizing s with
  | zero => simp [linesF]
  | succ f ih =>
    unfold linesF
    split
    · simp
    · split
      · have := ih (s.extract (nlAt s + 1).toNat s.size); simp only [List.length_cons]; omega
      · simp
end Go.Proofs.YtmjflpffafnkdaaDoor
