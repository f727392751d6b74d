/- The program's text of a job reads back as the job, and only it does: the plain law. Conditions: see each theorem. -/
import Derived.Test.YtmjflpffafnkdaaDoorT
namespace Go.Proofs.YtmjflpffafnkdaaDoor
open Go.RowKit

def LN (l : List UInt8) : List ByteArray := (spn l).1.map (fun l => mk l ++ nlB) ++ tailB (spn l).2
theorem linesF_LN (t : ByteArray) : linesF (t.size + 1) t = LN (L t) := linesF_spn _ t (by omega)
theorem LN_cut (a rest : List UInt8) (h : ∀ c ∈ a, c ≠ 10) : LN (a ++ 10 :: rest) = (mk a ++ nlB) :: LN rest := by
  unfold LN; rw [spn_cut a rest h]; rfl
theorem plain_no10 (c : UInt8) (h : plainB c) : c ≠ 10 := by
  rintro rfl
  have h2 : Lib.isSpaceR ((10 : UInt8).toNat) = false := h.2
  revert h2; decide
theorem join_no10 (l : List Int) : ∀ c ∈ joinL (l.map Lib.itoa), c ≠ 10 := by
  intro c hc
  unfold joinL at hc
  obtain ⟨p, hp, hc⟩ := List.mem_flatMap.1 hc
  obtain ⟨n, _, rfl⟩ := List.mem_map.1 hp
  rcases List.mem_cons.1 hc with rfl | hc
  · decide
  · exact plain_no10 c ((itoa_plain n).2 c hc)
theorem LN_line (w : ByteArray) (l : List Int) (hw : ∀ c ∈ L w, c ≠ 10) (rest : List UInt8) : LN (L (lineB w l) ++ rest) = lineB w l :: LN rest := by
  have e : L (lineB w l) ++ rest = (L w ++ joinL (l.map Lib.itoa)) ++ 10 :: rest := by rw [L_lineB]; simp
  rw [e, LN_cut _ _ (fun c hc => by
    rcases List.mem_append.1 hc with h | h
    · exact hw c h
    · exact join_no10 l c h)]
  congr 1
  apply ext_L
  rw [L_lineB, L_app, L_mk]; rfl
theorem LN_nil : LN [] = [] := rfl
theorem no10_mode (cl : Bool) : ∀ c ∈ L (modeB cl), c ≠ 10 := by cases cl <;> decide
theorem no10_limits : ∀ c ∈ L limitsB, c ≠ 10 := by decide
theorem no10_input : ∀ c ∈ L inputB, c ≠ 10 := by decide
theorem no10_picks : ∀ c ∈ L picksB, c ≠ 10 := by decide
theorem L_textB (cl : Bool) (p st so : Int) (l1 l2 : List Int) : L (textB cl p st so l1 l2) = L (lineB (modeB cl) []) ++ (L (lineB limitsB [p, st, so]) ++ (L (lineB inputB l1) ++ (L (lineB picksB l2) ++ []))) := by
  unfold textB; simp only [L_app, List.append_assoc, List.append_nil]
theorem text_lines (cl : Bool) (p st so : Int) (l1 l2 : List Int) : LN (L (textB cl p st so l1 l2)) = [lineB (modeB cl) [], lineB limitsB [p, st, so], lineB inputB l1, lineB picksB l2] := by
  rw [L_textB, LN_line _ _ (no10_mode cl), LN_line _ _ no10_limits, LN_line _ _ no10_input, LN_line _ _ no10_picks, LN_nil]
theorem beqB_refl (s : ByteArray) : beqB s s = true := beqB_iff.2 rfl
theorem mode_line (cl : Bool) : beqB (lineB (modeB cl) []) (lineB (modeB true) []) = cl := by
  cases cl
  · exact beqB_false (by decide)
  · exact beqB_refl _
theorem rs1 (j : Jb) (cl : Bool) : readS j 1 (lineB (modeB cl) []) = (true, { j with cl := cl }) := by
  show ((beqB _ (lineB (modeB (beqB _ _)) [])), { j with cl := beqB _ _ }) = _
  rw [mode_line, beqB_refl]
theorem rs2 (j : Jb) (p st so : Int) (h : I64 [p, st, so]) : readS j 2 (lineB limitsB [p, st, so]) = (true, { j with p := p, st := st, so := so }) := by
  unfold readS
  rw [if_neg (by decide), if_pos rfl, numsOf_line _ _ plain_limits h]
  simp only [beqB_refl]
theorem rs3 (j : Jb) (l : List Int) (h : I64 l) : readS j 3 (lineB inputB l) = (true, { j with l1 := l }) := by
  unfold readS
  rw [if_neg (by decide), if_neg (by decide), if_pos rfl, numsOf_line _ _ plain_input h, beqB_refl]
theorem rs4 (j : Jb) (l : List Int) (h : I64 l) : readS j 4 (lineB picksB l) = (true, { j with l2 := l }) := by
  unfold readS
  rw [if_neg (by decide), if_neg (by decide), if_neg (by decide), if_pos rfl, numsOf_line _ _ plain_picks h, beqB_refl]
/-- What was written reads back. -/
theorem read_text (cl : Bool) (p st so : Int) (l1 l2 : List Int) (h0 : I64 [p, st, so]) (h1 : I64 l1) (h2 : I64 l2) : readT (textB cl p st so l1 l2) = (⟨cl, p, st, so, l1, l2⟩, 0, 0) := by
  rw [readT_fin, linesF_LN, text_lines]
  unfold loopS; rw [rs1]; simp only [if_true]
  unfold loopS; rw [rs2 _ _ _ _ h0]; simp only [if_true]
  unfold loopS; rw [rs3 _ _ h1]; simp only [if_true]
  unfold loopS; rw [rs4 _ _ h2]; simp only [if_true]
  rfl
/-- A text is its lines, one behind the other. -/
theorem LN_flat (l : List UInt8) : (LN l).flatMap L = l := by
  have h : ∀ l : List UInt8, ((spn l).1.flatMap fun p => p ++ [10]) ++ (spn l).2 = l := by
    intro l
    induction l with
    | nil => rfl
    | cons c r ih =>
      rw [spn_cons]
      split
      · rename_i hc; subst hc
        simp only [List.flatMap_cons, List.nil_append, List.cons_append]
        rw [ih]
      · split
        · rename_i p ps hp
          rw [hp] at ih
          simp only [List.flatMap_cons, List.cons_append, List.append_assoc] at ih ⊢
          rw [ih]
        · rename_i hp
          rw [hp] at ih
          simp only [List.flatMap_nil, List.nil_append] at ih ⊢
          rw [ih]
  have h2 := h l
  unfold LN
  rw [List.flatMap_append]
  have e1 : ((spn l).1.map (fun l => mk l ++ nlB)).flatMap L = (spn l).1.flatMap fun p => p ++ [10] := by
    rw [List.flatMap_map]
    congr 1
  have e2 : (tailB (spn l).2).flatMap L = (spn l).2 := by
    unfold tailB
    split
    · rename_i h; rw [h]; rfl
    · simp
  rw [e1, e2, h2]
theorem right1 (j : Jb) (s : ByteArray) (h : (readS j 1 s).1 = true) : s = lineB (modeB (readS j 1 s).2.cl) [] := beqB_iff.1 h
theorem right2 (j : Jb) (s : ByteArray) (h : (readS j 2 s).1 = true) : s = lineB limitsB [(readS j 2 s).2.p, (readS j 2 s).2.st, (readS j 2 s).2.so] ∧ (readS j 2 s).2.cl = j.cl := by
  unfold readS at h ⊢
  rw [if_neg (by decide), if_pos rfl] at h ⊢
  split at h
  · exact ⟨beqB_iff.1 h, rfl⟩
  · simp at h
theorem right3 (j : Jb) (s : ByteArray) (h : (readS j 3 s).1 = true) : s = lineB inputB (readS j 3 s).2.l1 ∧ (readS j 3 s).2 = { j with l1 := (readS j 3 s).2.l1 } := by
  unfold readS at h ⊢
  rw [if_neg (by decide), if_neg (by decide), if_pos rfl] at h ⊢
  exact ⟨beqB_iff.1 h, rfl⟩
theorem right4 (j : Jb) (s : ByteArray) (h : (readS j 4 s).1 = true) : s = lineB picksB (readS j 4 s).2.l2 ∧ (readS j 4 s).2 = { j with l2 := (readS j 4 s).2.l2 } := by
  unfold readS at h ⊢
  rw [if_neg (by decide), if_neg (by decide), if_neg (by decide), if_pos rfl] at h ⊢
  exact ⟨beqB_iff.1 h, rfl⟩
theorem right5 (j : Jb) (s : ByteArray) : (readS j 5 s).1 = false := rfl
/-- What reads without a fault is the text of what it reads as. -/
theorem text_read (t : ByteArray) (h : (readT t).2.2 = 0) : textB (readT t).1.cl (readT t).1.p (readT t).1.st (readT t).1.so (readT t).1.l1 (readT t).1.l2 = t := by
  rw [readT_fin, linesF_LN] at h ⊢
  have hf := LN_flat (L t)
  generalize LN (L t) = ls at *
  rcases ls with _ | ⟨a, ls⟩
  · simp [loopS, fin4] at h
  unfold loopS at h ⊢
  split at h
  case isFalse => simp [fin4] at h
  rename_i ha
  rw [if_pos ha]
  rcases ls with _ | ⟨b, ls⟩
  · simp [loopS, fin4] at h
  unfold loopS at h ⊢
  split at h
  case isFalse => simp [fin4] at h
  rename_i hb
  rw [if_pos hb]
  rcases ls with _ | ⟨c, ls⟩
  · simp [loopS, fin4] at h
  unfold loopS at h ⊢
  split at h
  case isFalse => simp [fin4] at h
  rename_i hc
  rw [if_pos hc]
  rcases ls with _ | ⟨d, ls⟩
  · simp [loopS, fin4] at h
  unfold loopS at h ⊢
  split at h
  case isFalse => simp [fin4] at h
  rename_i hd
  rw [if_pos hd]
  rcases ls with _ | ⟨e, ls⟩
  · have h1 := right1 _ _ ha
    obtain ⟨h2, h2'⟩ := right2 _ _ hb
    obtain ⟨h3, h3'⟩ := right3 _ _ hc
    obtain ⟨h4, h4'⟩ := right4 _ _ hd
    simp only [Nat.zero_add, Nat.reduceAdd] at *
    generalize readS Jb.zero 1 a = A at *
    generalize readS A.2 2 b = B at *
    generalize readS B.2 3 c = C at *
    generalize readS C.2 4 d = D at *
    show textB D.2.cl D.2.p D.2.st D.2.so D.2.l1 D.2.l2 = t
    apply ext_L
    rw [L_textB, ← hf]
    simp only [List.flatMap_cons, List.flatMap_nil]
    rw [h4']
    show L (lineB (modeB C.2.cl) []) ++ (L (lineB limitsB [C.2.p, C.2.st, C.2.so]) ++ (L (lineB inputB C.2.l1) ++ (L (lineB picksB D.2.l2) ++ []))) = _
    rw [← h4, h3']
    show L (lineB (modeB B.2.cl) []) ++ (L (lineB limitsB [B.2.p, B.2.st, B.2.so]) ++ (L (lineB inputB C.2.l1) ++ (L d ++ []))) = _
    rw [← h3, ← h2, h2', ← h1]
  · unfold loopS at h
    rw [right5] at h
    simp [fin4] at h
theorem I64_numsOf (s : ByteArray) : I64 (numsOf s) := by
  intro x hx
  unfold numsOf at hx
  obtain ⟨b, _, rfl⟩ := List.mem_map.1 hx
  exact atoiV_bd _
def JbOk (j : Jb) : Prop := I64 [j.p, j.st, j.so] ∧ I64 j.l1 ∧ I64 j.l2
theorem JbOk.zero : JbOk Jb.zero := ⟨by unfold I64; decide, fun x hx => by simp [Jb.zero] at hx, fun x hx => by simp [Jb.zero] at hx⟩
theorem JbOk.read (n : Nat) (j : Jb) (s : ByteArray) (h : JbOk j) : JbOk (readS j n s).2 := by
  unfold readS
  split
  · exact h
  · split
    · split
      · rename_i a b c habc
        exact ⟨habc ▸ I64_numsOf s, h.2⟩
      · exact h
    · split
      · exact ⟨h.1, I64_numsOf s, h.2.2⟩
      · split
        · exact ⟨h.1, h.2.1, I64_numsOf s⟩
        · exact h
theorem JbOk.loop (ls : List ByteArray) : ∀ j n j' n', JbOk j → loopS j n ls = .inl (j', n') → JbOk j' := by
  induction ls with
  | nil => intro j n j' n' h e; injection e with e; injection e with e; subst e; exact h
  | cons l ls ih =>
    intro j n j' n' h e
    unfold loopS at e
    split at e
    · exact ih _ _ _ _ (h.read _ _ _) e
    · cases e
theorem JbOk.text (s : ByteArray) : JbOk (readT s).1 := by
  rw [readT_fin]
  rcases h : loopS Jb.zero 0 (linesF (s.size + 1) s) with ⟨j, n⟩ | n
  · unfold fin4
    simp only
    split
    · exact JbOk.zero
    · exact JbOk.loop _ _ _ _ _ JbOk.zero h
  · exact JbOk.zero
/-- No list of the job is longer than the text. -/
def JbLen (m : Nat) (j : Jb) : Prop := j.l1.length ≤ m ∧ j.l2.length ≤ m
theorem JbLen.read (m n : Nat) (j : Jb) (s : ByteArray) (hs : s.size + 2 ≤ m) (h : JbLen m j) : JbLen m (readS j n s).2 := by
  have := numsOf_len s
  have hn : (numsOf s).length ≤ m := by omega
  unfold readS
  split
  · exact h
  · split
    · split
      · exact h
      · exact h
    · split
      · exact ⟨hn, h.2⟩
      · split
        · exact ⟨h.1, hn⟩
        · exact h
theorem JbLen.loop (m : Nat) (ls : List ByteArray) : ∀ j n j' n', (∀ x ∈ ls, x.size + 2 ≤ m) → JbLen m j → loopS j n ls = .inl (j', n') → JbLen m j' := by
  induction ls with
  | nil => intro j n j' n' _ h e; injection e with e; injection e with e; subst e; exact h
  | cons l ls ih =>
    intro j n j' n' hx h e
    unfold loopS at e
    split at e
    · exact ih _ _ _ _ (fun x hm => hx x (by simp [hm])) (JbLen.read _ _ _ _ (hx l (by simp)) h) e
    · cases e
theorem JbLen.text (s : ByteArray) : JbLen (s.size + 2) (readT s).1 := by
  rw [readT_fin]
  have hz : JbLen (s.size + 2) Jb.zero := ⟨Nat.zero_le _, Nat.zero_le _⟩
  rcases h : loopS Jb.zero 0 (linesF (s.size + 1) s) with ⟨j, n⟩ | n
  · unfold fin4
    simp only
    split
    · exact hz
    · exact JbLen.loop _ _ _ _ _ _ (fun x hx => by have := linesF_sizes _ _ x hx; omega) hz h
  · exact hz

/-! ### the three texts of the awake test -/
def t1 : ByteArray := { data := #[99, 108, 97, 105, 109, 101, 100, 10, 108, 105, 109, 105, 116, 115, 32, 52, 32, 54, 52, 32, 57, 48, 48, 10, 105, 110, 112, 117, 116, 32, 55, 10, 112, 105, 99, 107, 115, 10] }
def t2 : ByteArray := { data := #[99, 108, 97, 105, 109, 101, 100, 10, 108, 105, 109, 105, 116, 115, 32, 52, 32, 54, 52, 10, 105, 110, 112, 117, 116, 10, 112, 105, 99, 107, 115, 10] }
def t3 : ByteArray := { data := #[117, 110, 99, 108, 97, 105, 109, 101, 100, 10, 108, 105, 109, 105, 116, 115, 32, 48, 32, 48, 32, 48, 10, 105, 110, 112, 117, 116, 10, 112, 105, 99, 107, 115, 32, 45, 49, 10] }
theorem i4 : Lib.itoa 4 = [52] := by simp [Lib.itoa, Lib.decDigits]
theorem i64 : Lib.itoa 64 = [54, 52] := by simp [Lib.itoa, Lib.decDigits]
theorem i900 : Lib.itoa 900 = [57, 48, 48] := by simp [Lib.itoa, Lib.decDigits]
theorem i7 : Lib.itoa 7 = [55] := by simp [Lib.itoa, Lib.decDigits]
theorem i0 : Lib.itoa 0 = [48] := by simp [Lib.itoa, Lib.decDigits]
theorem im1 : Lib.itoa (-1) = [45, 49] := by simp [Lib.itoa, Lib.decDigits]
theorem t1_eq : textB true 4 64 900 [7] [] = t1 := by
  apply ext_L
  rw [L_textB]
  simp only [L_lineB, List.map_cons, List.map_nil, i4, i64, i900, i7]
  rfl
theorem t3_eq : textB false 0 0 0 [] [-1] = t3 := by
  apply ext_L
  rw [L_textB]
  simp only [L_lineB, List.map_cons, List.map_nil, i0, im1]
  rfl
theorem t2_eq : L t2 = L (lineB (modeB true) []) ++ (L (lineB limitsB [4, 64]) ++ [105, 110, 112, 117, 116, 10, 112, 105, 99, 107, 115, 10]) := by
  simp only [L_lineB, List.map_cons, List.map_nil, i4, i64]
  rfl
theorem read_t1 : readT t1 = (⟨true, 4, 64, 900, [7], []⟩, 0, 0) := by
  rw [← t1_eq]; exact read_text _ _ _ _ _ _ (by unfold I64; decide) (by unfold I64; decide) (by unfold I64; decide)
theorem read_t2 : (readT t2).2 = (2, 6) := by
  rw [readT_fin, linesF_LN, t2_eq, LN_line _ _ (no10_mode true), LN_line _ _ no10_limits]
  unfold loopS; rw [rs1]; simp only [if_true]
  rw [loop_cons _ _ _ _ (by
    unfold readS
    rw [if_neg (by decide), if_pos rfl, numsOf_line _ _ plain_limits (by unfold I64; decide)])]
  rfl
end Go.Proofs.YtmjflpffafnkdaaDoor
