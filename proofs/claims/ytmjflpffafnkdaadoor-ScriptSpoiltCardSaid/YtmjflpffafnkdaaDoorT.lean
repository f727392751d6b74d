/- Plain laws: the program reads a text as the reference does; a job's text is read as the job. -/
import Derived.Test.YtmjflpffafnkdaaDoorI
import Derived.Lib.TrimAscii
namespace Go.Proofs.YtmjflpffafnkdaaDoor
open Go.RowKit
open Go.Proofs.YtmjflpffafnkdaaDoorW.PrintWords Go.Proofs.YtmjflpffafnkdaaDoorW.PrintLast Go.Proofs.YtmjflpffafnkdaaDoorW.PrintMore
open PScriptSpoilt
open Num (val dig)

/-! ### fields -/
def plainB (c : UInt8) : Prop := c.toNat < 128 ∧ Lib.isSpaceR c.toNat = false
theorem fgo_plain (p : List UInt8) : ∀ (f : Nat) (cur rest : List UInt8), (∀ c ∈ p, plainB c) → p.length ≤ f → Lib.fieldsGoD f cur (p ++ rest) = Lib.fieldsGoD (f - p.length) (cur ++ p) rest := by
  induction p with
  | nil => intro f cur rest _ _; simp
  | cons c p ih =>
    intro f cur rest hp hf
    obtain ⟨f, rfl⟩ : ∃ f', f = f' + 1 := ⟨f - 1, by simp at hf; omega⟩
    have hc := hp c (by simp)
    rw [List.cons_append]
    conv => lhs; unfold Lib.fieldsGoD
    rw [if_neg (by simp), Lib.decodeL_ascii c _ hc.1]
    simp only [hc.2, Bool.false_eq_true, if_false, List.take_succ_cons, List.take_zero, List.drop_succ_cons, List.drop_zero]
    rw [ih f _ rest (fun x hx => hp x (by simp [hx])) (by simp at hf; omega)]
    simp only [List.length_cons, List.append_assoc, List.singleton_append]
    congr 1; omega
theorem fgo_space (f : Nat) (cur rest : List UInt8) (c : UInt8) (hc : c.toNat < 128) (hs : Lib.isSpaceR c.toNat = true) : Lib.fieldsGoD (f + 1) cur (c :: rest) = (if cur = [] then [] else [cur]) ++ Lib.fieldsGoD f [] rest := by
  conv => lhs; unfold Lib.fieldsGoD
  rw [if_neg (by simp), Lib.decodeL_ascii c _ hc]
  simp only [hs, if_true, List.drop_succ_cons, List.drop_zero]
theorem fgo_join (ps : List (List UInt8)) : ∀ (f : Nat) (cur : List UInt8), cur ≠ [] → (∀ q ∈ ps, q ≠ [] ∧ ∀ c ∈ q, plainB c) → (joinL ps).length + 2 ≤ f → Lib.fieldsGoD f cur (joinL ps ++ [10]) = cur :: ps := by
  induction ps with
  | nil =>
    intro f cur hcur _ hf
    obtain ⟨f, rfl⟩ : ∃ f', f = f' + 1 + 1 := ⟨f - 2, by simp [joinL] at hf; omega⟩
    show Lib.fieldsGoD (f + 1 + 1) cur [10] = _
    rw [fgo_space _ _ _ _ (by decide) (by decide), if_neg hcur]
    unfold Lib.fieldsGoD
    simp
  | cons q ps ih =>
    intro f cur hcur hps hf
    have e : joinL (q :: ps) ++ [10] = 32 :: (q ++ (joinL ps ++ [10])) := by simp [joinL]
    have el : (joinL (q :: ps)).length = 1 + q.length + (joinL ps).length := by simp [joinL]; omega
    obtain ⟨f, rfl⟩ : ∃ f', f = f' + 1 := ⟨f - 1, by omega⟩
    obtain ⟨hq, hqp⟩ := hps q (by simp)
    rw [e, fgo_space _ _ _ _ (by decide) (by decide), if_neg hcur, fgo_plain q f [] _ hqp (by omega), List.nil_append, ih _ q hq (fun x hx => hps x (by simp [hx])) (by omega)]
    rfl
theorem fields_line (p : List UInt8) (ps : List (List UInt8)) (hp : p ≠ [] ∧ ∀ c ∈ p, plainB c) (hps : ∀ q ∈ ps, q ≠ [] ∧ ∀ c ∈ q, plainB c) : Lib.fieldsD (p ++ joinL ps ++ [10]) = p :: ps := by
  unfold Lib.fieldsD
  rw [List.append_assoc, fgo_plain p _ [] _ hp.2 (by simp; omega), List.nil_append, fgo_join ps _ p hp.1 hps]
  simp only [List.length_append, List.length_cons, List.length_nil]; omega
theorem itoa_plain (n : Int) : Lib.itoa n ≠ [] ∧ ∀ c ∈ Lib.itoa n, plainB c := by
  have hd : ∀ u, ∀ c ∈ Lib.decDigits u, plainB c := fun u c h => by
    have h2 : 48 ≤ c.toNat ∧ c.toNat ≤ 57 := Num.decDigits_dig u c h
    refine ⟨by omega, ?_⟩
    obtain ⟨k, hk⟩ : ∃ k, c.toNat = k := ⟨_, rfl⟩
    rw [hk] at h2 ⊢
    rcases (show k = 48 ∨ k = 49 ∨ k = 50 ∨ k = 51 ∨ k = 52 ∨ k = 53 ∨ k = 54 ∨ k = 55 ∨ k = 56 ∨ k = 57 by omega) with rfl | rfl | rfl | rfl | rfl | rfl | rfl | rfl | rfl | rfl <;> decide
  unfold Lib.itoa
  split
  · refine ⟨by simp, fun c hc => ?_⟩
    rcases List.mem_cons.1 hc with rfl | hc
    · exact ⟨by decide, by decide⟩
    · exact hd _ c hc
  · exact ⟨Num.decDigits_ne _, fun c hc => hd _ c hc⟩
theorem L_lineB (w : ByteArray) (l : List Int) : L (lineB w l) = L w ++ joinL (l.map Lib.itoa) ++ [10] := by
  unfold lineB
  show (addNums w l ++ (⟨#[10]⟩ : ByteArray)).data.toList = _
  rw [ByteArray.data_append, Array.toList_append]
  show L (addNums w l) ++ [10] = _
  rw [L_addNums]
/-- The numbers of a line that is written as it must be. -/
theorem numsOf_line (w : ByteArray) (l : List Int) (hw : L w ≠ [] ∧ ∀ c ∈ L w, plainB c) (hl : I64 l) : numsOf (lineB w l) = l := by
  have hf : fieldsB (lineB w l) = w :: l.map itoaB := by
    unfold fieldsB
    show (Lib.fieldsD (L (lineB w l))).map _ = _
    rw [L_lineB, fields_line (L w) (l.map Lib.itoa) hw (fun q hq => by obtain ⟨n, _, rfl⟩ := List.mem_map.1 hq; exact itoa_plain n)]
    rw [List.map_cons, List.map_map]
    exact congr (congrArg List.cons (mk_L w)) rfl
  unfold numsOf wordsB
  rw [hf]
  simp only [List.length_cons, List.length_map]
  rw [show min 1 (l.length + 1) = 1 by omega]
  simp only [List.drop_succ_cons, List.drop_zero, List.map_map]
  have : ∀ x ∈ l, ((fun b : ByteArray => atoiV b.data.toList) ∘ itoaB) x = x := fun x hx => by
    have hx' := hl x hx
    show atoiV (L (itoaB x)) = x
    rw [L_itoa]
    unfold atoiV
    rw [Num.atoi_itoa x hx'.1 hx'.2]
  exact (List.map_congr_left this).trans (List.map_id l)
theorem plain_limits : L limitsB ≠ [] ∧ ∀ c ∈ L limitsB, plainB c := by
  have h : ∀ c ∈ L limitsB, c.toNat < 128 ∧ Lib.isSpaceR c.toNat = false := by decide
  exact ⟨by decide, h⟩
theorem plain_input : L inputB ≠ [] ∧ ∀ c ∈ L inputB, plainB c := by
  have h : ∀ c ∈ L inputB, c.toNat < 128 ∧ Lib.isSpaceR c.toNat = false := by decide
  exact ⟨by decide, h⟩
theorem plain_picks : L picksB ≠ [] ∧ ∀ c ∈ L picksB, plainB c := by
  have h : ∀ c ∈ L picksB, c.toNat < 128 ∧ Lib.isSpaceR c.toNat = false := by decide
  exact ⟨by decide, h⟩

/-! ### one line -/
def nlB : ByteArray := ⟨#[10]⟩
theorem lineB_nl (w : ByteArray) (l : List Int) : lineB w l = addNums w l ++ nlB := rfl
theorem beqB_iff {s t : ByteArray} : beqB s t = true ↔ s = t := by
  unfold beqB
  rw [toList_L, toList_L, beq_iff_eq]
  exact ⟨fun h => ext_L h, fun h => by rw [h]⟩
theorem beqB_false {s t : ByteArray} (h : s ≠ t) : beqB s t = false := by
  cases hb : beqB s t with
  | false => rfl
  | true => exact absurd (beqB_iff.1 hb) h
theorem nl_inj {a b : ByteArray} (h : a ++ nlB = b ++ nlB) : a = b := by
  have := congrArg L h
  have e : ∀ x : ByteArray, L (x ++ nlB) = L x ++ [10] := fun x => by
    show (x ++ nlB).data.toList = _
    rw [ByteArray.data_append, Array.toList_append]; rfl
  rw [e, e] at this
  exact ext_L (List.append_cancel_right this)
theorem beqB_nl (a b : ByteArray) : beqB (a ++ nlB) (b ++ nlB) = beqB a b := by
  by_cases h : a = b
  · subst h; rw [beqB_iff.2 rfl, beqB_iff.2 rfl]
  · rw [beqB_false h, beqB_false (fun h' => h (nl_inj h'))]
theorem rowV_eq (t word : ByteArray) (ht : t.size ≤ 90000) (hw : ∀ c ∈ L word, c ≠ 32) :
    ((rowV t word).2 = true → I64 (rowV t word).1 ∧ t = addNums word (rowV t word).1) ∧ (∀ l, I64 l → t = addNums word l → rowV t word = (l, true)) := by
  obtain ⟨⟨r, ok, hr, h1, _⟩, h2⟩ := row_spec t word ht hw
  have : rowV t word = (r, ok) := by unfold rowV; rw [hr]; rfl
  rw [this]
  refine ⟨h1, fun l hl he => ?_⟩
  have := h2 l hl he
  rw [hr] at this
  exact Option.some.inj this

/-- The two ways of reading one line that is ended. -/
theorem step_eq (j : Jb) (k : Nat) (hk : k ≤ 3) (l : ByteArray) (hl : l.size ≤ 80000) :
    ((readS j (k + 1) (l ++ nlB)).1 = true ∧ refStep k l j = some (readS j (k + 1) (l ++ nlB)).2) ∨ ((readS j (k + 1) (l ++ nlB)).1 = false ∧ refStep k l j = none) := by
  rcases (show k = 0 ∨ k = 1 ∨ k = 2 ∨ k = 3 by omega) with rfl | rfl | rfl | rfl
  · unfold readS refStep
    rw [if_pos rfl, if_pos rfl]
    have hm : ∀ b, lineB (modeB b) [] = modeB b ++ nlB := fun b => rfl
    simp only [hm, beqB_nl]
    by_cases h1 : l = modeB true
    · have e1 := beqB_iff.2 h1
      rw [e1]
      left
      exact ⟨e1, rfl⟩
    · rw [beqB_false h1]
      by_cases h2 : l = modeB false
      · left; rw [beqB_iff.2 h2]; exact ⟨rfl, rfl⟩
      · right; rw [beqB_false h2]; exact ⟨rfl, rfl⟩
  · have hrow := rowV_eq l limitsB (by omega) no32_limits
    have hw : wordN 1 = limitsB := rfl
    unfold readS refStep
    rw [if_neg (by decide), if_pos rfl, if_neg (by decide), hw]
    cases hok : (rowV l limitsB).2 with
    | true =>
      obtain ⟨hi, he⟩ := hrow.1 hok
      obtain ⟨r, hr⟩ : ∃ r, (rowV l limitsB).1 = r := ⟨_, rfl⟩
      rw [hr] at hi he ⊢
      have hn : numsOf (l ++ nlB) = r := by
        have := numsOf_line limitsB r plain_limits hi
        rw [lineB_nl, ← he] at this
        exact this
      rw [hn]
      simp only [Bool.true_eq_false, if_false, if_true]
      split
      · rename_i a b c
        left
        refine ⟨?_, rfl⟩
        rw [beqB_iff, lineB_nl, ← he]
      · rename_i hno
        right
        exact ⟨rfl, by split <;> first | rfl | (rename_i a b c; exact absurd rfl (hno a b c))⟩
    | false =>
      right
      simp only [if_true]
      refine ⟨?_, trivial⟩
      split
      · rename_i a b c habc
        refine beqB_false (fun h => ?_)
        rw [lineB_nl] at h
        have := hrow.2 [a, b, c] (by rw [← habc]; exact numsOf_I64 _) (nl_inj h)
        rw [this] at hok
        simp at hok
      · rfl
  · have hrow := rowV_eq l inputB (by omega) no32_input
    have hw : wordN 2 = inputB := rfl
    unfold readS refStep
    rw [if_neg (by decide), if_neg (by decide), if_pos rfl, if_neg (by decide), hw]
    cases hok : (rowV l inputB).2 with
    | true =>
      obtain ⟨hi, he⟩ := hrow.1 hok
      obtain ⟨r, hr⟩ : ∃ r, (rowV l inputB).1 = r := ⟨_, rfl⟩
      rw [hr] at hi he ⊢
      have hn : numsOf (l ++ nlB) = r := by
        have := numsOf_line inputB r plain_input hi
        rw [lineB_nl, ← he] at this
        exact this
      rw [hn]
      left
      refine ⟨?_, rfl⟩
      show beqB _ _ = true
      rw [beqB_iff, lineB_nl, ← he]
    | false =>
      right
      refine ⟨beqB_false (fun h => ?_), rfl⟩
      rw [lineB_nl] at h
      have := hrow.2 _ (numsOf_I64 _) (nl_inj h)
      rw [this] at hok
      simp at hok
  · have hrow := rowV_eq l picksB (by omega) no32_picks
    have hw : wordN 3 = picksB := rfl
    unfold readS refStep
    rw [if_neg (by decide), if_neg (by decide), if_neg (by decide), if_pos rfl, if_neg (by decide), hw]
    cases hok : (rowV l picksB).2 with
    | true =>
      obtain ⟨hi, he⟩ := hrow.1 hok
      obtain ⟨r, hr⟩ : ∃ r, (rowV l picksB).1 = r := ⟨_, rfl⟩
      rw [hr] at hi he ⊢
      have hn : numsOf (l ++ nlB) = r := by
        have := numsOf_line picksB r plain_picks hi
        rw [lineB_nl, ← he] at this
        exact this
      rw [hn]
      left
      refine ⟨?_, rfl⟩
      show beqB _ _ = true
      rw [beqB_iff, lineB_nl, ← he]
    | false =>
      right
      refine ⟨beqB_false (fun h => ?_), rfl⟩
      rw [lineB_nl] at h
      have := hrow.2 _ (numsOf_I64 _) (nl_inj h)
      rw [this] at hok
      simp at hok

/-! ### the lines -/
/-- The lines that are ended, and what stands behind the last end. -/
def spn : List UInt8 → List (List UInt8) × List UInt8
  | [] => ([], [])
  | c :: r => if c = 10 then ([] :: (spn r).1, (spn r).2) else match (spn r).1 with
    | p :: ps => ((c :: p) :: ps, (spn r).2)
    | [] => ([], c :: (spn r).2)
theorem spn_cons (c : UInt8) (r : List UInt8) : spn (c :: r) = if c = 10 then ([] :: (spn r).1, (spn r).2) else match (spn r).1 with
    | p :: ps => ((c :: p) :: ps, (spn r).2)
    | [] => ([], c :: (spn r).2) := rfl
theorem spn_none (a : List UInt8) (h : ∀ c ∈ a, c ≠ 10) : spn a = ([], a) := by
  induction a with
  | nil => rfl
  | cons c r ih => rw [spn_cons, if_neg (h c (by simp)), ih (fun x hx => h x (by simp [hx]))]
theorem spn_cut (a rest : List UInt8) (h : ∀ c ∈ a, c ≠ 10) : spn (a ++ 10 :: rest) = (a :: (spn rest).1, (spn rest).2) := by
  induction a with
  | nil => rw [List.nil_append, spn_cons, if_pos rfl]
  | cons c r ih => rw [List.cons_append, spn_cons, if_neg (h c (by simp)), ih (fun x hx => h x (by simp [hx]))]
theorem spn_rest (l : List UInt8) : ∀ c ∈ (spn l).2, c ≠ 10 := by
  induction l with
  | nil => intro c hc; simp [spn] at hc
  | cons c r ih =>
    intro x hx
    rw [spn_cons] at hx
    split at hx
    · exact ih x hx
    · rename_i hc
      split at hx
      · exact ih x hx
      · rcases List.mem_cons.1 hx with rfl | hx
        · exact hc
        · exact ih x hx

theorem L_app (a b : ByteArray) : L (a ++ b) = L a ++ L b := by
  show (a ++ b).data.toList = _
  rw [ByteArray.data_append, Array.toList_append]
def tailB (r : List UInt8) : List ByteArray := if r = [] then [] else [mk r]
theorem idx_cut (t : ByteArray) (i : Nat) (hi : nlAt t = (i : Int)) : L t = (L t).take i ++ 10 :: (L t).drop (i + 1) ∧ (∀ c ∈ (L t).take i, c ≠ 10) ∧ (L t).take (i + 1) = (L t).take i ++ [10] := by
  obtain ⟨h1, h2⟩ := Lib.indexByte_some (show Lib.indexByte (L t) 10 = (i : Int) from hi)
  have hlt := (List.getElem?_eq_some_iff.1 h1).1
  refine ⟨?_, ?_, by rw [List.take_succ_eq_append_getElem hlt, (List.getElem?_eq_some_iff.1 h1).2]⟩
  · have e := (List.take_append_drop i (L t)).symm
    rw [List.drop_eq_getElem_cons hlt, (List.getElem?_eq_some_iff.1 h1).2] at e
    exact e
  · intro c hc
    obtain ⟨k, hk⟩ := List.getElem?_of_mem hc
    have hk' : k < i := by
      have := (List.getElem?_eq_some_iff.1 hk).1
      rw [List.length_take] at this; omega
    rw [List.getElem?_take_of_lt hk'] at hk
    rintro rfl
    exact h2 k hk' hk
theorem linesF_spn (f : Nat) : ∀ t : ByteArray, t.size < f → linesF f t = (spn (L t)).1.map (fun l => mk l ++ nlB) ++ tailB (spn (L t)).2 := by
  induction f with
  | zero => intro t h; omega
  | succ f ih =>
    intro t h
    unfold linesF
    by_cases h0 : t.size = 0
    · rw [if_pos h0, size_zero h0]; rfl
    · rw [if_neg h0]
      by_cases hn : 0 ≤ nlAt t
      · rw [if_pos hn]
        obtain ⟨i, hi⟩ : ∃ i : Nat, nlAt t = (i : Int) := ⟨(nlAt t).toNat, by omega⟩
        have hlt : (i : Int) < (L t).length := by rw [← hi]; exact indexByte_lt _ _
        rw [L_len] at hlt
        obtain ⟨hcut, hno, htk⟩ := idx_cut t i hi
        rw [show (nlAt t + 1).toNat = i + 1 by omega, ih _ (by rw [ByteArray.size_extract]; omega)]
        have e1 : L (t.extract (i + 1) t.size) = (L t).drop (i + 1) := by
          rw [L_extract, List.take_of_length_le (by rw [List.length_drop, L_len]; omega)]
        have e2 : t.extract 0 (i + 1) = mk ((L t).take i) ++ nlB := by
          apply ext_L
          rw [L_extract, L_app, L_mk, List.drop_zero, Nat.sub_zero]
          exact htk
        rw [e1, e2]
        conv => rhs; rw [hcut, spn_cut _ _ hno]
        rfl
      · rw [if_neg hn]
        have hneg : nlAt t = -1 := by
          have : -1 ≤ nlAt t := Lib.indexByte_ge (L t) 10
          omega
        have hno : ∀ c ∈ L t, c ≠ 10 := by
          intro c hc
          obtain ⟨k, hk⟩ := List.getElem?_of_mem hc
          rintro rfl
          exact Lib.indexByte_none (show Lib.indexByte (L t) 10 = -1 from hneg) k hk
        rw [spn_none _ hno]
        have hne : L t ≠ [] := fun e => h0 (by rw [← L_len, e]; rfl)
        simp only [List.map_nil, List.nil_append, tailB, if_neg hne, mk_L]

theorem splitN_spn (s : ByteArray) (k : Nat) (hk : k ≤ s.size) :
    spn (L s) = ((splitN s k).1.map L ++ (spn ((L s).drop (splitN s k).2)).1, (spn ((L s).drop (splitN s k).2)).2) ∧ (∀ c ∈ ((L s).drop (splitN s k).2).take (k - (splitN s k).2), c ≠ 10) ∧ (splitN s k).2 ≤ k := by
  induction k with
  | zero => exact ⟨by simp [splitN], by simp [splitN], by simp [splitN]⟩
  | succ k ih =>
    obtain ⟨h1, h2, h3⟩ := ih (by omega)
    obtain ⟨fr, hfr⟩ : ∃ fr, (splitN s k).2 = fr := ⟨_, rfl⟩
    obtain ⟨ls, hls⟩ : ∃ ls, (splitN s k).1 = ls := ⟨_, rfl⟩
    rw [hfr] at h1 h2 h3
    rw [hls] at h1
    have hlt' : k < (L s).length := by rw [L_len]; omega
    have hdr := List.drop_eq_getElem_cons hlt'
    obtain ⟨hbt, _, _⟩ := bt_cons hdr
    obtain ⟨c, hc⟩ : ∃ c, (L s)[k] = c := ⟨_, rfl⟩
    rw [hc] at hdr hbt
    have hsplit : (L s).drop fr = ((L s).drop fr).take (k - fr) ++ c :: (L s).drop (k + 1) := by
      have h1 := (List.take_append_drop (k - fr) ((L s).drop fr)).symm
      rw [List.drop_drop, show fr + (k - fr) = k by omega, hdr] at h1
      exact h1
    unfold splitN
    rw [hbt, hfr, hls]
    by_cases h10 : c = 10
    · subst h10
      rw [if_pos (by decide)]
      refine ⟨?_, by simp, Nat.le_refl _⟩
      rw [h1]
      conv => lhs; rw [hsplit, spn_cut _ _ h2]
      simp only [List.map_append, List.map_cons, List.map_nil, List.append_assoc, List.singleton_append, L_extract]
    · have hne : ¬ ((c.toNat : Int) = 10) := fun h => h10 (UInt8.toNat_inj.1 (by show c.toNat = 10; omega))
      rw [if_neg hne, hfr, hls]
      refine ⟨h1, ?_, by omega⟩
      intro x hx
      rw [show k + 1 - fr = (k - fr) + 1 by omega] at hx
      have : ((L s).drop fr).take (k - fr + 1) = ((L s).drop fr).take (k - fr) ++ [c] := by
        rw [List.take_succ_eq_append_getElem (by rw [List.length_drop]; omega)]
        congr 2
        rw [List.getElem_drop, ← hc]; congr 1; omega
      rw [this] at hx
      rcases List.mem_append.1 hx with h | h
      · exact h2 x h
      · obtain rfl : x = c := List.mem_singleton.1 h
        exact h10
/-- The program's lines are the reference's, each with its end, and what stands behind. -/
theorem lines_split (s : ByteArray) : ∃ r : List UInt8, (∀ c ∈ r, c ≠ 10) ∧ linesF (s.size + 1) s = (splitN s s.size).1.map (· ++ nlB) ++ tailB r ∧ (r = [] ↔ ¬ (splitN s s.size).2 < s.size) := by
  obtain ⟨h1, h2, h3⟩ := splitN_spn s s.size (Nat.le_refl _)
  rw [List.take_of_length_le (by rw [List.length_drop, L_len]; omega)] at h2
  rw [spn_none _ h2] at h1
  simp only [List.append_nil] at h1
  refine ⟨_, h2, ?_, ?_⟩
  · rw [linesF_spn _ s (by omega), h1]
    simp only [List.map_map]
    congr 1
  · rw [List.drop_eq_nil_iff, L_len]; omega

theorem read_open (j : Jb) (k : Nat) (x : ByteArray) (h : ∀ c ∈ L x, c ≠ 10) : (readS j k x).1 = false := by
  have hb : ∀ w l, beqB x (lineB w l) = false := fun w l => beqB_false (fun e => by
    have := h 10 (by rw [e, L_lineB]; simp)
    exact this rfl)
  unfold readS
  split
  · exact hb _ _
  · split
    · split
      · exact hb _ _
      · rfl
    · split
      · exact hb _ _
      · split
        · exact hb _ _
        · rfl

theorem loop_at (ls : List ByteArray) (hls : ∀ l ∈ ls, l.size ≤ 80000) (tl : List ByteArray) (n : Nat) (hn : n ≤ 4) : ∀ j, refAt ls n = some j → n ≤ ls.length ∧ loopS Jb.zero 0 (ls.map (· ++ nlB) ++ tl) = loopS j n ((ls.drop n).map (· ++ nlB) ++ tl) := by
  induction n with
  | zero => intro j hj; injection hj with hj; subst hj; exact ⟨Nat.zero_le _, rfl⟩
  | succ n ih =>
    intro j hj
    obtain ⟨j', hj'⟩ := refAt_down ls n j hj
    obtain ⟨hlen, hloop⟩ := ih (by omega) j' hj'
    have hlt : n < ls.length := by
      rcases Nat.lt_or_ge n ls.length with h | h
      · exact h
      · rw [refAt_short ls n h] at hj; simp at hj
    obtain ⟨l, hl⟩ : ∃ l, ls[n]? = some l := ⟨_, List.getElem?_eq_getElem hlt⟩
    have hat := refAt_at ls n j' l hj' hl
    rw [hj] at hat
    rcases step_eq j' n (by omega) l (hls l (List.mem_of_getElem? hl)) with ⟨h1, h2⟩ | ⟨_, h2⟩
    · rw [h2] at hat
      injection hat with hat
      refine ⟨hlt, ?_⟩
      rw [hloop, List.drop_eq_getElem_cons hlt, (List.getElem?_eq_some_iff.1 hl).2, List.map_cons, List.cons_append]
      show (if (readS j' (n + 1) (l ++ nlB)).1 = true then _ else _) = _
      rw [if_pos h1, ← hat]
    · rw [h2] at hat; simp at hat

def fin4 (x : (Jb × Nat) ⊕ Nat) : Jb × Int × Int :=
  match x with
  | .inr n => (Jb.zero, n, 6)
  | .inl (j, n) => if n < 4 then (Jb.zero, n + 1, 6) else (j, 0, 0)
theorem readT_fin (s : ByteArray) : readT s = fin4 (loopS Jb.zero 0 (linesF (s.size + 1) s)) := rfl
theorem loop_cons (j : Jb) (n : Nat) (x : ByteArray) (xs : List ByteArray) (h : (readS j (n + 1) x).1 = false) : loopS j n (x :: xs) = .inr (n + 1) := by
  show (if (readS j (n + 1) x).1 = true then _ else _) = _
  rw [h]; rfl
/-- The program reads every text as the reference does. -/
theorem read_ref (s : ByteArray) (hs : s.size ≤ 25000) : readT s = refT s := by
  obtain ⟨r, hr, hlines, hend⟩ := lines_split s
  obtain ⟨ls, hlsE⟩ : ∃ ls, (splitN s s.size).1 = ls := ⟨_, rfl⟩
  have hsz : ∀ l ∈ ls, l.size ≤ 80000 := fun l hl => by
    have := splitN_size s s.size l (by rw [hlsE]; exact hl); omega
  rw [hlsE] at hlines
  have hbad : ∀ n j, n ≤ 3 → refAt ls n = some j → refAt ls (n + 1) = none → readT s = (Jb.zero, (n : Int) + 1, 6) := by
    intro n j hn hj hb
    obtain ⟨hlen, hloop⟩ := loop_at ls hsz (tailB r) n (by omega) j hj
    rw [readT_fin, hlines, hloop]
    rcases Nat.lt_or_ge n ls.length with hlt | hge
    · obtain ⟨l, hl⟩ : ∃ l, ls[n]? = some l := ⟨_, List.getElem?_eq_getElem hlt⟩
      have hat := refAt_at ls n j l hj hl
      rw [hb] at hat
      rcases step_eq j n (by omega) l (hsz l (List.mem_of_getElem? hl)) with ⟨_, h2⟩ | ⟨h1, _⟩
      · rw [h2] at hat; simp at hat
      · rw [List.drop_eq_getElem_cons hlt, (List.getElem?_eq_some_iff.1 hl).2, List.map_cons, List.cons_append, loop_cons _ _ _ _ h1]
        rfl
    · have hnil : ls.drop n = [] := List.drop_eq_nil_of_le hge
      rw [hnil]
      by_cases hr0 : r = []
      · subst hr0
        show (if n < 4 then _ else _) = _
        rw [if_pos (by omega)]
      · have ht : tailB r = [mk r] := if_neg hr0
        rw [ht]
        have h1 := read_open j (n + 1) (mk r) (by rw [L_mk]; exact hr)
        rw [List.map_nil, List.nil_append, loop_cons _ _ _ _ h1]
        rfl
  have go : ∀ n j, n ≤ 3 → refAt ls n = some j → (∃ j', refAt ls (n + 1) = some j') ∨ readT s = refT s := by
    intro n j hn hj
    cases hb : refAt ls (n + 1) with
    | some j' => exact .inl ⟨j', rfl⟩
    | none => exact .inr ((hbad n j hn hj hb).trans (refT_bad s ls hlsE n hn j hj hb).symm)
  rcases go 0 Jb.zero (by omega) rfl with ⟨j1, h1⟩ | h
  · rcases go 1 j1 (by omega) h1 with ⟨j2, h2⟩ | h
    · rcases go 2 j2 (by omega) h2 with ⟨j3, h3⟩ | h
      · rcases go 3 j3 (by omega) h3 with ⟨j4, h4⟩ | h
        · rw [refT_end s ls hlsE j4 h4]
          obtain ⟨hlen, hloop⟩ := loop_at ls hsz (tailB r) 4 (by omega) j4 h4
          rw [readT_fin, hlines, hloop]
          have five : ∀ x, (readS j4 5 x).1 = false := fun x => rfl
          rcases Nat.lt_or_ge 4 ls.length with hlt | hge
          · rw [if_pos (Or.inl hlt), List.drop_eq_getElem_cons hlt, List.map_cons, List.cons_append, loop_cons _ _ _ _ (five _)]
            rfl
          · have hnil : ls.drop 4 = [] := List.drop_eq_nil_of_le hge
            rw [hnil]
            by_cases hr0 : r = []
            · have := hend.1 hr0
              subst hr0
              rw [if_neg (by omega)]
              rfl
            · have ht : tailB r = [mk r] := if_neg hr0
              have hlt : (splitN s s.size).2 < s.size := by
                rcases Nat.lt_or_ge (splitN s s.size).2 s.size with h | h
                · exact h
                · exact absurd (hend.2 (by omega)) hr0
              rw [ht, if_pos (Or.inr hlt), List.map_nil, List.nil_append, loop_cons _ _ _ _ (five _)]
              rfl
        · exact h
      · exact h
    · exact h
  · exact h
end Go.Proofs.YtmjflpffafnkdaaDoor
