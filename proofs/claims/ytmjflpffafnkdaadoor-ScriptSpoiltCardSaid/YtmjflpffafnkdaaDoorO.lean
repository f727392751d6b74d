/- Plain laws: the reference's numbers, words and rows, as what they tell of a text. -/
import Derived.Test.YtmjflpffafnkdaaDoorN
import Derived.Test.YtmjflpffafnkdaaDoorA
import Derived.Test.YtmjflpffafnkdaaDoorPScriptSpoiltx5
namespace Go.Proofs.YtmjflpffafnkdaaDoor
open Go.RowKit
open Go.Proofs.YtmjflpffafnkdaaDoorW.PrintWords Go.Proofs.YtmjflpffafnkdaaDoorW.PrintLast Go.Proofs.YtmjflpffafnkdaaDoorW.PrintMore
open PScriptSpoilt
open Num (val dig)

abbrev L (s : ByteArray) : List UInt8 := s.data.toList
theorem L_len (s : ByteArray) : (L s).length = s.size := Array.length_toList
theorem ext_L {s t : ByteArray} (h : L s = L t) : s = t := Go.WideShapes.bytes_inj h
theorem bt_cons {s : ByteArray} {i : Nat} {c : UInt8} {r : List UInt8} (h : (L s).drop i = c :: r) : bt s (i : Int) = c.toNat ∧ i < s.size ∧ (L s).drop (i + 1) = r := by
  have hi : i < (L s).length := by
    rcases Nat.lt_or_ge i (L s).length with h' | h'
    · exact h'
    · rw [List.drop_eq_nil_of_le h'] at h; simp at h
  have h2 := List.drop_eq_getElem_cons hi
  rw [h2] at h
  injection h with h3 h4
  have hs : i < s.size := by rw [← L_len]; exact hi
  refine ⟨?_, hs, h4⟩
  have := bt_at s (i : Int)
  rw [Int.toNat_natCast] at this
  rw [← this hs, ← h3]
  rfl

theorem tdiv_neg (k : Nat) : Int.tdiv (-(k : Int)) 10 = -((k / 10 : Nat) : Int) := by rw [Int.neg_tdiv]; rfl
theorem ovf_iff (m x : Nat) (hx : x ≤ 9) : (-(m : Int) < -(((9223372036854775808 - x) / 10 : Nat) : Int)) ↔ ¬ (m * 10 + x ≤ 9223372036854775808) := by omega
theorem div_bd (x : Nat) : (9223372036854775808 - x) / 10 ≤ 9223372036854775807 := by omega
def numFin (x0 x4 : ByteArray) (v : Nat) : Option (Int × Bool) :=
  if x4.size < x0.size then some (-(v : Int), true) else if v = 9223372036854775808 then some (0, false) else some ((v : Int), true)

theorem wrap_small {x : Int} (h0 : -9223372036854775808 ≤ x) (h1 : x ≤ 9223372036854775807) : wrap64 x = x := by unfold wrap64; omega

theorem l0_spec (x0 x4 : ByteArray) (hsz : x4.size ≤ 100000) (d : Nat) : ∀ (m i K : Nat) (rest : List UInt8), i ≤ x4.size → x4.size - i = d → d < K → m ≤ 9223372036854775808 → (L x4).drop i = rest →
    ((∀ c ∈ rest, dig c) ∧ val rest m ≤ 9223372036854775808 → signalboxref1_Num.l0 K x0 x4 (-(m : Int)) (i : Int) = numFin x0 x4 (val rest m)) ∧
    (¬ ((∀ c ∈ rest, dig c) ∧ val rest m ≤ 9223372036854775808) → signalboxref1_Num.l0 K x0 x4 (-(m : Int)) (i : Int) = some (0, false)) := by
  induction d with
  | zero =>
    intro m i K rest hi hd hK hm hr
    obtain ⟨K, rfl⟩ : ∃ K', K = K' + 1 := ⟨K - 1, by omega⟩
    have hnil : rest = [] := by rw [← hr]; exact List.drop_eq_nil_of_le (by rw [L_len]; omega)
    subst hnil
    have hv : val [] m = m := rfl
    have hl : signalboxref1_Num.l0 (K + 1) x0 x4 (-(m : Int)) (i : Int) = numFin x0 x4 m := by
      simp only [signalboxref1_Num.l0]
      rw [if_neg (by omega)]
      unfold numFin
      by_cases h : x4.size < x0.size
      · rw [if_pos (by omega), if_pos h]
      · rw [if_neg (by omega), if_neg h]
        by_cases h2 : m = 9223372036854775808
        · rw [if_pos (by omega), if_pos h2]
        · rw [if_neg (by omega), if_neg h2, wrap_small (by omega) (by omega)]; congr 2; omega
    refine ⟨fun _ => by rw [hv]; exact hl, fun h => absurd ⟨by simp, by rw [hv]; exact hm⟩ h⟩
  | succ d ih =>
    intro m i K rest hi hd hK hm hr
    obtain ⟨K, rfl⟩ : ∃ K', K = K' + 1 := ⟨K - 1, by omega⟩
    obtain ⟨c, r, hcr⟩ : ∃ c r, rest = c :: r := by
      cases rest with
      | nil => have := congrArg List.length hr; simp only [List.length_drop, L_len, List.length_nil] at this; omega
      | cons c r => exact ⟨c, r, rfl⟩
    subst hcr
    obtain ⟨hbt, his, hr'⟩ := bt_cons hr
    have hc255 : c.toNat < 256 := c.toNat_lt
    have e1 : wrap64 (wrap64 (bt x4 (i : Int)) - 48) = (c.toNat : Int) - 48 := by
      rw [hbt, wrap_small (x := (c.toNat : Int)) (by omega) (by omega), wrap_small (by omega) (by omega)]
    have hstep : signalboxref1_Num.l0 (K + 1) x0 x4 (-(m : Int)) (i : Int) =
        if (c.toNat : Int) - 48 < 0 then some (0, false) else if (c.toNat : Int) - 48 > 9 then some (0, false) else
        if -(m : Int) < wrap64 (Int.tdiv (wrap64 ((-9223372036854775808) + ((c.toNat : Int) - 48))) 10) then some (0, false) else
        signalboxref1_Num.l0 K x0 x4 (wrap64 (wrap64 (10 * -(m : Int)) - ((c.toNat : Int) - 48))) (wrap64 ((i : Int) + 1)) := by
      conv => lhs; simp only [signalboxref1_Num.l0]
      rw [if_pos (by omega), if_pos (by omega), e1]
    rw [hstep]
    clear hstep e1 hbt
    by_cases hc : dig c
    · have hc' : 48 ≤ c.toNat ∧ c.toNat ≤ 57 := hc
      rw [if_neg (by omega), if_neg (by omega)]
      have hk : wrap64 (Int.tdiv (wrap64 ((-9223372036854775808) + ((c.toNat : Int) - 48))) 10) = -(((9223372036854775808 - (c.toNat - 48)) / 10 : Nat) : Int) := by
        have e2 : (-9223372036854775808 : Int) + ((c.toNat : Int) - 48) = -((9223372036854775808 - (c.toNat - 48) : Nat) : Int) := by omega
        have e5 := div_bd (c.toNat - 48)
        rw [wrap_small (x := (-9223372036854775808 : Int) + ((c.toNat : Int) - 48)) (by omega) (by omega), e2, tdiv_neg]
        generalize (9223372036854775808 - (c.toNat - 48)) / 10 = q at e5
        rw [wrap_small (by omega) (by omega)]
      rw [hk]
      clear hk
      by_cases hov : m * 10 + (c.toNat - 48) ≤ 9223372036854775808
      · rw [if_neg (fun h => (ovf_iff m _ (by omega)).1 h hov)]
        have e3 : wrap64 (wrap64 (10 * -(m : Int)) - ((c.toNat : Int) - 48)) = -((m * 10 + (c.toNat - 48) : Nat) : Int) := by
          rw [wrap_small (x := 10 * -(m : Int)) (by omega) (by omega), wrap_small (by omega) (by omega)]; omega
        have e4 : wrap64 ((i : Int) + 1) = ((i + 1 : Nat) : Int) := by rw [wrap_small (by omega) (by omega)]; omega
        rw [e3, e4]
        clear e3 e4
        obtain ⟨ih1, ih2⟩ := ih (m * 10 + (c.toNat - 48)) (i + 1) K r (by omega) (by omega) (by omega) hov hr'
        rw [Num.val_cons]
        refine ⟨fun h => ih1 ⟨fun x hx => h.1 x (by simp [hx]), h.2⟩, fun h => ih2 (fun h' => h ⟨fun x hx => ?_, h'.2⟩)⟩
        rcases List.mem_cons.1 hx with rfl | hx
        · exact hc
        · exact h'.1 x hx
      · rw [if_pos ((ovf_iff m _ (by omega)).2 hov)]
        refine ⟨fun h => ?_, fun _ => rfl⟩
        have := Num.val_ge r (m * 10 + (c.toNat - 48))
        rw [Num.val_cons] at h
        omega
    · have hc' : ¬ (48 ≤ c.toNat ∧ c.toNat ≤ 57) := hc
      have hf : (if (c.toNat : Int) - 48 < 0 then some (0, false) else if (c.toNat : Int) - 48 > 9 then some (0, false) else
        if -(m : Int) < wrap64 (Int.tdiv (wrap64 ((-9223372036854775808) + ((c.toNat : Int) - 48))) 10) then some (0, false) else
        signalboxref1_Num.l0 K x0 x4 (wrap64 (wrap64 (10 * -(m : Int)) - ((c.toNat : Int) - 48))) (wrap64 ((i : Int) + 1))) = some ((0 : Int), false) := by
        by_cases h1 : (c.toNat : Int) - 48 < 0
        · rw [if_pos h1]
        · rw [if_neg h1, if_pos (by omega)]
      rw [hf]
      exact ⟨fun h => absurd (h.1 c (by simp)) hc, fun _ => rfl⟩

theorem toList_L (s : ByteArray) : s.toList = L s := ByteArray.toList_eq s
theorem j1_spec (K : Nat) (x0 x4 : ByteArray) :
    (x4.size = 0 ∨ 19 < x4.size ∨ (bt x4 0 = 48 ∧ L x0 ≠ [48]) → signalboxref1_Num.j1 (K + 1 + 1) x0 x4 = some (0, false)) ∧
    (¬ (x4.size = 0 ∨ 19 < x4.size ∨ (bt x4 0 = 48 ∧ L x0 ≠ [48])) → signalboxref1_Num.j1 (K + 1 + 1) x0 x4 = signalboxref1_Num.l0 K x0 x4 0 0) := by
  have ht : ∀ x y, signalboxref1_Num.j2 (K + 1) x y true = some (0, false) := fun x y => by simp [signalboxref1_Num.j2]
  have hf : ∀ x y, signalboxref1_Num.j2 (K + 1) x y false = signalboxref1_Num.l0 K x y 0 0 := fun x y => by simp [signalboxref1_Num.j2]
  have h1 : signalboxref1_Num.j1 (K + 1 + 1) x0 x4 = if (x4.size : Int) = 0 then (signalboxref1_Num.j2 (K + 1) x0 x4 true) else (if (x4.size : Int) > 19 then (signalboxref1_Num.j2 (K + 1) x0 x4 true) else (if 0 < (x4.size : Int) then (if (bt x4 0) = 48 then (signalboxref1_Num.j2 (K + 1) x0 x4 (x0.toList != ([48] : List UInt8))) else (signalboxref1_Num.j2 (K + 1) x0 x4 false)) else (none))) := by
    simp only [signalboxref1_Num.j1]
  rw [h1, toList_L]
  by_cases c1 : x4.size = 0
  · rw [if_pos (by omega)]
    exact ⟨fun _ => ht _ _, fun h => absurd (Or.inl c1) h⟩
  · rw [if_neg (by omega)]
    by_cases c2 : 19 < x4.size
    · rw [if_pos (by omega)]
      exact ⟨fun _ => ht _ _, fun h => absurd (Or.inr (Or.inl c2)) h⟩
    · rw [if_neg (by omega), if_pos (by omega)]
      by_cases c3 : bt x4 0 = 48
      · rw [if_pos c3]
        by_cases c4 : L x0 = [48]
        · rw [show (L x0 != [48]) = false by rw [c4]; rfl]
          exact ⟨fun h => by rcases h with h | h | h <;> first | omega | exact absurd c4 h.2, fun _ => hf _ _⟩
        · rw [show (L x0 != [48]) = true by rw [bne_iff_ne]; exact c4]
          exact ⟨fun _ => ht _ _, fun h => absurd (Or.inr (Or.inr ⟨c3, c4⟩)) h⟩
      · rw [if_neg c3]
        exact ⟨fun h => by rcases h with h | h | h <;> first | omega | exact absurd h.1 c3, fun _ => hf _ _⟩

theorem f_spec (K : Nat) (b : ByteArray) :
    signalboxref1_Num.f (K + 1) b = if 0 < b.size ∧ bt b 0 = 45 then signalboxref1_Num.j1 K b (b.extract 1 b.size) else signalboxref1_Num.j1 K b b := by
  unfold signalboxref1_Num.f
  by_cases h : 0 < b.size
  · rw [if_pos (by omega), if_pos (by omega)]
    by_cases h2 : bt b 0 = 45
    · rw [if_pos ⟨h, h2⟩, show (bt b 0 == 45) = true by rw [beq_iff_eq]; exact h2]
      simp only [signalboxref1_Num.j0]
      rw [if_pos trivial, if_pos (by omega)]
    · rw [if_neg (fun h' => h2 h'.2), show (bt b 0 == 45) = false by rw [beq_eq_false_iff_ne]; exact h2]
      simp [signalboxref1_Num.j0]
  · rw [if_neg (by omega), if_neg (fun h' => h h'.1)]
    simp [signalboxref1_Num.j0]

theorem bt_head {b : ByteArray} {c : UInt8} {r : List UInt8} (h : L b = c :: r) : bt b 0 = c.toNat := by
  have := (bt_cons (s := b) (i := 0) (c := c) (r := r) (by simpa using h)).1
  simpa using this
theorem L_extract (b : ByteArray) (i j : Nat) : L (b.extract i j) = ((L b).drop i).take (j - i) := Lib.extract_data b i j
theorem L_tail {b : ByteArray} {c : UInt8} {r : List UInt8} (h : L b = c :: r) : L (b.extract 1 b.size) = r := by
  rw [L_extract, h, ← L_len, h]
  simp
theorem L_itoa (n : Int) : L (itoaB n) = Lib.itoa n := by simp [itoaB]

/-- A numeral is read as its number. -/
theorem num_yes (n : Int) (h0 : -9223372036854775808 ≤ n) (h1 : n ≤ 9223372036854775807) (K : Nat) (hK : 40 ≤ K) : signalboxref1_Num.f K (itoaB n) = some (n, true) := by
  obtain ⟨K, rfl⟩ : ∃ K', K = K' + 1 + 1 + 1 := ⟨K - 3, by omega⟩
  rw [f_spec]
  have hL := L_itoa n
  unfold Lib.itoa at hL
  split at hL
  · rename_i hn
    obtain ⟨u, hu⟩ : ∃ u, n.natAbs = u := ⟨_, rfl⟩
    rw [hu] at hL
    have hlen := Num.decDigits_len19 u (by omega)
    rw [if_pos ⟨by rw [← L_len, hL]; simp, bt_head hL⟩]
    have hT := L_tail hL
    obtain ⟨c, r, hcr⟩ := List.exists_cons_of_ne_nil (Num.decDigits_ne u)
    have hc49 := Num.decDigits_head u (by omega) c r hcr
    have hsz : ((itoaB n).extract 1 (itoaB n).size).size = (Lib.decDigits u).length := by rw [← L_len, hT]
    have hsz0 : (itoaB n).size = (Lib.decDigits u).length + 1 := by rw [← L_len, hL]; simp
    have hpos : 0 < (Lib.decDigits u).length := by rw [hcr]; simp
    have hb := bt_head (hT.trans hcr)
    rw [(j1_spec K _ _).2 (by rw [hsz]; intro h; rcases h with h | h | h; omega; omega; rw [hb] at h; omega)]
    have hl := (l0_spec (itoaB n) ((itoaB n).extract 1 (itoaB n).size) (by omega) _ 0 0 K (Lib.decDigits u) (by omega) rfl (by omega) (by omega) (by simpa using hT)).1 ⟨Num.decDigits_dig u, by rw [Num.val_decDigits]; omega⟩
    have hl' : signalboxref1_Num.l0 K (itoaB n) ((itoaB n).extract 1 (itoaB n).size) 0 0 = _ := hl
    rw [hl', Num.val_decDigits]
    unfold numFin
    rw [if_pos (by omega)]
    congr 2; omega
  · rename_i hn
    obtain ⟨u, hu⟩ : ∃ u, n.toNat = u := ⟨_, rfl⟩
    rw [hu] at hL
    have hlen := Num.decDigits_len19 u (by omega)
    obtain ⟨c, r, hcr⟩ := List.exists_cons_of_ne_nil (Num.decDigits_ne u)
    have hcd := Num.decDigits_dig u c (by rw [hcr]; simp)
    have hcd' : 48 ≤ c.toNat ∧ c.toNat ≤ 57 := hcd
    have hb := bt_head (hL.trans hcr)
    rw [if_neg (by rw [hb]; omega)]
    have hsz0 : (itoaB n).size = (Lib.decDigits u).length := by rw [← L_len, hL]
    have hpos : 0 < (Lib.decDigits u).length := by rw [hcr]; simp
    rw [(j1_spec K _ _).2 (by
      rw [hsz0]; intro h; rcases h with h | h | h
      · omega
      · omega
      · rw [hb, hL] at h
        by_cases hu1 : 1 ≤ u
        · have := Num.decDigits_head u hu1 c r hcr; omega
        · obtain rfl : u = 0 := by omega
          exact h.2 (by rw [Lib.decDigits]; rfl))]
    have hl := (l0_spec (itoaB n) (itoaB n) (by omega) _ 0 0 K (Lib.decDigits u) (by omega) rfl (by omega) (by omega) (by simpa using hL)).1 ⟨Num.decDigits_dig u, by rw [Num.val_decDigits]; omega⟩
    have hl' : signalboxref1_Num.l0 K (itoaB n) (itoaB n) 0 0 = _ := hl
    rw [hl', Num.val_decDigits]
    unfold numFin
    rw [if_neg (by omega), if_neg (by omega)]
    congr 2; omega

theorem list_cases (b : ByteArray) : L b = [] ∨ ∃ c r, L b = c :: r := by
  cases h : L b with
  | nil => exact .inl rfl
  | cons c r => exact .inr ⟨c, r, rfl⟩
theorem size_zero {b : ByteArray} (h : b.size = 0) : L b = [] := List.length_eq_zero_iff.1 (by rw [L_len]; exact h)

/-- What is read as a number is its numeral. -/
theorem num_sound (b : ByteArray) (hb : b.size ≤ 100000) (K : Nat) (hK : b.size + 10 ≤ K) :
    ∃ n ok, signalboxref1_Num.f K b = some (n, ok) ∧ (ok = true → -9223372036854775808 ≤ n ∧ n ≤ 9223372036854775807 ∧ b = itoaB n) := by
  obtain ⟨K, rfl⟩ : ∃ K', K = K' + 1 + 1 + 1 := ⟨K - 3, by omega⟩
  rw [f_spec]
  have key : ∀ d : ByteArray, d.size ≤ b.size → (∀ v, numFin b d v = some (-(v : Int), true) → True) →
      ∃ n ok, signalboxref1_Num.j1 (K + 1 + 1) b d = some (n, ok) ∧ (ok = true → (¬ (d.size = 0 ∨ 19 < d.size ∨ (bt d 0 = 48 ∧ L b ≠ [48]))) ∧ (∀ c ∈ L d, dig c) ∧ val (L d) 0 ≤ 9223372036854775808 ∧ numFin b d (val (L d) 0) = some (n, true)) := by
    intro d hd _
    by_cases hbad : d.size = 0 ∨ 19 < d.size ∨ (bt d 0 = 48 ∧ L b ≠ [48])
    · exact ⟨0, false, (j1_spec K b d).1 hbad, fun h => by simp at h⟩
    · rw [(j1_spec K b d).2 hbad]
      have hl := l0_spec b d (by omega) d.size 0 0 K (L d) (by omega) rfl (by omega) (by omega) (by simp)
      by_cases hg : (∀ c ∈ L d, dig c) ∧ val (L d) 0 ≤ 9223372036854775808
      · have h1 : signalboxref1_Num.l0 K b d 0 0 = _ := hl.1 hg
        rw [h1]
        obtain ⟨n, ok, hn⟩ : ∃ n ok, numFin b d (val (L d) 0) = some (n, ok) := by
          unfold numFin; split
          · exact ⟨_, _, rfl⟩
          · split
            · exact ⟨_, _, rfl⟩
            · exact ⟨_, _, rfl⟩
        exact ⟨n, ok, hn, fun h => by subst h; exact ⟨hbad, hg.1, hg.2, hn⟩⟩
      · have h1 : signalboxref1_Num.l0 K b d 0 0 = _ := hl.2 hg
        exact ⟨0, false, h1, fun h => by simp at h⟩
  have hhead : ∀ d : ByteArray, ¬ (d.size = 0 ∨ 19 < d.size ∨ (bt d 0 = 48 ∧ L b ≠ [48])) → L d ≠ [] := fun d h e => h (.inl (by rw [← L_len, e]; rfl))
  split
  · rename_i hneg
    obtain ⟨hpos, h45⟩ := hneg
    obtain ⟨c, r, hcr⟩ : ∃ c r, L b = c :: r := by
      rcases list_cases b with h | h
      · rw [← L_len, h] at hpos; simp at hpos
      · exact h
    have hT := L_tail hcr
    have hc45 : c = 45 := by
      have := bt_head hcr
      rw [h45] at this
      apply UInt8.toNat_inj.1
      show c.toNat = 45
      omega
    subst hc45
    have hsz : (b.extract 1 b.size).size + 1 = b.size := by rw [← L_len, hT, ← L_len b, hcr]; simp
    obtain ⟨n, ok, hj, hok⟩ := key (b.extract 1 b.size) (by omega) (fun _ _ => trivial)
    refine ⟨n, ok, hj, fun h => ?_⟩
    obtain ⟨hbad, hd, hv, hf⟩ := hok h
    rw [hT] at hd hv hf
    unfold numFin at hf
    rw [if_pos (by omega)] at hf
    injection hf with hf
    injection hf with hf _
    have hne := hhead _ hbad
    rw [hT] at hne
    have hdec := Num.decDigits_val r.length r rfl hne hd (fun c' r' e => by
      have hb0 := bt_head (hT.trans e)
      have hcd : dig c' := hd c' (by rw [e]; simp)
      have hcd' : 48 ≤ c'.toNat ∧ c'.toNat ≤ 57 := hcd
      by_cases h48 : c'.toNat = 48
      · exact absurd (Or.inr (Or.inr ⟨by rw [hb0]; omega, by rw [hcr, e]; simp⟩)) hbad
      · exact .inl (by omega))
    obtain ⟨c', r', e⟩ := List.exists_cons_of_ne_nil hne
    have h49 : 49 ≤ c'.toNat := by
      have hb0 := bt_head (hT.trans e)
      have hcd : dig c' := hd c' (by rw [e]; simp)
      have hcd' : 48 ≤ c'.toNat ∧ c'.toNat ≤ 57 := hcd
      by_cases h48 : c'.toNat = 48
      · exact absurd (Or.inr (Or.inr ⟨by rw [hb0]; omega, by rw [hcr, e]; simp⟩)) hbad
      · omega
    have hvpos : 1 ≤ val r 0 := by rw [e]; exact Num.val_pos r' c' h49
    refine ⟨by omega, by omega, ext_L ?_⟩
    rw [L_itoa, ← hf, Lib.itoa_neg _ hvpos, hdec, hcr]
  · rename_i hneg
    obtain ⟨n, ok, hj, hok⟩ := key b (by omega) (fun _ _ => trivial)
    refine ⟨n, ok, hj, fun h => ?_⟩
    obtain ⟨hbad, hd, hv, hf⟩ := hok h
    unfold numFin at hf
    rw [if_neg (by omega)] at hf
    split at hf
    · injection hf with hf; injection hf with _ hf; simp at hf
    · rename_i hv2
      injection hf with hf
      injection hf with hf _
      have hne := hhead _ hbad
      have hdec := Num.decDigits_val (L b).length (L b) rfl hne hd (fun c' r' e => by
        have hb0 := bt_head e
        have hcd : dig c' := hd c' (by rw [e]; simp)
        have hcd' : 48 ≤ c'.toNat ∧ c'.toNat ≤ 57 := hcd
        by_cases h48 : c'.toNat = 48
        · by_cases hr' : r' = []
          · exact .inr hr'
          · exact absurd (Or.inr (Or.inr ⟨by rw [hb0]; omega, by rw [e]; intro h'; injection h' with _ h'; exact hr' h'⟩)) hbad
        · exact .inl (by omega))
      refine ⟨by omega, by omega, ext_L ?_⟩
      rw [L_itoa, ← hf, Lib.itoa_nonneg, hdec]
end Go.Proofs.YtmjflpffafnkdaaDoor
