/- Plain laws on decimal numerals: no program here. A numeral is read back as the number that it spells, and no other text is. -/
import Derived.Lib.AtoiAllCases
import Derived.Lib.Itoa
import Derived.Lib.ItoaLen
import Derived.Lib.ItoaMem
namespace Go.Proofs.YtmjflpffafnkdaaDoor.Num
open Go

def val (l : List UInt8) (acc : Nat) : Nat := l.foldl (fun a c => a * 10 + (c.toNat - 48)) acc
def dig (c : UInt8) : Prop := 48 ≤ c.toNat ∧ c.toNat ≤ 57
theorem val_cons (c : UInt8) (l : List UInt8) (acc : Nat) : val (c :: l) acc = val l (acc * 10 + (c.toNat - 48)) := by unfold val; rw [List.foldl_cons]
theorem val_snoc (l : List UInt8) (c : UInt8) (acc : Nat) : val (l ++ [c]) acc = val l acc * 10 + (c.toNat - 48) := by simp [val, List.foldl_append]
theorem val_ge (l : List UInt8) (acc : Nat) : acc ≤ val l acc := by
  induction l generalizing acc with
  | nil => exact Nat.le_refl _
  | cons c l ih => rw [val_cons]; exact Nat.le_trans (by omega) (ih _)
theorem ofNat_toNat (d : Nat) (h : d < 10) : (UInt8.ofNat (48 + d)).toNat = 48 + d := by simp; omega
theorem decDigits_dig (u : Nat) : ∀ c ∈ Lib.decDigits u, dig c := by
  induction u using Nat.strongRecOn with
  | ind u ih =>
    intro c hc
    rw [Lib.decDigits] at hc
    split at hc
    · rename_i h
      obtain rfl : c = _ := List.mem_singleton.1 hc
      have := ofNat_toNat u h; unfold dig; omega
    · rcases List.mem_append.1 hc with h | h
      · exact ih _ (by omega) c h
      · obtain rfl : c = _ := List.mem_singleton.1 h
        have := ofNat_toNat (u % 10) (by omega); unfold dig; omega
theorem decDigits_ne (u : Nat) : Lib.decDigits u ≠ [] := by
  rw [Lib.decDigits]; split <;> simp
theorem val_decDigits (u : Nat) : val (Lib.decDigits u) 0 = u := by
  induction u using Nat.strongRecOn with
  | ind u ih =>
    rw [Lib.decDigits]
    split
    · rename_i h
      have := ofNat_toNat u h; simp only [val, List.foldl_cons, List.foldl_nil]; omega
    · rw [val_snoc, ih _ (by omega)]
      have := ofNat_toNat (u % 10) (by omega); omega
/-- The head is no 0, but for 0 itself. -/
theorem decDigits_head (u : Nat) (h : 1 ≤ u) : ∀ c r, Lib.decDigits u = c :: r → 49 ≤ c.toNat := by
  induction u using Nat.strongRecOn with
  | ind u ih =>
    intro c r hc
    rw [Lib.decDigits] at hc
    split at hc
    · rename_i h'
      injection hc with h1 _
      subst h1
      have := ofNat_toNat u h'; omega
    · rename_i h'
      obtain ⟨c', r', hcr⟩ := List.exists_cons_of_ne_nil (decDigits_ne (u / 10))
      rw [hcr, List.cons_append] at hc
      injection hc with h1 _
      subst h1
      exact ih (u / 10) (by omega) (by omega) c' r' hcr
theorem val_pos (l : List UInt8) (c : UInt8) (hc : 49 ≤ c.toNat) : 1 ≤ val (c :: l) 0 := by
  rw [val_cons]; exact Nat.le_trans (by omega) (val_ge l _)
theorem snoc_cases (l : List UInt8) (h : l ≠ []) : ∃ r c, l = r ++ [c] := ⟨l.dropLast, l.getLast h, (List.dropLast_concat_getLast h).symm⟩
theorem u8_ofNat (c : UInt8) (h : dig c) : UInt8.ofNat (48 + (c.toNat - 48)) = c := by
  have : 48 + (c.toNat - 48) = c.toNat := by unfold dig at h; omega
  rw [this]; exact UInt8.ofNat_toNat
/-- Digits without a 0 ahead are the numeral of what they spell. -/
theorem decDigits_val (n : Nat) : ∀ l : List UInt8, l.length = n → l ≠ [] → (∀ c ∈ l, dig c) → (∀ c r, l = c :: r → 49 ≤ c.toNat ∨ r = []) → Lib.decDigits (val l 0) = l := by
  induction n with
  | zero => intro l hl hne; exact absurd (List.length_eq_zero_iff.1 hl) hne
  | succ n ih =>
    intro l hl hne hd hh
    obtain ⟨r, c, rfl⟩ := snoc_cases l hne
    have hc : dig c := hd c (by simp)
    have hrl : r.length = n := by simpa using hl
    rw [val_snoc]
    cases r with
    | nil =>
      have h10 : val [] 0 * 10 + (c.toNat - 48) < 10 := by unfold dig at hc; simp [val]; omega
      rw [Lib.decDigits, dif_pos h10]
      simp only [val, List.foldl_nil, Nat.zero_mul, Nat.zero_add, List.nil_append]
      rw [u8_ofNat c hc]
    | cons c0 r0 =>
      have h49 : 49 ≤ c0.toNat := by
        rcases hh c0 (r0 ++ [c]) rfl with h | h
        · exact h
        · simp at h
      have hpos := val_pos r0 c0 h49
      have hd9 : c.toNat - 48 < 10 := by unfold dig at hc; omega
      rw [Lib.decDigits, dif_neg (by omega), show (val (c0 :: r0) 0 * 10 + (c.toNat - 48)) / 10 = val (c0 :: r0) 0 by omega, show (val (c0 :: r0) 0 * 10 + (c.toNat - 48)) % 10 = c.toNat - 48 by omega,
        ih (c0 :: r0) hrl (by simp) (fun x hx => hd x (List.mem_append.2 (.inl hx))) (fun a b e => by injection e with e1 _; subst e1; exact .inl h49), u8_ofNat c hc]
theorem parse_val (l : List UInt8) (acc : Nat) (hd : ∀ c ∈ l, dig c) (hv : val l acc < 18446744073709551616) : Lib.parseUint10 acc l = .ok (val l acc) := by
  induction l generalizing acc with
  | nil => rfl
  | cons c l ih =>
    have hc : dig c := hd c (by simp)
    rw [val_cons] at hv ⊢
    have hge := val_ge l (acc * 10 + (c.toNat - 48))
    unfold Lib.parseUint10
    rw [if_pos (show 48 ≤ c.toNat ∧ c.toNat ≤ 57 from hc), if_neg (by omega), if_neg (by omega)]
    exact ih _ (fun x hx => hd x (by simp [hx])) hv
theorem parseMag_dec (u : Nat) (h : u < 18446744073709551616) : Lib.parseMag (Lib.decDigits u) = .ok u := by
  unfold Lib.parseMag
  rw [if_neg (decDigits_ne u), parse_val _ _ (decDigits_dig u) (by rw [val_decDigits]; exact h), val_decDigits]
theorem atoi_itoa (n : Int) (h0 : -9223372036854775808 ≤ n) (h1 : n ≤ 9223372036854775807) : Lib.atoiAll (Lib.itoa n) = .ok n := by
  unfold Lib.itoa
  split
  · rename_i hn
    rw [Lib.atoiAll_minus, parseMag_dec _ (by omega)]
    show (if 9223372036854775808 < n.natAbs then _ else _) = _
    rw [if_neg (by omega)]
    congr 1; omega
  · rename_i hn
    obtain ⟨c, r, hcr⟩ := List.exists_cons_of_ne_nil (decDigits_ne n.toNat)
    have hc : dig c := decDigits_dig n.toNat c (by rw [hcr]; simp)
    rw [hcr, Lib.atoiAll_plain c r (by unfold dig at hc; omega) (by unfold dig at hc; omega), ← hcr, parseMag_dec _ (by omega)]
    show (if 9223372036854775808 ≤ n.toNat then _ else _) = _
    rw [if_neg (by omega)]
    congr 1; omega
theorem decDigits_len (k : Nat) : ∀ u, u < 10 ^ (k + 1) → (Lib.decDigits u).length ≤ k + 1 := by
  induction k with
  | zero =>
    intro u hu
    rw [Lib.decDigits, dif_pos (by omega)]; simp
  | succ k ih =>
    intro u hu
    rw [Lib.decDigits]
    split
    · simp
    · rw [List.length_append]
      have h10 : (10 : Nat) ^ (k + 1 + 1) = 10 * 10 ^ (k + 1) := by rw [Nat.pow_succ]; omega
      have := ih (u / 10) (by omega)
      simp only [List.length_cons, List.length_nil]; omega
theorem decDigits_len19 (u : Nat) (h : u ≤ 9223372036854775808) : (Lib.decDigits u).length ≤ 19 := by
  have := decDigits_len 18 u (by have : (10 : Nat) ^ (18 + 1) = 10000000000000000000 := by decide
                                 omega)
  omega
end Go.Proofs.YtmjflpffafnkdaaDoor.Num
