/- Plain laws: the reference's words and rows. -/
import Derived.Test.YtmjflpffafnkdaaDoorO
namespace Go.Proofs.YtmjflpffafnkdaaDoor
open Go.RowKit
open Go.Proofs.YtmjflpffafnkdaaDoorW.PrintWords Go.Proofs.YtmjflpffafnkdaaDoorW.PrintLast Go.Proofs.YtmjflpffafnkdaaDoorW.PrintMore
open PScriptSpoilt
open Num (val dig)

/-- A text's pieces between blanks. -/
def sp : List UInt8 → List (List UInt8)
  | [] => [[]]
  | c :: r => if c = 32 then [] :: sp r else match sp r with
    | p :: ps => (c :: p) :: ps
    | [] => [[c]]
theorem sp_cons (c : UInt8) (r : List UInt8) : sp (c :: r) = if c = 32 then [] :: sp r else match sp r with
    | p :: ps => (c :: p) :: ps
    | [] => [[c]] := rfl
theorem sp_ne (l : List UInt8) : sp l ≠ [] := by
  cases l with
  | nil => simp [sp]
  | cons c r =>
    unfold sp
    split
    · simp
    · split <;> simp
theorem sp_none (a : List UInt8) (h : ∀ c ∈ a, c ≠ 32) : sp a = [a] := by
  induction a with
  | nil => rfl
  | cons c r ih =>
    unfold sp
    rw [if_neg (h c (by simp)), ih (fun x hx => h x (by simp [hx]))]
theorem sp_cut (a rest : List UInt8) (h : ∀ c ∈ a, c ≠ 32) : sp (a ++ 32 :: rest) = a :: sp rest := by
  induction a with
  | nil => simp [sp]
  | cons c r ih =>
    rw [List.cons_append, sp_cons, if_neg (h c (by simp)), ih (fun x hx => h x (by simp [hx]))]
def joinL (l : List (List UInt8)) : List UInt8 := l.flatMap fun p => 32 :: p
theorem sp_join (l : List UInt8) : ∀ p ps, sp l = p :: ps → l = p ++ joinL ps := by
  induction l with
  | nil => intro p ps h; simp [sp] at h; obtain ⟨rfl, rfl⟩ := h; rfl
  | cons c r ih =>
    intro p ps h
    unfold sp at h
    split at h
    · rename_i hc
      injection h with h1 h2
      subst h1
      obtain ⟨p', ps', e⟩ := List.exists_cons_of_ne_nil (sp_ne r)
      rw [← h2, e]
      have := ih p' ps' e
      simp [joinL, hc]
      exact this
    · split at h
      · rename_i p' ps' e
        injection h with h1 h2
        subst h1 h2
        rw [List.cons_append, ← ih p' ps' e]
      · rename_i e; exact absurd e (sp_ne r)
theorem sp_len (l : List UInt8) : (sp l).length ≤ l.length + 1 := by
  induction l with
  | nil => simp [sp]
  | cons c r ih =>
    unfold sp
    split
    · simp only [List.length_cons]; omega
    · split
      · rename_i p ps e; rw [e] at ih; simp only [List.length_cons] at ih ⊢; omega
      · simp
theorem sp_size (l : List UInt8) : ∀ p ∈ sp l, p.length ≤ l.length := by
  induction l with
  | nil => intro p hp; simp [sp] at hp; subst hp; simp
  | cons c r ih =>
    intro p hp
    unfold sp at hp
    split at hp
    · rcases List.mem_cons.1 hp with rfl | hp
      · simp
      · have := ih p hp; simp only [List.length_cons]; omega
    · split at hp
      · rename_i q qs e
        rcases List.mem_cons.1 hp with rfl | hp
        · have := ih q (by rw [e]; simp); simp only [List.length_cons]; omega
        · have := ih p (by rw [e]; simp [hp]); simp only [List.length_cons]; omega
      · obtain rfl : p = [c] := List.mem_singleton.1 hp
        simp
theorem sp_of (p : List UInt8) (ps : List (List UInt8)) (hp : ∀ c ∈ p, c ≠ 32) (hps : ∀ q ∈ ps, ∀ c ∈ q, c ≠ 32) : sp (p ++ joinL ps) = p :: ps := by
  induction ps generalizing p with
  | nil => simp only [joinL, List.flatMap_nil, List.append_nil]; exact sp_none p hp
  | cons q qs ih =>
    have e : joinL (q :: qs) = 32 :: (q ++ joinL qs) := by simp [joinL]
    rw [e, sp_cut p _ hp, ih q (hps q (by simp)) (fun x hx => hps x (by simp [hx]))]

abbrev mk (l : List UInt8) : ByteArray := ⟨l.toArray⟩
theorem mk_L (b : ByteArray) : mk (L b) = b := ext_L (by simp)
theorem L_mk (l : List UInt8) : L (mk l) = l := by simp

theorem i_succ (i : Nat) (h : i ≤ 100000) : wrap64 ((i : Int) + 1) = ((i + 1 : Nat) : Int) := by rw [wrap_small (by omega) (by omega)]; omega
theorem w_last (x0 : ByteArray) (hsz : x0.size ≤ 100000) (acc : List ByteArray) (fr K : Nat) (hf : fr ≤ x0.size) (ha : acc.length ≤ 1000000) :
    signalboxref1_Words.l0 (K + 1 + 1) x0 acc (fr : Int) (x0.size : Int) = some (acc ++ [x0.extract fr x0.size]) := by
  have hend : ∀ l a, signalboxref1_Words.l0 (K + 1) x0 l a ((x0.size + 1 : Nat) : Int) = some l := fun l a => by
    simp only [signalboxref1_Words.l0]; rw [if_neg (by omega)]
  have h : signalboxref1_Words.l0 (K + 1 + 1) x0 acc (fr : Int) (x0.size : Int) = signalboxref1_Words.l0 (K + 1) x0 (acc ++ [x0.extract ((fr : Int)).toNat ((x0.size : Int)).toNat]) (wrap64 ((x0.size : Int) + 1)) (wrap64 ((x0.size : Int) + 1)) := by
    conv => lhs; unfold signalboxref1_Words.l0
    rw [if_pos (by omega), if_pos rfl, if_pos (by omega), if_pos (by omega), if_pos (by omega)]
  rw [h, i_succ _ hsz, hend, Int.toNat_natCast, Int.toNat_natCast]
theorem w_sp (x0 : ByteArray) (hsz : x0.size ≤ 100000) (acc : List ByteArray) (fr i K : Nat) (hf : fr ≤ i) (hi : i < x0.size) (ha : acc.length ≤ 1000000) (h32 : bt x0 (i : Int) = 32) :
    signalboxref1_Words.l0 (K + 1) x0 acc (fr : Int) (i : Int) = signalboxref1_Words.l0 K x0 (acc ++ [x0.extract fr i]) ((i + 1 : Nat) : Int) ((i + 1 : Nat) : Int) := by
  have h : signalboxref1_Words.l0 (K + 1) x0 acc (fr : Int) (i : Int) = signalboxref1_Words.l0 K x0 (acc ++ [x0.extract ((fr : Int)).toNat ((i : Int)).toNat]) (wrap64 ((i : Int) + 1)) (wrap64 ((i : Int) + 1)) := by
    conv => lhs; unfold signalboxref1_Words.l0
    rw [if_pos (by omega), if_neg (by omega), if_pos (by omega), if_pos (by omega), if_pos h32, if_pos (by omega), if_pos (by omega), if_pos (by omega)]
  rw [h, i_succ _ (by omega), Int.toNat_natCast, Int.toNat_natCast]
theorem w_no (x0 : ByteArray) (hsz : x0.size ≤ 100000) (acc : List ByteArray) (fr : Int) (i K : Nat) (hi : i < x0.size) (h32 : ¬ bt x0 (i : Int) = 32) :
    signalboxref1_Words.l0 (K + 1) x0 acc fr (i : Int) = signalboxref1_Words.l0 K x0 acc fr ((i + 1 : Nat) : Int) := by
  have h : signalboxref1_Words.l0 (K + 1) x0 acc fr (i : Int) = signalboxref1_Words.l0 K x0 acc fr (wrap64 ((i : Int) + 1)) := by
    conv => lhs; unfold signalboxref1_Words.l0
    rw [if_pos (by omega), if_neg (by omega), if_pos (by omega), if_pos (by omega), if_neg h32]
  rw [h, i_succ _ (by omega)]

theorem words_spec (x0 : ByteArray) (hsz : x0.size ≤ 100000) (d : Nat) : ∀ (acc : List ByteArray) (fr i K : Nat), fr ≤ i → i ≤ x0.size → x0.size - i = d → d + 1 < K → acc.length + d ≤ 1000000 →
    (∀ c ∈ ((L x0).drop fr).take (i - fr), c ≠ 32) →
    signalboxref1_Words.l0 K x0 acc (fr : Int) (i : Int) = some (acc ++ (sp ((L x0).drop fr)).map mk) := by
  induction d with
  | zero =>
    intro acc fr i K hfi hi hd hK hacc hno
    obtain ⟨K, rfl⟩ : ∃ K', K = K' + 1 + 1 := ⟨K - 2, by omega⟩
    obtain rfl : i = x0.size := by omega
    have hno' : ∀ c ∈ (L x0).drop fr, c ≠ 32 := by
      rw [List.take_of_length_le (by rw [List.length_drop, L_len]; omega)] at hno; exact hno
    rw [w_last x0 hsz acc fr K hfi (by omega), sp_none _ hno']
    congr 2
    simp only [List.map_cons, List.map_nil]
    congr 1
    apply ext_L
    rw [L_extract, L_mk, List.take_of_length_le (by rw [List.length_drop, L_len]; omega)]
  | succ d ih =>
    intro acc fr i K hfi hi hd hK hacc hno
    obtain ⟨K, rfl⟩ : ∃ K', K = K' + 1 := ⟨K - 1, by omega⟩
    have hlt : i < x0.size := by omega
    have hlt' : i < (L x0).length := by rw [L_len]; exact hlt
    have hdr := List.drop_eq_getElem_cons hlt'
    obtain ⟨hbt, _, _⟩ := bt_cons hdr
    obtain ⟨c, hc⟩ : ∃ c, (L x0)[i] = c := ⟨_, rfl⟩
    rw [hc] at hdr hbt
    have hsplit : (L x0).drop fr = ((L x0).drop fr).take (i - fr) ++ c :: (L x0).drop (i + 1) := by
      have h1 := (List.take_append_drop (i - fr) ((L x0).drop fr)).symm
      rw [List.drop_drop, show fr + (i - fr) = i by omega, hdr] at h1
      exact h1
    by_cases h32 : c = 32
    · subst h32
      rw [w_sp x0 hsz acc fr i K hfi hlt (by omega) hbt, ih _ (i + 1) (i + 1) K (by omega) (by omega) (by omega) (by omega) (by simp only [List.length_append, List.length_cons, List.length_nil]; omega) (by simp)]
      conv => rhs; rw [hsplit, sp_cut _ _ hno]
      rw [List.map_cons, List.append_assoc, List.singleton_append]
      congr 2
      congr 1
      apply ext_L
      rw [L_extract, L_mk]
    · have h32' : ¬ (bt x0 (i : Int) = 32) := by
        rw [hbt]
        exact fun h => h32 (UInt8.toNat_inj.1 (by show c.toNat = 32; omega))
      rw [w_no x0 hsz acc _ i K hlt h32', ih acc fr (i + 1) K (by omega) (by omega) (by omega) (by omega) (by omega) ?_]
      intro x hx
      rw [show i + 1 - fr = (i - fr) + 1 by omega] at hx
      have : ((L x0).drop fr).take (i - fr + 1) = ((L x0).drop fr).take (i - fr) ++ [c] := by
        rw [List.take_succ_eq_append_getElem (by rw [List.length_drop]; omega)]
        congr 2
        rw [List.getElem_drop, ← hc]; congr 1; omega
      rw [this] at hx
      rcases List.mem_append.1 hx with h | h
      · exact hno x h
      · obtain rfl : x = c := List.mem_singleton.1 h
        exact h32
theorem words_all (x0 : ByteArray) (hsz : x0.size ≤ 100000) (K : Nat) (hK : x0.size + 1 < K) : signalboxref1_Words.f K x0 = some ((sp (L x0)).map mk) := by
  have := words_spec x0 hsz x0.size [] 0 0 K (by omega) (by omega) (by omega) hK (by simp; omega) (by simp)
  unfold signalboxref1_Words.f
  rw [List.nil_append, List.drop_zero] at this
  exact this

theorem r_end (ws : List ByteArray) (acc : List Int) (i K : Nat) (h : ws.length ≤ i) : signalboxref31_row.l0 (K + 1) ws acc (i : Int) = some (acc, true) := by
  simp only [signalboxref31_row.l0]; rw [if_neg (by omega)]
theorem r_step (ws : List ByteArray) (acc : List Int) (i K : Nat) (b : ByteArray) (n : Int) (ok : Bool) (hi : i ≤ 100000) (hb : ws[i]? = some b) (ha : acc.length ≤ 1000000) (hn : signalboxref1_Num.f K b = some (n, ok)) :
    signalboxref31_row.l0 (K + 1) ws acc (i : Int) = if ok = true then signalboxref31_row.l0 K ws (acc ++ [n]) ((i + 1 : Nat) : Int) else some ([], false) := by
  have hlt : i < ws.length := (List.getElem?_eq_some_iff.1 hb).1
  have hrd : rdOf ByteArray.empty ws (i : Int) = b := by unfold rdOf; rw [Int.toNat_natCast, List.getD_eq_getElem?_getD, hb]; rfl
  conv => lhs; unfold signalboxref31_row.l0
  rw [if_pos (by omega), if_pos (by omega), hrd, hn]
  simp only [Option.bind_some]
  cases ok
  · rfl
  · rw [if_pos rfl, if_pos rfl, if_pos (by omega), i_succ i hi]

theorem r_spec (ws : List ByteArray) (M : Nat) (hM : M ≤ 100000) (hws : ∀ b ∈ ws, b.size ≤ M) (hl : ws.length ≤ 100000) (d : Nat) : ∀ (acc : List Int) (i K : Nat), ws.length - i = d → d + M + 50 ≤ K → acc.length + d ≤ 1000000 →
    (∃ r ok, signalboxref31_row.l0 K ws acc (i : Int) = some (r, ok) ∧ (ok = true → ∃ l, r = acc ++ l ∧ I64 l ∧ ws.drop i = l.map itoaB) ∧ (ok = false → r = [])) ∧
    (∀ l, I64 l → ws.drop i = l.map itoaB → signalboxref31_row.l0 K ws acc (i : Int) = some (acc ++ l, true)) := by
  induction d with
  | zero =>
    intro acc i K hd hK ha
    obtain ⟨K, rfl⟩ : ∃ K', K = K' + 1 := ⟨K - 1, by omega⟩
    rw [r_end ws acc i K (by omega)]
    have hdrop : ws.drop i = [] := List.drop_eq_nil_of_le (by omega)
    refine ⟨⟨acc, true, rfl, fun _ => ⟨[], by simp, fun x hx => by simp at hx, by rw [hdrop]; rfl⟩, fun h => by simp at h⟩, fun l _ h => ?_⟩
    rw [hdrop] at h
    have : l = [] := List.map_eq_nil_iff.1 h.symm
    subst this
    simp
  | succ d ih =>
    intro acc i K hd hK ha
    obtain ⟨K, rfl⟩ : ∃ K', K = K' + 1 := ⟨K - 1, by omega⟩
    have hlt : i < ws.length := by omega
    obtain ⟨b, hb⟩ : ∃ b, ws[i]? = some b := ⟨_, List.getElem?_eq_getElem hlt⟩
    have hbm : b ∈ ws := List.mem_of_getElem? hb
    have hbs := hws b hbm
    have hdr : ws.drop i = b :: ws.drop (i + 1) := by
      rw [List.drop_eq_getElem_cons hlt]
      congr 1
      exact (List.getElem?_eq_some_iff.1 hb).2
    obtain ⟨n, ok, hn, hok⟩ := num_sound b (by omega) K (by omega)
    rw [r_step ws acc i K b n ok (by omega) hb (by omega) hn]
    constructor
    · cases ok with
      | false => exact ⟨[], false, rfl, fun h => by simp at h, fun _ => rfl⟩
      | true =>
        rw [if_pos rfl]
        obtain ⟨h0, h1, hbi⟩ := hok rfl
        obtain ⟨⟨r, ok, hr, ht, hf⟩, _⟩ := ih (acc ++ [n]) (i + 1) K (by omega) (by omega) (by simp only [List.length_append, List.length_cons, List.length_nil]; omega)
        refine ⟨r, ok, hr, fun h => ?_, hf⟩
        obtain ⟨l, rfl, hi, hl⟩ := ht h
        refine ⟨n :: l, by simp, fun x hx => ?_, ?_⟩
        · rcases List.mem_cons.1 hx with rfl | hx
          · exact ⟨h0, h1⟩
          · exact hi x hx
        · rw [hdr, hl, hbi]; rfl
    · intro l hi hl
      rw [hdr] at hl
      cases l with
      | nil => simp at hl
      | cons x l =>
        rw [List.map_cons] at hl
        injection hl with h1 h2
        have hx := hi x (by simp)
        have hy := num_yes x hx.1 hx.2 K (by omega)
        rw [← h1, hn] at hy
        injection hy with hy
        injection hy with hy1 hy2
        subst hy1 hy2
        rw [if_pos rfl, (ih (acc ++ [n]) (i + 1) K (by omega) (by omega) (by simp only [List.length_append, List.length_cons, List.length_nil]; omega)).2 l (fun y hy => hi y (by simp [hy])) h2]
        simp

theorem itoa_no32 (n : Int) : ∀ c ∈ Lib.itoa n, c ≠ 32 := by
  intro c hc
  have hd : ∀ u, ∀ c ∈ Lib.decDigits u, c ≠ 32 := fun u c h => by
    have h2 : 48 ≤ c.toNat ∧ c.toNat ≤ 57 := Num.decDigits_dig u c h
    rintro rfl
    exact absurd h2.1 (by decide)
  unfold Lib.itoa at hc
  split at hc
  · rcases List.mem_cons.1 hc with rfl | hc
    · decide
    · exact hd _ c hc
  · exact hd _ c hc
theorem L_addNums (w : ByteArray) (l : List Int) : L (addNums w l) = L w ++ joinL (l.map Lib.itoa) := by
  induction l generalizing w with
  | nil => simp [addNums, joinL]
  | cons n l ih =>
    have e : addNums w (n :: l) = addNums (w ++ ((⟨#[32]⟩ : ByteArray) ++ itoaB n)) l := rfl
    rw [e, ih]
    simp [joinL, ByteArray.data_append, itoaB]

/-- What row tells, of whatever text. -/
theorem row_spec (t word : ByteArray) (ht : t.size ≤ 90000) (hw : ∀ c ∈ L word, c ≠ 32) :
    (∃ r ok, signalboxref31_row.f (2 * t.size + 100) t word = some (r, ok) ∧ (ok = true → I64 r ∧ t = addNums word r) ∧ (ok = false → r = [])) ∧
    (∀ l, I64 l → t = addNums word l → signalboxref31_row.f (2 * t.size + 100) t word = some (l, true)) := by
  obtain ⟨p, ps, hp⟩ := List.exists_cons_of_ne_nil (sp_ne (L t))
  have hwds := words_all t (by omega) (2 * t.size + 100) (by omega)
  rw [hp, List.map_cons] at hwds
  have hlen : (mk p :: ps.map mk).length ≤ t.size + 1 := by
    have := sp_len (L t)
    rw [hp, L_len] at this
    simpa using this
  have hf : signalboxref31_row.f (2 * t.size + 100) t word = if (mk p).toList = word.toList then signalboxref31_row.l0 (2 * t.size + 100) (mk p :: ps.map mk) [] 1 else some ([], false) := by
    unfold signalboxref31_row.f
    rw [hwds]
    simp only [Option.bind_some]
    rw [if_pos (by simp)]
    rfl
  have hspec := r_spec (mk p :: ps.map mk) t.size (by omega) (fun b hb => by
    have hb' : b ∈ (p :: ps).map mk := hb
    obtain ⟨q, hq, rfl⟩ := List.mem_map.1 hb'
    have := sp_size (L t) q (by rw [hp]; exact hq)
    rw [L_len] at this
    rw [← L_len, L_mk]; exact this) (by omega) ((mk p :: ps.map mk).length - 1) [] 1 (2 * t.size + 100) rfl (by omega) (by simp only [List.length_nil]; omega)
  have hdrop : (mk p :: ps.map mk).drop 1 = ps.map mk := rfl
  rw [hdrop] at hspec
  have hone : ((1 : Nat) : Int) = 1 := rfl
  rw [hone] at hspec
  rw [hf]
  constructor
  · by_cases hpw : (mk p).toList = word.toList
    · rw [if_pos hpw]
      obtain ⟨r, ok, hr, h1, h2⟩ := hspec.1
      refine ⟨r, ok, hr, fun h => ?_, h2⟩
      obtain ⟨l, e, hi, hl⟩ := h1 h
      rw [List.nil_append] at e
      subst e
      refine ⟨hi, ext_L ?_⟩
      rw [L_addNums, sp_join (L t) p ps hp]
      have hp' : p = L word := by rw [toList_L, toList_L, L_mk] at hpw; exact hpw
      rw [hp']
      congr 1
      congr 1
      have := congrArg (List.map L) hl
      rw [List.map_map, List.map_map] at this
      rw [show (L ∘ mk) = id from funext fun x => L_mk x, List.map_id] at this
      rw [this]
      exact List.map_congr_left (fun x _ => L_itoa x)
    · rw [if_neg hpw]
      exact ⟨[], false, rfl, fun h => by simp at h, fun _ => rfl⟩
  · intro l hi hl
    have hL : L t = L word ++ joinL (l.map Lib.itoa) := by rw [hl, L_addNums]
    have hsp := sp_of (L word) (l.map Lib.itoa) hw (fun q hq => by
      obtain ⟨n, _, rfl⟩ := List.mem_map.1 hq
      exact itoa_no32 n)
    rw [← hL, hp] at hsp
    injection hsp with h1 h2
    rw [if_pos (by rw [toList_L, toList_L, L_mk]; exact h1)]
    have := hspec.2 l hi (by rw [h2, List.map_map]; rfl)
    simpa using this
end Go.Proofs.YtmjflpffafnkdaaDoor
