/- Words and first contracts of the script layer: a line's text, as the program makes it. Conditions: see each theorem. -/
import Derived.Test.YtmjflpffafnkdaaDoorProg
import Derived.WalkKit
import Derived.Lib.Hide
import Derived.Lib.Itoa
import Derived.Lib.ItoaLen
import Derived.Lib.LaidTab
import Derived.KernelRfl
import Derived.Sort.Grow
import Derived.Lib.AtoiAllCases
import Derived.Lib.AtoiErrMem
import Derived.Test.YtmjflpffafnkdaaDoorWWords
import Derived.Test.YtmjflpffafnkdaaDoorWLast
import Derived.Test.YtmjflpffafnkdaaDoorWMore
import Derived.Test.YtmjflpffafnkdaaDoorWQPut
import Derived.Test.YtmjflpffafnkdaaDoorShelf
namespace Go.Proofs.YtmjflpffafnkdaaDoor
open Go.RowKit
open Go.Proofs.YtmjflpffafnkdaaDoorW.PrintWords

def itoaB (n : Int) : ByteArray := ⟨(Lib.itoa n).toArray⟩
def addNums (s : ByteArray) (l : List Int) : ByteArray := l.foldl (fun s n => s ++ ((⟨#[32]⟩ : ByteArray) ++ itoaB n)) s
def lineB (word : ByteArray) (l : List Int) : ByteArray := addNums word l ++ (⟨#[10]⟩ : ByteArray)
/-- What the listed package-level variables hold, now. -/
structure LaidNow (w : World) : Prop where
  pow : Lib.TabIs Tryd.prog w "internal/strconv.uint64pow10" .u64 Lib.pow10Tab
  sp : Lib.TabIs Tryd.prog w "strings.asciiSpace" .u8 Lib.asciiSpaceTab
  white : Lib.WhiteTab 2 w
  es : ∃ tp p, w.var? Tryd.prog "strconv.ErrSyntax" = some #[.iface tp p]
  er : ∃ tp p, w.var? Tryd.prog "strconv.ErrRange" = some #[.iface tp p]
/-- Now, and as long as nothing that lies below block number B0 is written. -/
def Laid (B0 : Nat) (w : World) : Prop := B0 ≤ w.heap.size ∧ ∀ w', Below B0 w w' → LaidNow w'
variable {B0 : Nat}
theorem Laid.now {w : World} (h : Laid B0 w) : LaidNow w := h.2 w (Below.refl _ _)
theorem Laid.below0 {w w1 : World} (h : Laid B0 w) (hb : Below B0 w w1) : Laid B0 w1 := ⟨Nat.le_trans h.1 hb.size, fun w' h' => h.2 w' (hb.trans h')⟩
theorem Laid.below {w w1 : World} (h : Laid B0 w) (hb : Below w.heap.size w w1) : Laid B0 w1 := h.below0 (hb.mono h.1)
theorem Laid.grown {w w1 : World} {g : Nat} (h : Laid B0 w) (hg : w.grownBy w1 (some g)) (hB : B0 ≤ g) : Laid B0 w1 :=
  h.below0 ((Below.refl _ _).grown hg h.1 (fun k e => by injection e with e; omega))
theorem Laid.setCell {w : World} {p : Addr} (h : Laid B0 w) (hB : B0 ≤ p.block) (u : Value) : Laid B0 (w.setCell p u) := h.below0 ((Below.refl _ _).setCell hB u)

theorem addNums_snoc (s : ByteArray) (l : List Int) (n : Int) : addNums s (l ++ [n]) = addNums s l ++ ((⟨#[32]⟩ : ByteArray) ++ itoaB n) := by
  simp [addNums, List.foldl_append]

theorem Itoa_any (n : Int) (h0 : -9223372036854775808 ≤ n) (h1 : n ≤ 9223372036854775807) (w : World) (hL : Laid B0 w) :
    Calls Tryd.prog 19 #[.int .i64 n] w fun e w' => e = .returned (.string (itoaB n)) ∧ Below w.heap.size w w' :=
  (Tryd.strconv_Itoa n h0 h1 w hL.now.pow).mono (by
    rintro e w' ⟨rfl, k, os, rfl⟩
    refine ⟨rfl, (pw_below_drewN (Below.refl _ w) k).trans ⟨rfl, rfl, rfl, by simp [Sort.grow], fun j hj => ?_⟩⟩
    have hj' : j < (w.drewN k).heap.size := hj
    show ((w.drewN k).heap ++ os)[j]? = _
    rw [Array.getElem?_append_left hj'])

theorem itoaB_size (n : Int) (h0 : -9223372036854775808 ≤ n) (h1 : n ≤ 9223372036854775807) : (itoaB n).size ≤ 21 := Lib.itoa_length_le n h0 h1

theorem addNums_size (s : ByteArray) (l : List Int) (hb : ∀ x ∈ l, -9223372036854775808 ≤ x ∧ x ≤ 9223372036854775807) : (addNums s l).size ≤ s.size + 22 * l.length := by
  induction l generalizing s with
  | nil => simp [addNums]
  | cons x l ih =>
    have h := ih (s ++ ((⟨#[32]⟩ : ByteArray) ++ itoaB x)) (fun y hy => hb y (List.mem_cons_of_mem _ hy))
    have h2 := itoaB_size x (hb x (List.mem_cons_self ..)).1 (hb x (List.mem_cons_self ..)).2
    have e : addNums s (x :: l) = addNums (s ++ ((⟨#[32]⟩ : ByteArray) ++ itoaB x)) l := rfl
    rw [e]
    simp only [ByteArray.size_append, List.length_cons] at h ⊢
    have e2 : (⟨#[32]⟩ : ByteArray).size = 1 := rfl
    omega

def I64 (l : List Int) : Prop := ∀ x ∈ l, -9223372036854775808 ≤ x ∧ x ≤ 9223372036854775807
theorem take_snocI (l : List Int) (k : Nat) (h : k < l.length) : l.take (k + 1) = l.take k ++ [l.getD k 0] := by
  rw [List.take_succ_eq_append_getElem h, List.getD_eq_getElem?_getD, List.getElem?_eq_getElem h]; rfl

theorem rd_nat (l : List Int) (k : Nat) : rd l (k : Int) = l.getD k 0 := by simp [rd]

set_option maxHeartbeats 400000 in
theorem line_any (word : ByteArray) (A : Option Addr) (c : Nat) (l : List Int) (w : World) (hl : l.length ≤ 30000) (hw : word.size ≤ 1000)
    (hb : I64 l) (hr : Kd.C (Kd.int .i64) w A l.length l) (hL : Laid B0 w) :
    Calls Tryd.prog 12 #[.string word, .slice A l.length c] w fun e w' => e = .returned (.string (lineB word l)) ∧ Below w.heap.size w w' := by
  have HB := Lib.hid hb; clear hb
  have HR := Lib.hid hr; clear hr
  have HT := Lib.hid hL; clear hL
  go_enter Tryd.func12, Tryd.ntmps12
  go_wp2
  go_loopw [0, 9] (fun s i wr => ∃ k : Nat, k ≤ l.length ∧ i = .int .i64 k ∧ s = .string (addNums word (l.take k)) ∧ Below w.heap.size w wr) (fun _ i _ => l.length - (intOf i).toNat)
  case atStart => exact ⟨0, Nat.zero_le _, rfl, rfl, Below.refl _ _⟩
  case round =>
    obtain ⟨k, hk, rfl, rfl, hbel⟩ := hrel
    have hsz := addNums_size word (l.take k) (fun x hx => HB.out x (List.mem_of_mem_take hx))
    rw [List.length_take, Nat.min_eq_left hk] at hsz
    by_cases hlt : k < l.length
    · obtain ⟨ad, e1, hc⟩ := Kd.at_int (Kd.C_below HR.out hbel) (k : Int) (by omega) (by omega)
      cases e1
      have p1 := eq_true (show (0 : Int) ≤ (k : Int) by omega)
      have q1 := eq_true (show (k : Int) < (l.length : Int) by omega)
      rw [rd_nat, Int.toNat_natCast] at hc
      obtain ⟨x, hx⟩ : ∃ x, l.getD k 0 = x := ⟨_, rfl⟩
      rw [hx] at hc
      have hxb := HB.out x (by rw [← hx, List.getD_eq_getElem?_getD, List.getElem?_eq_getElem hlt]; exact List.getElem_mem _)
      have hxs := itoaB_size x hxb.1 hxb.2
      have HX := Lib.hid hx; clear hx
      go_wp2_with (go_at_call 19; refine (Itoa_any x hxb.1 hxb.2 _ (HT.out.below hbel)).mono ?_; rintro e w2 ⟨rfl, hb2⟩)
      go_roundw
      case rel => exact ⟨k + 1, by omega, by go_num, by rw [take_snocI l k hlt, HX.out, addNums_snoc], hbel.trans (hb2.mono hbel.size)⟩
      case measure => simp [intOf]; omega
    · obtain rfl : k = l.length := by omega
      rw [List.take_length] at hsz ⊢
      go_wp2
      go_ret
      exact ⟨rfl, hbel⟩

/-- What Atoi's number is, whatever the text. -/
def atoiV (l : List UInt8) : Int := match Lib.atoiAll l with
  | .ok v => v
  | .range => Lib.atoiSat l
  | _ => 0
theorem atoiV_bd (l : List UInt8) : -9223372036854775808 ≤ atoiV l ∧ atoiV l ≤ 9223372036854775807 := by
  unfold atoiV
  split
  · rename_i v h; exact Lib.atoiAll_bounds h
  · exact Lib.atoiSat_bounds l
  · exact ⟨by decide, by decide⟩

theorem Atoi_any (s : ByteArray) (hs : s.size ≤ 100000) (w : World) (hL : Laid B0 w) :
    Calls Tryd.prog 28 #[.string s] w fun e w' => (∃ x, e = .returned (.tuple #[.int .i64 (atoiV s.data.toList), x])) ∧ Below w.heap.size w w' := by
  cases h : Lib.atoiAll s.data.toList with
  | ok v =>
    refine (Tryd.strconv_Atoi_ok s (by omega) v h w).mono ?_
    rintro e w' ⟨rfl, hw⟩
    refine ⟨⟨_, by simp only [atoiV, h]; rfl⟩, ?_⟩
    rcases hw with rfl | ⟨t, rfl⟩
    · exact Below.refl _ _
    · exact Lib.bytesWorld_below w 5 t
  | range =>
    obtain ⟨tp, p, hv⟩ := hL.now.er
    refine (Tryd.strconv_Atoi_range_var s (by omega) h tp p w hv).mono ?_
    rintro e w' ⟨N, rfl, _, _, hb⟩
    exact ⟨⟨_, by simp only [atoiV, h]; rfl⟩, hb⟩
  | _ =>
    obtain ⟨tp, p, hv⟩ := hL.now.es
    refine (Tryd.strconv_Atoi_none s (by omega) (fun v e => by rw [h] at e; cases e) (fun e => by rw [h] at e; cases e) tp p w hv).mono ?_
    rintro e w' ⟨N, rfl, _, _, hb⟩
    exact ⟨⟨_, by simp only [atoiV, h]; rfl⟩, hb⟩

/-- The strings that strings.Fields makes of a text. -/
def fieldsB (s : ByteArray) : List ByteArray := (Lib.fieldsD s.data.toList).map fun x => ⟨x.toArray⟩

theorem fieldsGoD_bd : ∀ (f : Nat) (cur l : List UInt8), (Lib.fieldsGoD f cur l).length ≤ f + 1 ∧ ∀ x ∈ Lib.fieldsGoD f cur l, x.length ≤ cur.length + l.length := by
  intro f
  induction f with
  | zero =>
    intro cur l
    unfold Lib.fieldsGoD
    split
    · simp
    · refine ⟨by simp, fun x hx => ?_⟩
      obtain rfl : x = cur := by simpa using hx
      omega
  | succ f ih =>
    intro cur l
    unfold Lib.fieldsGoD
    split
    · split
      · simp
      · refine ⟨by simp, fun x hx => ?_⟩
        obtain rfl : x = cur := by simpa using hx
        omega
    · split
      · obtain ⟨h1, h2⟩ := ih [] (l.drop (Lib.decodeL l).2)
        refine ⟨?_, fun x hx => ?_⟩
        · rw [List.length_append]; split <;> simp <;> omega
        · rcases List.mem_append.1 hx with hx | hx
          · split at hx
            · simp at hx
            · obtain rfl : x = cur := by simpa using hx
              omega
          · have := h2 x hx
            simp only [List.length_nil, List.length_drop] at this
            omega
      · obtain ⟨h1, h2⟩ := ih (cur ++ l.take (Lib.decodeL l).2) (l.drop (Lib.decodeL l).2)
        refine ⟨by omega, fun x hx => ?_⟩
        have := h2 x hx
        simp only [List.length_append, List.length_take, List.length_drop] at this
        omega

theorem fieldsB_len (s : ByteArray) : (fieldsB s).length ≤ s.size + 2 := by
  have := (fieldsGoD_bd (s.data.toList.length + 1) [] s.data.toList).1
  have e : (fieldsB s).length = (Lib.fieldsGoD (s.data.toList.length + 1) [] s.data.toList).length := by simp [fieldsB, Lib.fieldsD]
  have e2 : s.data.toList.length = s.size := Array.length_toList
  omega
theorem fieldsB_size (s : ByteArray) : ∀ b ∈ fieldsB s, b.size ≤ s.size := by
  intro b hb
  obtain ⟨x, hx, rfl⟩ := List.mem_map.1 hb
  have := (fieldsGoD_bd (s.data.toList.length + 1) [] s.data.toList).2 x hx
  simp only [List.length_nil, Nat.zero_add] at this
  have e2 : s.data.toList.length = s.size := Array.length_toList
  have e3 : (⟨x.toArray⟩ : ByteArray).size = x.length := by simp [ByteArray.size]
  omega

theorem Fields_any (s : ByteArray) (hs : s.size ≤ 100000) (w : World) (hL : Laid B0 w) :
    Calls Tryd.prog 27 #[.string s] w fun e w' => ∃ A, e = .returned (.slice (some ⟨A, 0, none⟩) (fieldsB s).length (fieldsB s).length) ∧
      Kd.R Kd.string 9 w' w.heap.size (fun _ => True) (.slice (some ⟨A, 0, none⟩) (fieldsB s).length (fieldsB s).length) (fieldsB s) ∧ Below w.heap.size w w' := by
  refine (Tryd.strings_Fields_any s w (by omega) hL.now.sp hL.now.white).mono ?_
  rintro e w' ⟨A, rfl, _, ho, hb⟩
  have e1 : ((Lib.fieldsD s.data.toList).map fun x => Value.string ⟨x.toArray⟩) = (fieldsB s).map Value.string := by simp [fieldsB]
  have e2 : (Lib.fieldsD s.data.toList).length = (fieldsB s).length := by simp [fieldsB]
  rw [e1, e2] at ho
  exact ⟨A, by rw [e2], Kd.R_of_own ho (fun _ _ => trivial), hb⟩
end Go.Proofs.YtmjflpffafnkdaaDoor
