/- The lines of a text, one by one, as strings.Lines gives them. Conditions: see each theorem. -/
import Derived.Test.YtmjflpffafnkdaaDoorD
import Derived.Test.YtmjflpffafnkdaaDoorRf
namespace Go.Proofs.YtmjflpffafnkdaaDoor
open Go.RowKit Go.Shelf
open Go.Proofs.YtmjflpffafnkdaaDoorW.PrintWords Go.Proofs.YtmjflpffafnkdaaDoorW.PrintLast Go.Proofs.YtmjflpffafnkdaaDoorW.PrintMore
open Rf
attribute [local go_sem] Oper.semAt_some
variable {B0 : Nat}

def nlAt (s : ByteArray) : Int := Lib.indexByte s.data.toList 10
/-- The lines of a text, each with its end. -/
def linesF : Nat → ByteArray → List ByteArray
  | 0, _ => []
  | f + 1, s => if s.size = 0 then [] else if 0 ≤ nlAt s then s.extract 0 (nlAt s + 1).toNat :: linesF f (s.extract (nlAt s + 1).toNat s.size) else [s]

theorem Lines_any (s : ByteArray) (w : World) :
    Calls Tryd.prog 15 #[.string s] w fun e w' => e = .returned (.func (.func 20) #[] #[.pointer (some ⟨w.heap.size, 0, none⟩)]) ∧ w' = w.alloc (.cells #[.string s] 9) := by
  go_enter Tryd.func15, Tryd.ntmps15
  go_wp2
  go_ret
  exact ⟨rfl, rfl⟩

def boxLen (b : Nat) (W : World) : Nat := match W.cell? ⟨b, 0, none⟩ with
  | some (.string s) => s.size
  | _ => 0

theorem boxLen_eq {b : Nat} {W : World} {s : ByteArray} (h : W.heap[b]? = some (.cells #[.string s] 9 (0, 0))) : boxLen b W = s.size := by
  simp [boxLen, World.cell?, h]
theorem indexByte_lt (l : List UInt8) (c : UInt8) : Lib.indexByte l c < l.length := by
  induction l with
  | nil => simp [Lib.indexByte]
  | cons b l ih =>
    unfold Lib.indexByte
    split
    · simp only [List.length_cons]; omega
    · split
      · simp only [List.length_cons]; omega
      · simp only [List.length_cons]; omega
theorem lines_yes {s t : ByteArray} {f : Nat} {pre : List ByteArray} {i : Int} (hL : linesF (s.size + 1) s = pre ++ linesF (f + 1) t) (hp : 0 < t.size) (hi : Lib.indexByte t.data.toList 10 = i) (h0 : 0 ≤ i) :
    linesF (s.size + 1) s = (pre ++ [t.extract 0 (i + 1).toNat]) ++ linesF f (t.extract (i + 1).toNat t.size) := by
  rw [hL]
  conv => lhs; rw [linesF]
  rw [if_neg (by omega), if_pos (by unfold nlAt; omega), show nlAt t = i from hi]
  simp
theorem linesF_empty (f : Nat) : linesF f ⟨#[]⟩ = [] := by cases f with
  | zero => rfl
  | succ f => unfold linesF; exact if_pos (show (⟨#[]⟩ : ByteArray).size = 0 from rfl)
theorem lines_no {s t : ByteArray} {f : Nat} {pre : List ByteArray} {i : Int} (hL : linesF (s.size + 1) s = pre ++ linesF (f + 1) t) (hp : 0 < t.size) (hi : Lib.indexByte t.data.toList 10 = i) (h0 : ¬ 0 ≤ i) :
    linesF (s.size + 1) s = (pre ++ [t]) ++ linesF f ⟨#[]⟩ := by
  rw [hL, linesF_empty]
  conv => lhs; rw [linesF]
  rw [if_neg (by omega), if_neg (by unfold nlAt; omega)]
  simp

set_option maxRecDepth 100000 in
set_option maxHeartbeats 2000000 in
theorem lines_iter (s : ByteArray) (hs : s.size ≤ 100000) (b : Nat) (w : World) (hb : w.heap[b]? = some (.cells #[.string s] 9 (0, 0))) :
    Iter Tryd.prog 20 #[.pointer (some ⟨b, 0, none⟩)] (fun x : ByteArray => #[.string x]) (fun k => k = b) (fun xs => xs = linesF (s.size + 1) s) (fun pre => pre <+: linesF (s.size + 1) s) w := by
  intro l J Jx W hkeep hsize hJ hJx hY h0
  have hbW : W.heap[b]? = some (.cells #[.string s] 9 (0, 0)) := (hkeep b rfl).trans hb
  refine (callsIn_wide (n := 1)).1 ?_
  refine callsIn_of_wp Tryd.func20 rfl trivial ?_ rfl
  simp only [Tryd.ntmps20, List.size_toArray, List.length_cons, List.length_nil, Nat.reduceAdd, Nat.reduceSub, Array.replicate_succ, Array.replicate_zero, List.push_toArray, List.append_toArray, List.nil_append, List.cons_append]
  gi_wp2
  gi_loopw [3, 4] (fun _ _ wr => ∃ (pre : List ByteArray) (t : ByteArray) (f : Nat), t.size < f ∧ f ≤ s.size + 1 ∧ t.size ≤ 100000 ∧ Hid (linesF (s.size + 1) s = pre ++ linesF f t) ∧ Hid (wr.heap[b]? = some (.cells #[.string t] 9 (0, 0))) ∧ Hid (J pre wr))
    (fun _ _ wr => boxLen b wr)
  case atStart => exact ⟨[], s, s.size + 1, by omega, by omega, hs, rfl, hbW, h0⟩
  case round =>
    obtain ⟨pre, t, f, hf, hf2, hts, HL, HB, HJ⟩ := hrel
    have hc : wr.cell? ⟨b, 0, none⟩ = some (.string t) := by simp [World.cell?, HB.out]
    have hfz : wr.frozen? ⟨b, 0, none⟩ = false := by simp [World.frozen?, HB.out]
    by_cases h0 : t.size = 0
    · have hl0 : linesF f t = [] := by
        cases f with
        | zero => omega
        | succ f => unfold linesF; rw [if_pos h0]
      have HL0 := Lib.hid hl0; clear hl0
      gi_wp2
      go_end0
      exact ⟨⟨_, rfl⟩, .inl ⟨pre, by rw [HL.out, HL0.out, List.append_nil], HJ.out⟩⟩
    · have hpos : 0 < t.size := by omega
      obtain ⟨f, rfl⟩ : ∃ f', f = f' + 1 := ⟨f - 1, by omega⟩
      obtain ⟨i, hi⟩ : ∃ i, Lib.indexByte t.data.toList 10 = i := ⟨_, rfl⟩
      have HI := Lib.hid hi
      have mixed : Tryd.prog.follows .mixedOrders = true := by kernel_rfl
      clear hb hkeep hsize hbW h0
      by_cases hneg : 0 ≤ i
      · have hlt : i + 1 ≤ t.size := by
          have h1 := indexByte_lt t.data.toList 10
          have h2 : t.data.toList.length = t.size := Array.length_toList
          omega
        have hnat : (i + 1).toNat ≤ t.size := by omega
        have hw1 : IntKind.i64.wrap (i + 1) = i + 1 := IntWalk.i64_in _ (by omega)
        have HN := Lib.hid (lines_yes HL.out hpos hi hneg)
        obtain ⟨x, hx⟩ : ∃ x, t.extract 0 (i + 1).toNat = x := ⟨_, rfl⟩
        obtain ⟨y, hyy⟩ : ∃ y, t.extract (i + 1).toNat t.size = y := ⟨_, rfl⟩
        have hysz : y.size + 1 ≤ t.size := by rw [← hyy, ByteArray.size_extract]; omega
        rw [hx, hyy] at HN
        have hsteps : Rf.Steps (fun k => k = b) wr (wr.setCell ⟨b, 0, none⟩ (.string y)).drew := (Rf.Steps.setCell (own := fun k => k = b) (p := ⟨b, 0, none⟩) rfl _).trans (Rf.Steps.drew _ _)
        have hJ1 := hJ _ _ _ HJ.out hsteps
        have hb1 : (wr.setCell ⟨b, 0, none⟩ (.string y)).drew.heap[b]? = some (.cells #[.string y] 9 (0, 0)) := heap_set wr b 0 _ _ _ HB.out
        obtain ⟨fn, tmps, assign, body, hy, hR⟩ := hY pre x _ (by rw [HN.out]; exact List.prefix_append _ _) hJ1
        have HB1 := Lib.hid hb1
        have HR := Lib.hid hR
        clear hsteps hJ1 hb1 hR hY hJ hJx
        gi_wp2_with (refine ⟨trivial, ?_⟩; gi_at_call 21; refine (callsIn_wide.2 (Tryd.strings_IndexByte _ _ _)).mono ?_; rintro e w' ⟨rfl, rfl⟩)
        gi_region_with_o (fail)
        all_goals gi_wp2
        all_goals refine HR.out.mono ?_
        all_goals rintro e W' (⟨rfl, hJ', hk⟩ | ⟨rfl, hJx', hk⟩)
        all_goals gi_wp2
        all_goals first
          | (go_roundw
             case rel => exact ⟨pre ++ [x], y, f, by omega, by omega, by omega, HN.out, (hk b rfl).trans HB1.out, hJ'⟩
             case measure => rw [boxLen_eq HB.out, boxLen_eq ((hk b rfl).trans HB1.out)]; omega)
          | (refine bodyPost_ret (results_none rfl _ _ _) rfl ?_
             exact ⟨⟨_, rfl⟩, .inr ⟨pre ++ [x], by rw [HN.out]; exact List.prefix_append _ _, hJx'⟩⟩)
      · have HN := Lib.hid (lines_no HL.out hpos hi hneg)
        have hneg' : ¬ (0 ≤ i) := hneg
        have hneg2 : i < 0 := by omega
        clear hneg
        have hsteps : Rf.Steps (fun k => k = b) wr (wr.setCell ⟨b, 0, none⟩ (.string ⟨#[]⟩)) := (Rf.Steps.setCell (own := fun k => k = b) (p := ⟨b, 0, none⟩) rfl _)
        have hJ1 := hJ _ _ _ HJ.out hsteps
        have hb1 : (wr.setCell ⟨b, 0, none⟩ (.string ⟨#[]⟩)).heap[b]? = some (.cells #[.string ⟨#[]⟩] 9 (0, 0)) := heap_set wr b 0 _ _ _ HB.out
        obtain ⟨fn, tmps, assign, body, hy, hR⟩ := hY pre t _ (by rw [HN.out]; exact List.prefix_append _ _) hJ1
        have HB1 := Lib.hid hb1
        have HR := Lib.hid hR
        clear hsteps hJ1 hb1 hR hY hJ hJx
        gi_wp2_with (refine ⟨trivial, ?_⟩; gi_at_call 21; refine (callsIn_wide.2 (Tryd.strings_IndexByte _ _ _)).mono ?_; rintro e w' ⟨rfl, rfl⟩)
        refine HR.out.mono ?_
        rintro e W' (⟨rfl, hJ', hk⟩ | ⟨rfl, hJx', hk⟩)
        all_goals gi_wp2
        all_goals first
          | (go_roundw
             case rel => exact ⟨pre ++ [t], ⟨#[]⟩, f, by (have : (⟨#[]⟩ : ByteArray).size = 0 := rfl); omega, by omega, by (have : (⟨#[]⟩ : ByteArray).size = 0 := rfl); omega, HN.out, (hk b rfl).trans HB1.out, hJ'⟩
             case measure => rw [boxLen_eq HB.out, boxLen_eq ((hk b rfl).trans HB1.out)]; exact hpos)
          | (refine bodyPost_ret (results_none rfl _ _ _) rfl ?_
             exact ⟨⟨_, rfl⟩, .inr ⟨pre ++ [t], by rw [HN.out]; exact List.prefix_append _ _, hJx'⟩⟩)
end Go.Proofs.YtmjflpffafnkdaaDoor
