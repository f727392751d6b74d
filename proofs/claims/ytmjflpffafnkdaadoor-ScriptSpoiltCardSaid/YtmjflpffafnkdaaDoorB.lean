/- The numbers behind a line's word, and a job as a text, as the program makes them. Conditions: see each theorem. -/
import Derived.Test.YtmjflpffafnkdaaDoorA
namespace Go.Proofs.YtmjflpffafnkdaaDoor
open Go.RowKit
open Go.Proofs.YtmjflpffafnkdaaDoorW.PrintWords Go.Proofs.YtmjflpffafnkdaaDoorW.PrintLast Go.Proofs.YtmjflpffafnkdaaDoorW.PrintMore
variable {B0 : Nat}
attribute [local go_sem] max2_int min2_int max_two min_two max_three min_three max_four min_four

def wordsB (s : ByteArray) : List ByteArray := (fieldsB s).drop (min 1 (fieldsB s).length)
def numsOf (s : ByteArray) : List Int := (wordsB s).map fun b => atoiV b.data.toList
theorem wordsB_short (s : ByteArray) (h : (fieldsB s).length ≤ 1) : wordsB s = [] := by
  unfold wordsB; rw [List.drop_eq_nil_iff]; omega
theorem info3 : (Tryd.prog.info? 3).map (fun i => (i.zero, i.size, i.bytes)) = some (some (.int .i64 0), 1, 8) := by kernel_rfl

set_option maxHeartbeats 400000 in
theorem numbers_any (s : ByteArray) (hs : s.size ≤ 100000) (w : World) (hL : Laid B0 w) :
    Calls Tryd.prog 22 #[.string s] w fun e w' => ∃ v, e = .returned v ∧ Kd.R (Kd.int .i64) 3 w' w.heap.size (fun _ => True) v (numsOf s) ∧ Below w.heap.size w w' := by
  have HT := Lib.hid hL; clear hL
  go_enter Tryd.func22, Tryd.ntmps22
  go_wp2_with fail
  refine (Fields_any s hs _ HT.out).mono ?_
  rintro e w1 ⟨A1, rfl, hc1, hb1⟩
  have HC1 := Lib.hid hc1; clear hc1
  go_wp2_with fail
  refine (Fields_any s hs _ (HT.out.below hb1)).mono ?_
  rintro e w2 ⟨A2, rfl, _, hb2⟩
  have hb := hb1.trans (hb2.mono hb1.size)
  have HB := Lib.hid hb; clear hb
  have HB2 := Lib.hid hb2; clear hb2
  by_cases hn : (fieldsB s).length ≤ 1
  · have hnil : numsOf s = [] := by unfold numsOf; rw [wordsB_short s hn]; rfl
    have HNIL := Lib.hid hnil; clear hnil
    rcases (show (fieldsB s).length = 0 ∨ (fieldsB s).length = 1 by omega) with hn' | hn' <;> clear hn <;> rw [hn'] <;> clear hn'
    all_goals
      go_wp2
      go_loopw [2, 15] (fun v i wr => v = .slice none 0 0 ∧ i = .int .i64 0 ∧ wr = w2) (fun _ _ _ => 0)
      case atStart => exact ⟨rfl, rfl, rfl⟩
      case round =>
        obtain ⟨rfl, rfl, rfl⟩ := hrel
        go_wp2
        go_ret
        exact ⟨_, rfl, by rw [HNIL.out]; exact Kd.R_nil _ _ _ _ _, HB.out⟩
  · obtain ⟨m, hnn⟩ : ∃ m, (fieldsB s).length = m + 1 := ⟨(fieldsB s).length - 1, by omega⟩
    have hm : 1 ≤ m := by omega
    have hml : m ≤ 100002 := by have := fieldsB_len s; omega
    have hw1 : wordsB s = (fieldsB s).drop 1 := by unfold wordsB; rw [hnn]; congr 1
    have HN := Lib.hid hnn; clear hn
    have HW := Lib.hid hw1; clear hw1
    have hf := Kd.R_below HC1.out HB2.out
    rw [hnn] at hf
    have HF := Lib.hid hf; clear hf HC1
    rw [hnn]; clear hnn
    go_wp2
    go_loopw [2, 15] (fun v i wr => ∃ k : Nat, k ≤ m ∧ i = .int .i64 k ∧ Aside0 (Kd.R (Kd.int .i64) 3 wr w.heap.size (fun _ => True) v ((numsOf s).take k)) ∧ Aside0 (Below w.heap.size w wr) ∧ Aside0 (Kd.R Kd.string 9 wr w.heap.size (fun _ => True) (.slice (some ⟨A1, 0, none⟩) (m + 1) (m + 1)) (fieldsB s))) (fun _ i _ => m - (intOf i).toNat)
    case atStart => exact ⟨0, Nat.zero_le _, rfl, ⟨Kd.R_nil _ _ _ _ _⟩, ⟨HB.out⟩, ⟨HF.out⟩⟩
    case round =>
      obtain ⟨k, hk, rfl, HR, HBE, HFE⟩ := hrel
      by_cases hlt : k < m
      · have hkl : k < (numsOf s).length := by unfold numsOf; rw [HW.out, List.length_map, List.length_drop, HN.out]; omega
        obtain ⟨hfl, _, hfc⟩ := Kd.R_reads' HFE.out
        obtain ⟨ad, ead, hc⟩ := Kd.at_string hfc ((1 + k : Nat) : Int) (by omega) (by omega)
        cases ead
        rw [add_plain, Int.toNat_natCast] at hc
        obtain ⟨b, hbn⟩ : ∃ b, rdOf ByteArray.empty (fieldsB s) ((1 + k : Nat) : Int) = b := ⟨_, rfl⟩
        rw [hbn] at hc
        have hbn2 : (fieldsB s)[1 + k]'(by rw [HN.out]; omega) = b := by
          rw [← hbn]
          unfold rdOf
          rw [Int.toNat_natCast, List.getD_eq_getElem?_getD, List.getElem?_eq_getElem (show 1 + k < (fieldsB s).length by rw [HN.out]; omega)]; rfl
        have hbs : b.size ≤ 100000 := by
          have := fieldsB_size s b (by rw [← hbn2]; exact List.getElem_mem _)
          omega
        have hnk : (numsOf s).getD k 0 = atoiV b.data.toList := by
          unfold numsOf
          rw [HW.out, ← hbn2]
          simp only [List.getD_eq_getElem?_getD, List.getElem?_map, List.getElem?_drop]
          rw [List.getElem?_eq_getElem (show 1 + k < (fieldsB s).length by rw [HN.out]; omega)]; rfl
        have HNK := Lib.hid hnk; clear hnk hbn hbn2 hfl hfc
        go_wp2_with (first | (go_at_call 28; refine (Atoi_any b hbs _ (HT.out.below HBE.out)).mono ?_; rintro e w3 ⟨⟨x, rfl⟩, hb3⟩; have HB3 := Lib.hid hb3; clear hb3) | ((with_reducible refine gate_builtin (b := .append) (xs := #[.tmp 24, .tmp 26]) rfl ?_); at_builtin; refine Kd.R_append (Kd.int .i64) (w0 := w) w.heap.size rfl (.tmp 24) (.tmp 26) 24 3 (.int .i64 0) 8 rfl Tryd.underlying24 info3 rfl (by decide) (by omega) u2 ((numsOf s).take k) (atoiV b.data.toList) [.int .i64 (atoiV b.data.toList)] (fun _ => True) (fun _ => False) rfl rfl ?aP (fun _ hk => hk.elim) ?aF ?aO ?aB ?aS ?aL ?_; (case aP => exact rfl); (case aF => exact (fun _ _ => trivial)); (case aO => exact (Kd.R_below HR.out HB3.out)); (case aB => exact HBE.out.trans (HB3.out.mono HBE.out.size)); (case aS => exact Nat.le_trans HBE.out.size HB3.out.size); (case aL => rw [List.length_take]; omega); intro v1 w4 hr4 hb4 hg4 hat4; have HR4 := Aside0.mk hr4; have HB4 := Aside0.mk hb4; have HG4 := Aside0.mk hg4; clear hr4 hb4 hg4 hat4))
        go_roundw
        case rel =>
          refine ⟨k + 1, by omega, by go_num, ⟨?_⟩, HB4, ⟨?_⟩⟩
          · rw [take_snocI _ _ hkl, HNK.out]; exact HR4.out
          · exact Kd.R_over' (Kd.R_below HFE.out HB3.out) (Kd.R_typed (Kd.R_below HR.out HB3.out)) (by decide) HG4.out
        case measure => simp [intOf]; omega
      · obtain rfl : k = m := by omega
        go_wp2
        go_ret
        refine ⟨_, rfl, ?_, HBE.out⟩
        have e1 : (numsOf s).take k = numsOf s := List.take_of_length_le (by unfold numsOf; rw [HW.out, List.length_map, List.length_drop, HN.out]; omega)
        rw [e1] at HR
        exact HR.out
end Go.Proofs.YtmjflpffafnkdaaDoor
