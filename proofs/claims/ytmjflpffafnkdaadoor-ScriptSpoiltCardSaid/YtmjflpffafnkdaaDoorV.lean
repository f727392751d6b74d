/- What the rows' condition on the listed variables gives the walks. Conditions: see each theorem. -/
import Derived.Test.YtmjflpffafnkdaaDoorA
import Derived.Test.YtmjflpffafnkdaaDoorRows
import Derived.Lib.LaidU8
import Derived.Stop.LaidErr
import Derived.ProofKit
import Derived.Lay
namespace Go.Proofs.YtmjflpffafnkdaaDoor
open Go.RowKit Go.Lib

theorem starErr : "*" ++ "errors.errorString" = "*errors.errorString" := by decide
theorem rowErr (u : TypeId) (h : Tryd.prog.typeName? 3 u = some "*errors.errorString") : u = 112 :=
  typeName_ptr_named (nm := "errors.errorString") (by rw [starErr]; kernel_rfl) (by kernel_rfl) (by decide) u (by rw [starErr]; exact h)
theorem tab_reads {w : World} {n : String} {k : IntKind} {zs : List Int} {g : Nat} {t e : TypeId} {m : Nat} (hg : Tryd.prog.globalNamed n = some g) (hty : (Tryd.prog.globals[g]?).map (·.type) = some t)
    (ht : Tryd.prog.underlying t = some (.array m e)) (he : Tryd.prog.underlying e = some (.int k)) (hce : Tryd.prog.cellsOf e = 1) (hct : Tryd.prog.cellsOf t = m)
    (h : VarReads Tryd.prog w n (tabData k zs)) : TabIs Tryd.prog w n k zs := by
  obtain ⟨g', t', cs, fuel, p, hg', ht', hvar, hd⟩ := h
  obtain rfl := Option.some.inj (hg.symm.trans hg')
  obtain rfl := Option.some.inj (hty.symm.trans ht')
  unfold TabIs
  rw [hvar, ← cells_of_tab ht he hce hct hd]
abbrev laidL : List (String × DataW Unit) := Rows.scriptReadsRow.laid
theorem gPow : Tryd.prog.globalNamed "internal/strconv.uint64pow10" = some 3 := by kernel_rfl
theorem gSp : Tryd.prog.globalNamed "strings.asciiSpace" = some 0 := by kernel_rfl
theorem gEs : Tryd.prog.globalNamed "strconv.ErrSyntax" = some 4 := by kernel_rfl
theorem gEr : Tryd.prog.globalNamed "strconv.ErrRange" = some 5 := by kernel_rfl
set_option maxRecDepth 100000 in
theorem laidNow_of {w : World} (h : laidMet Tryd.prog laidL w) : LaidNow w where
  pow := tab_reads (t := 85) (e := 65) (m := 20) gPow (by kernel_rfl) Tryd.underlying85 Tryd.underlying65 (by kernel_rfl) (by kernel_rfl) (laidMet.reads h (.tail _ (.tail _ (.head _))))
  sp := tab_reads (t := 60) (e := 5) (m := 256) gSp (by kernel_rfl) Tryd.underlying60 Tryd.underlying5 (by kernel_rfl) (by kernel_rfl) (laidMet.reads h (.tail _ (.tail _ (.tail _ (.tail _ (.tail _ (.tail _ (.head _))))))))
  white := whiteTab_of_reads Tryd.lays199 ⟨by kernel_rfl, by kernel_rfl, by kernel_rfl, by kernel_rfl, by kernel_rfl, by kernel_rfl, by kernel_rfl, by kernel_rfl⟩ (laidMet.reads h (.tail _ (.tail _ (.tail _ (.tail _ (.tail _ (.head _)))))))
  es := by
    obtain ⟨a, s, hv, _⟩ := laid_sentinel h.tail.tail.tail.tail gEs (show _ = some 56 by kernel_rfl) Tryd.underlying56 rowErr Tryd.underlying112 Tryd.underlying114 rfl rfl Tryd.underlying9 (by kernel_rfl) (by kernel_rfl)
    exact ⟨_, _, hv⟩
  er := by
    obtain ⟨a, s, hv, _⟩ := laid_sentinel h.tail.tail.tail gEr (show _ = some 56 by kernel_rfl) Tryd.underlying56 rowErr Tryd.underlying112 Tryd.underlying114 rfl rfl Tryd.underlying9 (by kernel_rfl) (by kernel_rfl)
    exact ⟨_, _, hv⟩
theorem var_below {B g : Nat} {W W' : World} {n : String} {cs : Array Value} (h : Below B W W') (hg : Tryd.prog.globalNamed n = some g) (hgB : g < B) (hv : W.var? Tryd.prog n = some cs) : W'.var? Tryd.prog n = some cs := by
  unfold World.var? at hv ⊢
  simp only [hg, Option.bind_some] at hv ⊢
  rw [h.block g hgB]
  exact hv
theorem var_lt {g : Nat} {W : World} {n : String} {cs : Array Value} (hg : Tryd.prog.globalNamed n = some g) (hv : W.var? Tryd.prog n = some cs) : g < W.heap.size := by
  unfold World.var? at hv
  simp only [hg, Option.bind_some] at hv
  rcases Nat.lt_or_ge g W.heap.size with h | h
  · exact h
  · rw [Array.getElem?_eq_none h] at hv; simp at hv
theorem laid_of {w : World} (h : laidMet Tryd.prog laidL w) : Laid w.heap.size w := by
  have H := laidNow_of h
  refine ⟨Nat.le_refl _, fun w' hb => ⟨?_, ?_, Go.Proofs.WhiteTab_below H.white hb, ?_, ?_⟩⟩
  · exact var_below hb gPow (var_lt gPow H.pow) H.pow
  · exact var_below hb gSp (var_lt gSp H.sp) H.sp
  · obtain ⟨tp, p, hv⟩ := H.es
    exact ⟨tp, p, var_below hb gEs (var_lt gEs hv) hv⟩
  · obtain ⟨tp, p, hv⟩ := H.er
    exact ⟨tp, p, var_below hb gEr (var_lt gEr hv) hv⟩
end Go.Proofs.YtmjflpffafnkdaaDoor
