/- The reference's reading of a text: the walk. Conditions: see each theorem. -/
import Derived.Test.YtmjflpffafnkdaaDoorF
import Derived.Test.YtmjflpffafnkdaaDoorQ
import Derived.Test.YtmjflpffafnkdaaDoorPScriptSpoiltx5
import Derived.Deep.RegionHeld3
namespace Go.Proofs.YtmjflpffafnkdaaDoor
open Go.RowKit
open Go.Proofs.YtmjflpffafnkdaaDoorW.PrintWords Go.Proofs.YtmjflpffafnkdaaDoorW.PrintLast Go.Proofs.YtmjflpffafnkdaaDoorW.PrintMore
open PScriptSpoilt
attribute [local go_sem] max2_int min2_int max_two min_two max_three min_three max_four min_four
variable {B0 : Nat}

/-- The lines that end within the first k bytes, and where the next one begins. -/
def splitN (s : ByteArray) : Nat → List ByteArray × Nat
  | 0 => ([], 0)
  | k + 1 => if bt s k = 10 then ((splitN s k).1 ++ [s.extract (splitN s k).2 k], k + 1) else splitN s k
theorem splitN_bd (s : ByteArray) (k : Nat) : (splitN s k).2 ≤ k ∧ (splitN s k).1.length ≤ k := by
  induction k with
  | zero => simp [splitN]
  | succ k ih =>
    unfold splitN
    split
    · simp only [List.length_append, List.length_cons, List.length_nil]; omega
    · omega
theorem splitN_size (s : ByteArray) (k : Nat) : ∀ x ∈ (splitN s k).1, x.size ≤ s.size := by
  induction k with
  | zero => intro x hx; simp [splitN] at hx
  | succ k ih =>
    intro x hx
    unfold splitN at hx
    split at hx
    · rcases List.mem_append.1 hx with h | h
      · exact ih x h
      · obtain rfl : x = _ := by simpa using h
        rw [ByteArray.size_extract]; omega
    · exact ih x hx
theorem info9s : (Tryd.prog.info? 9).map (fun i => (i.zero, i.size, i.bytes)) = some (some (.string ByteArray.empty), 1, 16) := by kernel_rfl
def zeros : Array Value := #[.bool false, .int .i64 0, .int .i64 0, .int .i64 0, .slice none 0 0, .slice none 0 0]

/-- What row answers. -/
def rowV (t word : ByteArray) : List Int × Bool := (signalboxref31_row.f (2 * t.size + 100) t word).getD ([], false)
theorem row_any (t word : ByteArray) (hw : ∀ c ∈ L word, c ≠ 32) (ht : t.size ≤ 90000) (w : World) :
    Calls Tryd.prog 18 #[.string t, .string word] w fun e w' => ∃ v, e = .returned (.tuple #[v, .bool (rowV t word).2]) ∧ Kd.R (Kd.int .i64) 3 w' w.heap.size (fun _ => True) v (rowV t word).1 ∧ Below w.heap.size w w' := by
  obtain ⟨r1, r2, hr, _⟩ := (row_spec t word ht hw).1
  have : rowV t word = (r1, r2) := by unfold rowV; rw [hr]; rfl
  rw [this]
  exact signalboxref31_row.calls _ t word r1 r2 w hr
theorem no32_limits : ∀ c ∈ L ⟨#[108, 105, 109, 105, 116, 115]⟩, c ≠ 32 := by decide
theorem no32_input : ∀ c ∈ L ⟨#[105, 110, 112, 117, 116]⟩, c ≠ 32 := by decide
theorem no32_picks : ∀ c ∈ L ⟨#[112, 105, 99, 107, 115]⟩, c ≠ 32 := by decide

def wordN (i : Nat) : ByteArray := if i = 1 then limitsB else if i = 2 then inputB else picksB
/-- One line of the reference's reading, by its number. -/
def refStep (i : Nat) (line : ByteArray) (j : Jb) : Option Jb :=
  if i = 0 then (if (beqB line (modeB true) || beqB line (modeB false)) = true then some { j with cl := beqB line (modeB true) } else none)
  else if (rowV line (wordN i)).2 = false then none
  else if i = 1 then (match (rowV line (wordN i)).1 with
    | [a, b, c] => some { j with p := a, st := b, so := c }
    | _ => none)
  else if i = 2 then some { j with l1 := (rowV line (wordN i)).1 }
  else some { j with l2 := (rowV line (wordN i)).1 }
/-- The job behind i lines, if all are right. -/
def refAt (ls : List ByteArray) : Nat → Option Jb
  | 0 => some Jb.zero
  | i + 1 => match refAt ls i, ls[i]? with
    | some j, some l => refStep i l j
    | _, _ => none
def refT (s : ByteArray) : Jb × Int × Int :=
  match refAt (splitN s s.size).1 1 with
  | none => (Jb.zero, 1, 6)
  | some _ => match refAt (splitN s s.size).1 2 with
    | none => (Jb.zero, 2, 6)
    | some _ => match refAt (splitN s s.size).1 3 with
      | none => (Jb.zero, 3, 6)
      | some _ => match refAt (splitN s s.size).1 4 with
        | none => (Jb.zero, 4, 6)
        | some j => if 4 < (splitN s s.size).1.length ∨ (splitN s s.size).2 < s.size then (Jb.zero, 5, 6) else (j, 0, 0)

def arrCells : Array Value := #[.string ⟨#[]⟩, .string ⟨#[108, 105, 109, 105, 116, 115]⟩, .string ⟨#[105, 110, 112, 117, 116]⟩, .string ⟨#[112, 105, 99, 107, 115]⟩]
/-- Between two rounds of the second loop. -/
structure RS (N M : Nat) (W0 : World) (v : Value) (ls : List ByteArray) (j : Jb) (W : World) : Prop where
  job : JbAt W M (M + 2) j
  arr : W.heap[M + 1]? = some (.cells arrCells 46 (0, 0))
  lns : Kd.R Kd.string 9 W (N + 1) (fun _ => True) v ls
  below : Below (N + 1) W0 W
theorem RS.step {N M : Nat} {W0 W W' : World} {v : Value} {ls : List ByteArray} {j : Jb} (h : RS N M W0 v ls j W) (hs : N + 1 ≤ W.heap.size) (hb : Below W.heap.size W W') : RS N M W0 v ls j W' where
  job := (read_end h.job hb).1
  arr := (hb.block _ (Array.getElem?_eq_some_iff.1 h.arr).1).trans h.arr
  lns := Kd.R_below h.lns hb
  below := h.below.trans (hb.mono hs)
/-- Slots that are not the job's own are as they were where a job's cell is stored. -/
theorem RS.stored {N M : Nat} {W0 W W' : World} {v : Value} {ls : List ByteArray} {j j' : Jb} (h : RS N M W0 v ls j W) (hNM : N + 1 ≤ M) (hg : W.grownBy W' (some M)) (hj : JbAt W' M (M + 2) j') : RS N M W0 v ls j' W' where
  job := hj
  arr := (hg.block _ (Array.getElem?_eq_some_iff.1 h.arr).1 (fun e => by injection e with e; omega)).trans h.arr
  lns := by
    obtain ⟨v1, v2, hb, _, _⟩ := h.job
    exact Kd.R_mono (Kd.R_grown (Kd.R_types h.lns hb (by decide)) hg (fun k hk e => by injection e with e; exact hk.2 e)) (fun _ _ => trivial)
  below := h.below.trans ((Below.refl (N + 1) W).grown hg (by have := (Array.getElem?_eq_some_iff.1 h.arr).1; omega) (fun k e => by injection e with e; omega))

/-- The end of ReadScript: the result's cells and two numbers. -/
theorem results_ref (tmps : Array Value) (N : Nat) (W : World) (b : Bool) (i1 i2 i3 x y : Int) (v1 v2 : Value) (h2 : tmps.getD 2 undef = .pointer (some ⟨N, 0, none⟩)) (h3 : tmps.getD 3 undef = .int .i64 x) (h4 : tmps.getD 4 undef = .int .i64 y)
    (e0 : W.heap[N]? = some (.cells #[.bool b, .int .i64 i1, .int .i64 i2, .int .i64 i3, v1, v2] 26 (0, 0))) :
    (results Tryd.f11 tmps).run Tryd.prog W = .ok (.tuple #[.agg #[.bool b, .int .i64 i1, .int .i64 i2, .int .i64 i3, v1, v2], .int .i64 x, .int .i64 y]) W := by
  have a0 : W.cell? ⟨N, 0, none⟩ = some (.bool b) := by simp [World.cell?, e0]
  have a1 : W.cell? ⟨N, 1, none⟩ = some (.int .i64 i1) := by simp [World.cell?, e0]
  have a2 : W.cell? ⟨N, 2, none⟩ = some (.int .i64 i2) := by simp [World.cell?, e0]
  have a3 : W.cell? ⟨N, 3, none⟩ = some (.int .i64 i3) := by simp [World.cell?, e0]
  have a4 : W.cell? ⟨N, 4, none⟩ = some v1 := by simp [World.cell?, e0]
  have a5 : W.cell? ⟨N, 5, none⟩ = some v2 := by simp [World.cell?, e0]
  have hh2 : tmps[2]?.getD undef = .pointer (some ⟨N, 0, none⟩) := by rw [← Array.getD_eq_getD_getElem?]; exact h2
  have hh3 : tmps[3]?.getD undef = .int .i64 x := by rw [← Array.getD_eq_getD_getElem?]; exact h3
  have hh4 : tmps[4]?.getD undef = .int .i64 y := by rw [← Array.getD_eq_getD_getElem?]; exact h4
  simp [results, Tryd.f11, go_sem, hh2, hh3, hh4, a0, a1, a2, a3, a4, a5]

theorem cells6 {W : World} {g : Nat} {v0 v1 v2 v3 v4 v5 : Value} (h : W.heap[g]? = some (.cells #[v0, v1, v2, v3, v4, v5] 26 (0, 0))) :
    W.cell? ⟨g, 0, none⟩ = some v0 ∧ W.cell? ⟨g, 1, none⟩ = some v1 ∧ W.cell? ⟨g, 2, none⟩ = some v2 ∧ W.cell? ⟨g, 3, none⟩ = some v3 ∧ W.cell? ⟨g, 4, none⟩ = some v4 ∧ W.cell? ⟨g, 5, none⟩ = some v5 := by
  refine ⟨?_, ?_, ?_, ?_, ?_, ?_⟩ <;> simp [World.cell?, h]
theorem frozen6 {W : World} {g : Nat} {cs : Array Value} {T : TypeId} (h : W.heap[g]? = some (.cells cs T (0, 0))) (o : Nat) : W.frozen? ⟨g, o, none⟩ = false := by
  simp [World.frozen?, h]

theorem refAt_down (ls : List ByteArray) (n : Nat) (j : Jb) (h : refAt ls (n + 1) = some j) : ∃ j', refAt ls n = some j' := by
  unfold refAt at h
  split at h
  · rename_i j' _ hj' _; exact ⟨j', hj'⟩
  · simp at h
theorem refT_bad (s : ByteArray) (ls : List ByteArray) (hls : (splitN s s.size).1 = ls) (n : Nat) (hn : n ≤ 3) (j : Jb) (hj : refAt ls n = some j) (hbad : refAt ls (n + 1) = none) : refT s = (Jb.zero, (n : Int) + 1, 6) := by
  unfold refT
  rw [hls]
  rcases (show n = 0 ∨ n = 1 ∨ n = 2 ∨ n = 3 by omega) with rfl | rfl | rfl | rfl
  · rw [hbad]; rfl
  · rw [hj, hbad]; rfl
  · obtain ⟨j1, h1⟩ := refAt_down ls 1 j hj
    rw [h1]; dsimp only; rw [hj]; dsimp only; rw [hbad]; rfl
  · obtain ⟨j2, h2⟩ := refAt_down ls 2 j hj
    obtain ⟨j1, h1⟩ := refAt_down ls 1 j2 h2
    rw [h1]; dsimp only; rw [h2]; dsimp only; rw [hj]; dsimp only; rw [hbad]; rfl
theorem refT_end (s : ByteArray) (ls : List ByteArray) (hls : (splitN s s.size).1 = ls) (j : Jb) (hj : refAt ls 4 = some j) : refT s = if 4 < ls.length ∨ (splitN s s.size).2 < s.size then (Jb.zero, 5, 6) else (j, 0, 0) := by
  unfold refT
  rw [hls]
  obtain ⟨j3, h3⟩ := refAt_down ls 3 j hj
  obtain ⟨j2, h2⟩ := refAt_down ls 2 j3 h3
  obtain ⟨j1, h1⟩ := refAt_down ls 1 j2 h2
  rw [h1]; dsimp only; rw [h2]; dsimp only; rw [h3]; dsimp only; rw [hj]
theorem refAt_short (ls : List ByteArray) (n : Nat) (h : ls.length ≤ n) : refAt ls (n + 1) = none := by
  unfold refAt
  rw [List.getElem?_eq_none h]
  split
  · rename_i h1 h2; simp at h2
  · rfl
theorem refAt_at (ls : List ByteArray) (n : Nat) (j : Jb) (l : ByteArray) (hj : refAt ls n = some j) (hl : ls[n]? = some l) : refAt ls (n + 1) = refStep n l j := by
  show (match refAt ls n, ls[n]? with | some j, some l => refStep n l j | _, _ => none) = _
  rw [hj, hl]

theorem lns_cell {W : World} {base b c n L : Nat} {ls : List ByteArray} {l : ByteArray} (hr : Kd.R Kd.string 9 W base (fun _ => True) (.slice (some ⟨b, 0, none⟩) L c) ls) (hL : ls.length = L) (hl : ls[n]? = some l) : W.cell? ⟨b, n, none⟩ = some (.string l) := by
  subst hL
  obtain ⟨hn, he⟩ := List.getElem?_eq_some_iff.1 hl
  have h : W.cell? ⟨b, ((n : Int)).toNat, none⟩ = some (.string (rdOf ByteArray.empty ls (n : Int))) := (Kd.R_cell ByteArray.empty hr (n : Int) (by omega) (by omega)).1
  rw [Int.toNat_natCast] at h
  rw [h]
  simp [rdOf, hl]

theorem type_ne {W : World} {a b : Nat} {cs cs' : Array Value} {T T' : TypeId} (h : W.heap[a]? = some (.cells cs T (0, 0))) (h' : W.heap[b]? = some (.cells cs' T' (0, 0))) (ht : T ≠ T') : a ≠ b := by
  rintro rfl
  rw [h] at h'
  injection h' with h'
  injection h' with _ h'
  exact ht h'
theorem R_ne {W : World} {base b c g n : Nat} {ls : List ByteArray} {cs : Array Value} {T : TypeId} (hr : Kd.R Kd.string 9 W base (fun _ => True) (.slice (some ⟨b, 0, none⟩) n c) ls) (h : W.heap[g]? = some (.cells cs T (0, 0))) (ht : 9 ≠ T) : b ≠ g := by
  obtain ⟨cells, hc⟩ := Kd.R_typed hr b (by simp [Value.ownBlock])
  exact type_ne hc h ht
theorem modeT_list : (modeB true).toList = [99, 108, 97, 105, 109, 101, 100] := by simp [modeB, go_sem]
theorem modeF_list : (modeB false).toList = [117, 110, 99, 108, 97, 105, 109, 101, 100] := by simp [modeB, go_sem]

/-- What ReadScript's walk must end in. -/
def RefPost (s : ByteArray) (w : World) (e : Ending) (w' : World) : Prop :=
  ∃ v1 v2, e = .returned (.tuple #[.agg #[.bool (refT s).1.cl, .int .i64 (refT s).1.p, .int .i64 (refT s).1.st, .int .i64 (refT s).1.so, v1, v2], .int .i64 (refT s).2.1, .int .i64 (refT s).2.2]) ∧
      Kd.R (Kd.int .i64) 3 w' w.heap.size (fun _ => True) v1 (refT s).1.l1 ∧ Kd.R (Kd.int .i64) 3 w' w.heap.size (fun _ => True) v2 (refT s).1.l2 ∧ Below w.heap.size w w'
/-- The result's six cells, written. -/
def fin6 (w : World) (N : Nat) (v0 v1 v2 v3 v4 v5 : Value) : World :=
  (((((w.setCell ⟨N, 0, none⟩ v0).setCell ⟨N, 1, none⟩ v1).setCell ⟨N, 2, none⟩ v2).setCell ⟨N, 3, none⟩ v3).setCell ⟨N, 4, none⟩ v4).setCell ⟨N, 5, none⟩ v5
theorem fin6_eq (w : World) (N : Nat) (v0 v1 v2 v3 v4 v5 : Value) : (((((w.setCell ⟨N, 0, none⟩ v0).setCell ⟨N, 1, none⟩ v1).setCell ⟨N, 2, none⟩ v2).setCell ⟨N, 3, none⟩ v3).setCell ⟨N, 4, none⟩ v4).setCell ⟨N, 5, none⟩ v5 = fin6 w N v0 v1 v2 v3 v4 v5 := by unfold fin6; rfl
theorem fin6_facts (w : World) (N : Nat) (v0 v1 v2 v3 v4 v5 u0 u1 u2 u3 u4 u5 : Value) (e0 : w.heap[N]? = some (.cells #[u0, u1, u2, u3, u4, u5] 26 (0, 0))) :
    (fin6 w N v0 v1 v2 v3 v4 v5).heap[N]? = some (.cells #[v0, v1, v2, v3, v4, v5] 26 (0, 0)) ∧ w.grownBy (fin6 w N v0 v1 v2 v3 v4 v5) (some N) := by
  unfold fin6
  have h0 := heap_set _ N 5 v5 _ _ (heap_set _ N 4 v4 _ _ (heap_set _ N 3 v3 _ _ (heap_set _ N 2 v2 _ _ (heap_set _ N 1 v1 _ _ (heap_set w N 0 v0 _ _ e0)))))
  exact ⟨by rw [h0]; rfl, (((((grown_set w N 0 v0).trans (grown_set _ N 1 v1)).trans (grown_set _ N 2 v2)).trans (grown_set _ N 3 v3)).trans (grown_set _ N 4 v4)).trans (grown_set _ N 5 v5)⟩
theorem ref_end {tmps : Array Value} {N : Nat} {w W : World} {s : ByteArray} (j : Jb) (v1 v2 : Value) (x y : Int) (hN : w.heap.size = N) (hb : Below N w W) (hz : W.heap[N]? = some (.cells zeros 26 (0, 0)))
    (hr1 : Kd.R (Kd.int .i64) 3 W (N + 1) (fun _ => True) v1 j.l1) (hr2 : Kd.R (Kd.int .i64) 3 W (N + 1) (fun _ => True) v2 j.l2) (href : refT s = (j, x, y))
    (h2 : tmps.getD 2 undef = .pointer (some ⟨N, 0, none⟩)) (h3 : tmps.getD 3 undef = .int .i64 x) (h4 : tmps.getD 4 undef = .int .i64 y) :
    bodyPost Tryd.prog Tryd.f11 (RefPost s w) .ret { tmps := tmps, defers := [] } (fin6 W N (.bool j.cl) (.int .i64 j.p) (.int .i64 j.st) (.int .i64 j.so) v1 v2) := by
  obtain ⟨e0, hg⟩ := fin6_facts W N (.bool j.cl) (.int .i64 j.p) (.int .i64 j.st) (.int .i64 j.so) v1 v2 _ _ _ _ _ _ hz
  refine bodyPost_ret (results_ref tmps N _ j.cl j.p j.st j.so x y v1 v2 h2 h3 h4 e0) rfl ?_
  unfold RefPost
  rw [href, hN]
  exact ⟨v1, v2, rfl, Kd.R_lower (R_grown_low hr1 hg (by omega)) (by omega), Kd.R_lower (R_grown_low hr2 hg (by omega)) (by omega), hb.trans ((Below.refl N W).grown hg (by have := hb.size; omega) (fun k e => by injection e with e; omega))⟩

set_option maxRecDepth 100000 in
set_option maxHeartbeats 8000000 in
theorem RefRead_any (s : ByteArray) (hs : s.size ≤ 25000) (w : World) :
    Calls Tryd.prog 11 #[.string s] w (RefPost s w) := by
  go_enter Tryd.func11, Tryd.ntmps11
  go_wp2_with fail
  obtain ⟨N, hN⟩ : ∃ N, w.heap.size = N := ⟨_, rfl⟩
  obtain ⟨W0, hW0⟩ : ∃ W0, (w.alloc (.cells zeros 26)).alloc (.cells #[] 9) = W0 := ⟨_, rfl⟩
  have hr0 : Kd.R Kd.string 9 W0 (N + 1) (fun _ => True) (.slice (some ⟨N + 1, 0, none⟩) 0 0) [] := by
    have := own_lit_of (enc := Value.string) (w.alloc (.cells zeros 26)) (N + 1) 9 [] (by simp [hN]) (by simp)
    rw [← hW0]
    rw [World.size_alloc, hN] at this
    exact Kd.R_of_own this (fun _ _ => trivial)
  have hb0 : Below N w W0 := by rw [← hW0, ← hN]; exact ((Below.refl _ _).alloc (Nat.le_refl _) _).alloc (by simp) _
  have hz0 : W0.heap[N]? = some (.cells zeros 26 (0, 0)) := by
    rw [← hW0, ← hN]; exact (Below.heap_alloc _ _ _ (by simp)).trans (World.alloc_heap_new w _)
  have hsz0 : W0.heap.size = N + 2 := by rw [← hW0, ← hN]; simp
  unfold zeros at hW0
  rw [hW0, hN]
  have HR0 := Lib.hid hr0; have HB0 := Lib.hid hb0; have HZ0 := Lib.hid hz0; have HS0 := Lib.hid hsz0; have HN := Lib.hid hN
  clear hr0 hb0 hz0 hsz0 hW0 hN
  go_loopw [5, 6, 7] (fun v f i wr => ∃ k : Nat, k ≤ s.size ∧ i = .int .i64 k ∧ f = .int .i64 (splitN s k).2 ∧ Hid (Kd.R Kd.string 9 wr (N + 1) (fun _ => True) v (splitN s k).1) ∧ Hid (Below (N + 1) W0 wr)) (fun _ _ i _ => s.size - (intOf i).toNat)
  case atStart => exact ⟨0, Nat.zero_le _, rfl, rfl, HR0.out, Below.refl _ _⟩
  case round =>
    obtain ⟨k, hk, rfl, rfl, HR, HB⟩ := hrel
    have hbd := splitN_bd s k
    by_cases hlt : k < s.size
    · have hx : ∀ h : k < s.size, ((s[k]'h).toNat : Int) = bt s k := fun h => by have := bt_at s (k : Int); rw [Int.toNat_natCast] at this; exact this h
      by_cases h10 : bt s k = 10
      · have t1 : (bt s k == 10) = true := by rw [beq_iff_eq]; exact h10
        have H10 := Lib.hid h10; clear h10
        obtain ⟨f, hf⟩ : ∃ f, (splitN s k).2 = f := ⟨_, rfl⟩
        rw [hf] at hbd ⊢
        have HF := Lib.hid hf; clear hf
        go_wp2_with ((with_reducible refine gate_builtin (b := .append) (xs := #[.tmp 24, .tmp 29]) rfl ?_); at_builtin; refine Kd.R_append Kd.string (w0 := W0) (N + 1) rfl (.tmp 24) (.tmp 29) 45 9 (.string ByteArray.empty) 16 rfl Tryd.underlying45 info9s rfl (by decide) (by omega) u5 (splitN s k).1 (s.extract f k) [.string (s.extract f k)] (fun _ => True) (fun _ => False) rfl rfl ?aP (fun _ hk => hk.elim) ?aF ?aO ?aB ?aS ?aL ?_; (case aP => exact rfl); (case aF => exact (fun _ _ => trivial)); (case aO => exact HR.out); (case aB => exact HB.out); (case aS => have := HB.out.size; have := HS0.out; omega); (case aL => omega); intro v1 w4 hr4 hb4 hg4 hat4; have HR4 := Lib.hid hr4; have HB4 := Lib.hid hb4; clear hr4 hb4 hg4 hat4)
        go_roundw
        case rel => exact ⟨k + 1, by omega, by go_num, by rw [splitN, if_pos H10.out]; go_num, by rw [splitN, if_pos H10.out, HF.out]; exact HR4.out, HB4.out⟩
        case measure => simp [intOf]; omega
      · have t1 : (bt s k == 10) = false := by rw [beq_eq_false_iff_ne]; exact h10
        have H10 := Lib.hid h10; clear h10
        go_wp2
        go_roundw
        case rel => exact ⟨k + 1, by omega, by go_num, by rw [splitN, if_neg H10.out], by rw [splitN, if_neg H10.out]; exact HR.out, HB.out⟩
        case measure => simp [intOf]; omega
    · obtain rfl : k = s.size := by omega
      go_wp2_with fail
      obtain ⟨ls, hls⟩ : ∃ ls, (splitN s s.size).1 = ls := ⟨_, rfl⟩
      obtain ⟨fr, hfr⟩ : ∃ fr, (splitN s s.size).2 = fr := ⟨_, rfl⟩
      rw [hfr]
      rw [hls, hfr] at hbd
      have hr := HR.out
      rw [hls] at hr
      obtain ⟨M, hM⟩ : ∃ M, wr.heap.size = M := ⟨_, rfl⟩
      obtain ⟨W1, hW1⟩ : ∃ W1, (wr.alloc (.cells zeros 26)).alloc (.cells arrCells 46) = W1 := ⟨_, rfl⟩
      have hNM : N + 2 ≤ M := by have := HB.out.size; have := HS0.out; omega
      have hbW : Below M wr W1 := by rw [← hW1, ← hM]; exact ((Below.refl _ _).alloc (Nat.le_refl _) _).alloc (by simp) _
      have hRS : RS N M W0 u5 ls Jb.zero W1 := by
        refine ⟨⟨_, _, ?_, Kd.R_nil _ _ _ _ _, Kd.R_nil _ _ _ _ _⟩, ?_, Kd.R_below hr (by rw [hM]; exact hbW), HB.out.trans (hbW.mono (by omega))⟩
        · rw [← hW1, ← hM]; exact (Below.heap_alloc _ _ _ (by simp)).trans (World.alloc_heap_new wr _)
        · rw [← hW1, ← hM]; have := World.alloc_heap_new (wr.alloc (.cells zeros 26)) (.cells arrCells 46); rwa [World.size_alloc] at this
      have hsz1 : W1.heap.size = M + 2 := by rw [← hW1, ← hM]; simp
      unfold zeros arrCells at hW1
      rw [hW1, hM]
      have HLS := Lib.hid hls; have HFR := Lib.hid hfr; have HRS := Lib.hid hRS; have HSZ1 := Lib.hid hsz1
      clear hls hfr hr hM hW1 hbW hRS hsz1 HR HR0
      go_loopw [10] (fun i W => ∃ (n : Nat) (j : Jb), n ≤ 4 ∧ i = .int .i64 n ∧ Hid (refAt ls n = some j) ∧ Hid (RS N M W0 u5 ls j W) ∧ M + 2 ≤ W.heap.size) (fun i _ => 4 - (intOf i).toNat)
      case atStart => exact ⟨0, Jb.zero, by omega, rfl, rfl, HRS.out, by have := HSZ1.out; omega⟩
      case round =>
        obtain ⟨n, j, hn, rfl, HJ, HRW, hsz⟩ := hrel
        obtain ⟨A5, c5, rfl⟩ := Kd.R_slice HRW.out.lns
        have hz : wr.heap[N]? = some (.cells zeros 26 (0, 0)) := (HRW.out.below.block N (by omega)).trans HZ0.out
        have HZ := Lib.hid hz
        obtain ⟨z0, z1, z2, z3, z4, z5⟩ := cells6 hz
        have y0 := frozen6 hz 0; have y1 := frozen6 hz 1; have y2 := frozen6 hz 2; have y3 := frozen6 hz 3; have y4 := frozen6 hz 4; have y5 := frozen6 hz 5
        clear hz
        obtain ⟨L, hL⟩ : ∃ L, ls.length = L := ⟨_, rfl⟩
        have HL := Lib.hid hL
        rw [hL] at HRW ⊢
        clear hL
        rcases (show n = 0 ∨ n = 1 ∨ n = 2 ∨ n = 3 ∨ n = 4 by omega) with rfl | rfl | rfl | rfl | rfl
        · cases L with
          | zero =>
            go_wp2_with fail
            rw [fin6_eq]
            exact ref_end Jb.zero (.slice none 0 0) (.slice none 0 0) 1 6 HN.out (HB0.out.trans (HRW.out.below.mono (by omega))) HZ.out (Kd.R_nil _ _ _ _ _) (Kd.R_nil _ _ _ _ _) (refT_bad s ls HLS.out 0 (by omega) j HJ.out (refAt_short ls 0 (Nat.le_of_eq HL.out))) rfl rfl rfl
          | succ L =>
            obtain ⟨b5, rfl⟩ : ∃ b5, A5 = some ⟨b5, 0, none⟩ := by
              obtain ⟨b5, c5', e5, _, _⟩ := R_form HRW.out.lns (by rw [HL.out]; omega)
              injection e5 with e5 _ _
              exact ⟨b5, e5⟩
            obtain ⟨l, hl⟩ : ∃ l, ls[0]? = some l := ⟨_, List.getElem?_eq_getElem (by rw [HL.out]; omega)⟩
            have hc0 : wr.cell? ⟨b5, 0, none⟩ = some (.string l) := lns_cell HRW.out.lns HL.out hl
            have HL0 := Lib.hid hl; clear hl
            obtain ⟨v1, v2, hj, hq1, hq2⟩ := HRW.out.job
            have HJB := Lib.hid hj; have HQ1 := Lib.hid hq1; have HQ2 := Lib.hid hq2
            obtain ⟨m0, _, _, _, _, _⟩ := cells6 hj
            have n0 := frozen6 hj 0
            clear hj hq1 hq2
            have hbm : b5 ≠ M := R_ne HRW.out.lns HJB.out (by decide)
            have hmb : M ≠ b5 := fun h => hbm h.symm
            have hstep := refAt_at ls 0 j l HJ.out HL0.out
            have HSTEP := Lib.hid hstep; clear hstep
            have hg := grown_set wr M 0 (.bool (beqB l (modeB true)))
            have hj2 := heap_set wr M 0 (.bool (beqB l (modeB true))) _ _ HJB.out
            have HG := Lib.hid hg; have HJ2 := Lib.hid hj2; clear hg hj2
            cases hc : (l.toList == [99, 108, 97, 105, 109, 101, 100]) with
            | true =>
              have hcb : beqB l (modeB true) = true := by unfold beqB; rw [modeT_list]; exact hc
              have HC := Lib.hid hcb; clear hcb
              go_wp2
              go_roundw
              case rel =>
                have hst : refStep 0 l j = some { j with cl := true } := by unfold refStep; rw [if_pos rfl, HC.out]; rfl
                refine ⟨1, { j with cl := true }, by omega, rfl, ?_, ?_, ?_⟩
                · show refAt ls 1 = _; rw [HSTEP.out, hst]
                · have hg := HG.out; have hj2 := HJ2.out
                  rw [HC.out] at hg hj2
                  exact RS.stored HRW.out (by omega) hg ⟨v1, v2, hj2, R_grown_low HQ1.out hg (by omega), R_grown_low HQ2.out hg (by omega)⟩
                · simp [World.setCell]; exact hsz
              case measure => simp [intOf]
            | false =>
              have hcb : beqB l (modeB true) = false := by unfold beqB; rw [modeT_list]; exact hc
              have HC := Lib.hid hcb; clear hcb
              cases hd : (l.toList == [117, 110, 99, 108, 97, 105, 109, 101, 100]) with
              | true =>
                have hdb : beqB l (modeB false) = true := by unfold beqB; rw [modeF_list]; exact hd
                have HD := Lib.hid hdb; clear hdb
                go_wp2
                go_roundw
                case rel =>
                  have hst : refStep 0 l j = some { j with cl := false } := by unfold refStep; rw [if_pos rfl, HC.out, HD.out]; rfl
                  refine ⟨1, { j with cl := false }, by omega, rfl, ?_, ?_, ?_⟩
                  · show refAt ls 1 = _; rw [HSTEP.out, hst]
                  · have hg := HG.out; have hj2 := HJ2.out
                    rw [HC.out] at hg hj2
                    exact RS.stored HRW.out (by omega) hg ⟨v1, v2, hj2, R_grown_low HQ1.out hg (by omega), R_grown_low HQ2.out hg (by omega)⟩
                  · simp [World.setCell]; exact hsz
                case measure => simp [intOf]
              | false =>
                have hdb : beqB l (modeB false) = false := by unfold beqB; rw [modeF_list]; exact hd
                have HD := Lib.hid hdb; clear hdb
                go_wp2
                rw [fin6_eq]
                have hg := HG.out; have hj2 := HJ2.out
                rw [HC.out] at hg hj2
                have hrs := RS.stored HRW.out (j' := { j with cl := false }) (by omega) hg ⟨v1, v2, hj2, R_grown_low HQ1.out hg (by omega), R_grown_low HQ2.out hg (by omega)⟩
                have hst : refStep 0 l j = none := by unfold refStep; rw [if_pos rfl, HC.out, HD.out]; rfl
                exact ref_end Jb.zero (.slice none 0 0) (.slice none 0 0) 1 6 HN.out (HB0.out.trans (hrs.below.mono (by omega))) ((hrs.below.block N (by omega)).trans HZ0.out) (Kd.R_nil _ _ _ _ _) (Kd.R_nil _ _ _ _ _) (refT_bad s ls HLS.out 0 (by omega) j HJ.out (by rw [HSTEP.out, hst])) rfl rfl rfl
        · by_cases hshort : L ≤ 1
          · have hs1 := HL.out
            rcases (show L = 0 ∨ L = 1 by omega) with rfl | rfl
            all_goals
              go_wp2_with fail
              rw [fin6_eq]
              exact ref_end Jb.zero (.slice none 0 0) (.slice none 0 0) 2 6 HN.out (HB0.out.trans (HRW.out.below.mono (by omega))) HZ.out (Kd.R_nil _ _ _ _ _) (Kd.R_nil _ _ _ _ _) (refT_bad s ls HLS.out 1 (by omega) j HJ.out (refAt_short ls 1 (by rw [HL.out]; omega))) rfl rfl rfl
          · obtain ⟨L', rfl⟩ : ∃ L', L = L' + 2 := ⟨L - 2, by omega⟩
            clear hshort
            obtain ⟨b5, rfl⟩ : ∃ b5, A5 = some ⟨b5, 0, none⟩ := by
              obtain ⟨b5, c5', e5, _, _⟩ := R_form HRW.out.lns (by rw [HL.out]; omega)
              injection e5 with e5 _ _
              exact ⟨b5, e5⟩
            obtain ⟨l, hl⟩ : ∃ l, ls[1]? = some l := ⟨_, List.getElem?_eq_getElem (by rw [HL.out]; omega)⟩
            have hls : l.size ≤ 90000 := by
              have h1 := splitN_size s s.size l (by rw [HLS.out]; exact List.mem_of_getElem? hl)
              omega
            have hc0 : wr.cell? ⟨b5, 1, none⟩ = some (.string l) := lns_cell HRW.out.lns HL.out hl
            have hstep := refAt_at ls 1 j l HJ.out hl
            have HSTEP := Lib.hid hstep; clear hstep hl
            have ha0 : wr.cell? ⟨M + 1, 1, none⟩ = some (.string ⟨#[108, 105, 109, 105, 116, 115]⟩) := by simp [World.cell?, HRW.out.arr, arrCells]
            have hd : Hid (Below wr.heap.size wr wr.drew) := (Below.refl _ _).drew
            have tA : (0 : Int) ≤ 1 := by decide
            go_wp2_with fail
            go_region_held3 (fun w' => w'.cell? ⟨b5, 1, none⟩ = some (.string l) ∧ w'.cell? ⟨M + 1, 1, none⟩ = some (.string ⟨#[108, 105, 109, 105, 116, 115]⟩) ∧ Hid (Below wr.heap.size wr w'))
              (first | exact ⟨hc0, ha0, hd⟩ | exact ⟨pw_cell_below hb9.out hc0, pw_cell_below hb9.out ha0, hb9.out⟩ | assumption)
              (first | (go_at_call 18; refine (row_any l ⟨#[108, 105, 109, 105, 116, 115]⟩ no32_limits hls _).mono ?_; rintro e w2 ⟨v, rfl, hv, hb⟩; have hb9 := Lib.hid ((Below.refl wr.heap.size wr).drew.trans (hb.mono (Nat.le_refl _))); have hv9 := Lib.hid hv; clear hb hv))
            rename_i hSS
            clear hSS hc0 ha0 hd tA
            have hrs2 := RS.step HRW.out (by omega) hb9.out
            have HRS2 := Lib.hid hrs2; clear hrs2
            have hz2 : w2.heap[N]? = some (.cells zeros 26 (0, 0)) := (HRS2.out.below.block N (by omega)).trans HZ0.out
            have HZ2 := Lib.hid hz2
            clear z0 z1 z2 z3 z4 z5 y0 y1 y2 y3 y4 y5
            obtain ⟨z0, z1, z2, z3, z4, z5⟩ := cells6 hz2
            have y0 := frozen6 hz2 0; have y1 := frozen6 hz2 1; have y2 := frozen6 hz2 2; have y3 := frozen6 hz2 3; have y4 := frozen6 hz2 4; have y5 := frozen6 hz2 5
            clear hz2
            obtain ⟨A, ca, rfl⟩ := Kd.R_slice hv9.out
            obtain ⟨r, hr⟩ : ∃ r, rowV l ⟨#[108, 105, 109, 105, 116, 115]⟩ = r := ⟨_, rfl⟩
            obtain ⟨r, ok⟩ := r
            rw [hr] at hv9 ⊢
            dsimp only at hv9 ⊢
            have hrw : rowV l (wordN 1) = (r, ok) := hr
            have HRW1 := Lib.hid hrw; clear hr hrw
            cases ok with
            | false =>
              go_wp2
              rw [fin6_eq]
              have hst : refStep 1 l j = none := by unfold refStep; rw [if_neg (by decide), HRW1.out]; rfl
              exact ref_end Jb.zero (.slice none 0 0) (.slice none 0 0) 2 6 HN.out (HB0.out.trans (HRS2.out.below.mono (by omega))) HZ2.out (Kd.R_nil _ _ _ _ _) (Kd.R_nil _ _ _ _ _) (refT_bad s ls HLS.out 1 (by omega) j HJ.out (by rw [HSTEP.out, hst])) rfl rfl rfl
            | true =>
              by_cases h3 : r.length = 3
              · obtain ⟨a, b, c, rfl⟩ : ∃ a b c, r = [a, b, c] := by
                  match r, h3 with
                  | [a, b, c], _ => exact ⟨a, b, c, rfl⟩
                clear h3
                obtain ⟨bl, rfl⟩ : ∃ bl, A = some ⟨bl, 0, none⟩ := by
                  obtain ⟨b5, c5', e5, _, _⟩ := R_form hv9.out (show 0 < 3 by decide)
                  injection e5 with e5 _ _
                  exact ⟨b5, e5⟩
                have q0 : w2.cell? ⟨bl, 0, none⟩ = some (.int .i64 a) := (Kd.R_cell 0 hv9.out 0 (by decide) (show (0 : Int) < 3 by decide)).1
                have q1 : w2.cell? ⟨bl, 1, none⟩ = some (.int .i64 b) := (Kd.R_cell 0 hv9.out 1 (by decide) (show (1 : Int) < 3 by decide)).1
                have q2 : w2.cell? ⟨bl, 2, none⟩ = some (.int .i64 c) := (Kd.R_cell 0 hv9.out 2 (by decide) (show (2 : Int) < 3 by decide)).1
                obtain ⟨v1, v2, hj, hq1, hq2⟩ := HRS2.out.job
                have HJB := Lib.hid hj; have HQ1 := Lib.hid hq1; have HQ2 := Lib.hid hq2
                obtain ⟨m0, m1, m2, m3, m4, m5⟩ := cells6 hj
                have n1 := frozen6 hj 1; have n2 := frozen6 hj 2; have n3 := frozen6 hj 3
                clear hj hq1 hq2
                go_wp2_with fail
                go_region
                go_wp2
                go_roundw
                case rel =>
                  have hst : refStep 1 l j = some { j with p := a, st := b, so := c } := by unfold refStep; rw [if_neg (by decide), HRW1.out]; rfl
                  have h3 := heap_set _ M 3 (.int .i64 c) _ _ (heap_set _ M 2 (.int .i64 b) _ _ (heap_set w2 M 1 (.int .i64 a) _ _ HJB.out))
                  have g3 := ((grown_set w2 M 1 (.int .i64 a)).trans (grown_set _ M 2 (.int .i64 b))).trans (grown_set _ M 3 (.int .i64 c))
                  refine ⟨2, { j with p := a, st := b, so := c }, by omega, rfl, ?_, ?_, ?_⟩
                  · show refAt ls 2 = _; rw [HSTEP.out, hst]
                  · exact RS.stored HRS2.out (by omega) (grown_drew g3) ⟨v1, v2, h3, R_grown_low HQ1.out (grown_drew g3) (by omega), R_grown_low HQ2.out (grown_drew g3) (by omega)⟩
                  · have := (grown_drew g3).size; have := hb9.out.size; omega
                case measure => simp [intOf]
              · have t3 : ((r.length : Int) == 3) = false := by rw [beq_eq_false_iff_ne]; omega
                have t4 : ((r.length : Int) != 3) = true := by rw [bne_iff_ne]; omega
                have hst : refStep 1 l j = none := by
                  unfold refStep
                  rw [if_neg (by decide), HRW1.out]
                  match r, h3 with
                  | [], _ => rfl
                  | [a], _ => rfl
                  | [a, b], _ => rfl
                  | [a, b, c], h => exact absurd rfl h
                  | a :: b :: c :: d :: r, _ => rfl
                have HST := Lib.hid hst
                clear h3 hst
                go_wp2
                rw [fin6_eq]
                exact ref_end Jb.zero (.slice none 0 0) (.slice none 0 0) 2 6 HN.out (HB0.out.trans (HRS2.out.below.mono (by omega))) HZ2.out (Kd.R_nil _ _ _ _ _) (Kd.R_nil _ _ _ _ _) (refT_bad s ls HLS.out 1 (by omega) j HJ.out (by rw [HSTEP.out, HST.out])) rfl rfl rfl
        · by_cases hshort : L ≤ 2
          · have hs1 := HL.out
            rcases (show L = 0 ∨ L = 1 ∨ L = 2 by omega) with rfl | rfl | rfl
            all_goals
              go_wp2_with fail
              rw [fin6_eq]
              exact ref_end Jb.zero (.slice none 0 0) (.slice none 0 0) 3 6 HN.out (HB0.out.trans (HRW.out.below.mono (by omega))) HZ.out (Kd.R_nil _ _ _ _ _) (Kd.R_nil _ _ _ _ _) (refT_bad s ls HLS.out 2 (by omega) j HJ.out (refAt_short ls 2 (by rw [HL.out]; omega))) rfl rfl rfl
          · obtain ⟨L', rfl⟩ : ∃ L', L = L' + 3 := ⟨L - 3, by omega⟩
            clear hshort
            obtain ⟨b5, rfl⟩ : ∃ b5, A5 = some ⟨b5, 0, none⟩ := by
              obtain ⟨b5, c5', e5, _, _⟩ := R_form HRW.out.lns (by rw [HL.out]; omega)
              injection e5 with e5 _ _
              exact ⟨b5, e5⟩
            obtain ⟨l, hl⟩ : ∃ l, ls[2]? = some l := ⟨_, List.getElem?_eq_getElem (by rw [HL.out]; omega)⟩
            have hls : l.size ≤ 90000 := by
              have h1 := splitN_size s s.size l (by rw [HLS.out]; exact List.mem_of_getElem? hl)
              omega
            have hc0 : wr.cell? ⟨b5, 2, none⟩ = some (.string l) := lns_cell HRW.out.lns HL.out hl
            have hstep := refAt_at ls 2 j l HJ.out hl
            have HSTEP := Lib.hid hstep; clear hstep hl
            have ha0 : wr.cell? ⟨M + 1, 2, none⟩ = some (.string ⟨#[105, 110, 112, 117, 116]⟩) := by simp [World.cell?, HRW.out.arr, arrCells]
            have hd : Hid (Below wr.heap.size wr wr.drew) := (Below.refl _ _).drew
            have tA : (0 : Int) ≤ 2 := by decide
            go_wp2_with fail
            go_region_held3 (fun w' => w'.cell? ⟨b5, 2, none⟩ = some (.string l) ∧ w'.cell? ⟨M + 1, 2, none⟩ = some (.string ⟨#[105, 110, 112, 117, 116]⟩) ∧ Hid (Below wr.heap.size wr w'))
              (first | exact ⟨hc0, ha0, hd⟩ | exact ⟨pw_cell_below hb9.out hc0, pw_cell_below hb9.out ha0, hb9.out⟩ | assumption)
              (first | (go_at_call 18; refine (row_any l ⟨#[105, 110, 112, 117, 116]⟩ no32_input hls _).mono ?_; rintro e w2 ⟨v, rfl, hv, hb⟩; have hb9 := Lib.hid ((Below.refl wr.heap.size wr).drew.trans (hb.mono (Nat.le_refl _))); have hv9 := Lib.hid hv; clear hb hv))
            rename_i hSS
            clear hSS hc0 ha0 hd tA
            have hrs2 := RS.step HRW.out (by omega) hb9.out
            have HRS2 := Lib.hid hrs2; clear hrs2
            have hz2 : w2.heap[N]? = some (.cells zeros 26 (0, 0)) := (HRS2.out.below.block N (by omega)).trans HZ0.out
            have HZ2 := Lib.hid hz2
            clear z0 z1 z2 z3 z4 z5 y0 y1 y2 y3 y4 y5
            obtain ⟨z0, z1, z2, z3, z4, z5⟩ := cells6 hz2
            have y0 := frozen6 hz2 0; have y1 := frozen6 hz2 1; have y2 := frozen6 hz2 2; have y3 := frozen6 hz2 3; have y4 := frozen6 hz2 4; have y5 := frozen6 hz2 5
            clear hz2
            obtain ⟨A, ca, rfl⟩ := Kd.R_slice hv9.out
            obtain ⟨r, hr⟩ : ∃ r, rowV l ⟨#[105, 110, 112, 117, 116]⟩ = r := ⟨_, rfl⟩
            obtain ⟨r, ok⟩ := r
            rw [hr] at hv9 ⊢
            dsimp only at hv9 ⊢
            have hrw : rowV l (wordN 2) = (r, ok) := hr
            have HRW1 := Lib.hid hrw; clear hr hrw
            cases ok with
            | false =>
              go_wp2
              rw [fin6_eq]
              have hst : refStep 2 l j = none := by unfold refStep; rw [if_neg (by decide), HRW1.out]; rfl
              exact ref_end Jb.zero (.slice none 0 0) (.slice none 0 0) 3 6 HN.out (HB0.out.trans (HRS2.out.below.mono (by omega))) HZ2.out (Kd.R_nil _ _ _ _ _) (Kd.R_nil _ _ _ _ _) (refT_bad s ls HLS.out 2 (by omega) j HJ.out (by rw [HSTEP.out, hst])) rfl rfl rfl
            | true =>
              obtain ⟨v1, v2, hj, hq1, hq2⟩ := HRS2.out.job
              have HJB := Lib.hid hj; have HQ1 := Lib.hid hq1; have HQ2 := Lib.hid hq2
              obtain ⟨m0, m1, m2, m3, m4, m5⟩ := cells6 hj
              have n1 := frozen6 hj 4
              clear hj hq1 hq2
              go_wp2
              go_roundw
              case rel =>
                have hst : refStep 2 l j = some { j with l1 := r } := by unfold refStep; rw [if_neg (by decide), HRW1.out]; rfl
                have h3 := heap_set w2 M 4 (.slice A r.length ca) _ _ HJB.out
                have g3 := grown_set w2 M 4 (.slice A r.length ca)
                have hde : wr.drew.heap.size = wr.heap.size := rfl
                have hv4 := Kd.R_lower (base' := M + 2) (R_grown_low hv9.out g3 (by omega)) (by omega)
                refine ⟨2 + 1, { j with l1 := r }, by omega, rfl, ?_, ?_, ?_⟩
                · show refAt ls (2 + 1) = _; rw [HSTEP.out, hst]
                · exact RS.stored HRS2.out (by omega) g3 ⟨_, v2, h3, hv4, R_grown_low HQ2.out g3 (by omega)⟩
                · have := g3.size; have := hb9.out.size; omega
              case measure => simp [intOf]
        · by_cases hshort : L ≤ 3
          · have hs1 := HL.out
            rcases (show L = 0 ∨ L = 1 ∨ L = 2 ∨ L = 3 by omega) with rfl | rfl | rfl | rfl
            all_goals
              go_wp2_with fail
              rw [fin6_eq]
              exact ref_end Jb.zero (.slice none 0 0) (.slice none 0 0) 4 6 HN.out (HB0.out.trans (HRW.out.below.mono (by omega))) HZ.out (Kd.R_nil _ _ _ _ _) (Kd.R_nil _ _ _ _ _) (refT_bad s ls HLS.out 3 (by omega) j HJ.out (refAt_short ls 3 (by rw [HL.out]; omega))) rfl rfl rfl
          · obtain ⟨L', rfl⟩ : ∃ L', L = L' + 4 := ⟨L - 4, by omega⟩
            clear hshort
            obtain ⟨b5, rfl⟩ : ∃ b5, A5 = some ⟨b5, 0, none⟩ := by
              obtain ⟨b5, c5', e5, _, _⟩ := R_form HRW.out.lns (by rw [HL.out]; omega)
              injection e5 with e5 _ _
              exact ⟨b5, e5⟩
            obtain ⟨l, hl⟩ : ∃ l, ls[3]? = some l := ⟨_, List.getElem?_eq_getElem (by rw [HL.out]; omega)⟩
            have hls : l.size ≤ 90000 := by
              have h1 := splitN_size s s.size l (by rw [HLS.out]; exact List.mem_of_getElem? hl)
              omega
            have hc0 : wr.cell? ⟨b5, 3, none⟩ = some (.string l) := lns_cell HRW.out.lns HL.out hl
            have hstep := refAt_at ls 3 j l HJ.out hl
            have HSTEP := Lib.hid hstep; clear hstep hl
            have ha0 : wr.cell? ⟨M + 1, 3, none⟩ = some (.string ⟨#[112, 105, 99, 107, 115]⟩) := by simp [World.cell?, HRW.out.arr, arrCells]
            have hd : Hid (Below wr.heap.size wr wr.drew) := (Below.refl _ _).drew
            have tA : (0 : Int) ≤ 3 := by decide
            go_wp2_with fail
            go_region_held3 (fun w' => w'.cell? ⟨b5, 3, none⟩ = some (.string l) ∧ w'.cell? ⟨M + 1, 3, none⟩ = some (.string ⟨#[112, 105, 99, 107, 115]⟩) ∧ Hid (Below wr.heap.size wr w'))
              (first | exact ⟨hc0, ha0, hd⟩ | exact ⟨pw_cell_below hb9.out hc0, pw_cell_below hb9.out ha0, hb9.out⟩ | assumption)
              (first | (go_at_call 18; refine (row_any l ⟨#[112, 105, 99, 107, 115]⟩ no32_picks hls _).mono ?_; rintro e w2 ⟨v, rfl, hv, hb⟩; have hb9 := Lib.hid ((Below.refl wr.heap.size wr).drew.trans (hb.mono (Nat.le_refl _))); have hv9 := Lib.hid hv; clear hb hv))
            rename_i hSS
            clear hSS hc0 ha0 hd tA
            have hrs2 := RS.step HRW.out (by omega) hb9.out
            have HRS2 := Lib.hid hrs2; clear hrs2
            have hz2 : w2.heap[N]? = some (.cells zeros 26 (0, 0)) := (HRS2.out.below.block N (by omega)).trans HZ0.out
            have HZ2 := Lib.hid hz2
            clear z0 z1 z2 z3 z4 z5 y0 y1 y2 y3 y4 y5
            obtain ⟨z0, z1, z2, z3, z4, z5⟩ := cells6 hz2
            have y0 := frozen6 hz2 0; have y1 := frozen6 hz2 1; have y2 := frozen6 hz2 2; have y3 := frozen6 hz2 3; have y4 := frozen6 hz2 4; have y5 := frozen6 hz2 5
            clear hz2
            obtain ⟨A, ca, rfl⟩ := Kd.R_slice hv9.out
            obtain ⟨r, hr⟩ : ∃ r, rowV l ⟨#[112, 105, 99, 107, 115]⟩ = r := ⟨_, rfl⟩
            obtain ⟨r, ok⟩ := r
            rw [hr] at hv9 ⊢
            dsimp only at hv9 ⊢
            have hrw : rowV l (wordN 3) = (r, ok) := hr
            have HRW1 := Lib.hid hrw; clear hr hrw
            cases ok with
            | false =>
              go_wp2
              rw [fin6_eq]
              have hst : refStep 3 l j = none := by unfold refStep; rw [if_neg (by decide), HRW1.out]; rfl
              exact ref_end Jb.zero (.slice none 0 0) (.slice none 0 0) 4 6 HN.out (HB0.out.trans (HRS2.out.below.mono (by omega))) HZ2.out (Kd.R_nil _ _ _ _ _) (Kd.R_nil _ _ _ _ _) (refT_bad s ls HLS.out 3 (by omega) j HJ.out (by rw [HSTEP.out, hst])) rfl rfl rfl
            | true =>
              obtain ⟨v1, v2, hj, hq1, hq2⟩ := HRS2.out.job
              have HJB := Lib.hid hj; have HQ1 := Lib.hid hq1; have HQ2 := Lib.hid hq2
              obtain ⟨m0, m1, m2, m3, m4, m5⟩ := cells6 hj
              have n1 := frozen6 hj 5
              clear hj hq1 hq2
              go_wp2
              go_roundw
              case rel =>
                have hst : refStep 3 l j = some { j with l2 := r } := by unfold refStep; rw [if_neg (by decide), HRW1.out]; rfl
                have h3 := heap_set w2 M 5 (.slice A r.length ca) _ _ HJB.out
                have g3 := grown_set w2 M 5 (.slice A r.length ca)
                have hde : wr.drew.heap.size = wr.heap.size := rfl
                have hv4 := Kd.R_lower (base' := M + 2) (R_grown_low hv9.out g3 (by omega)) (by omega)
                refine ⟨3 + 1, { j with l2 := r }, by omega, rfl, ?_, ?_, ?_⟩
                · show refAt ls (3 + 1) = _; rw [HSTEP.out, hst]
                · exact RS.stored HRS2.out (by omega) g3 ⟨v1, _, h3, R_grown_low HQ1.out g3 (by omega), hv4⟩
                · have := g3.size; have := hb9.out.size; omega
              case measure => simp [intOf]
        · -- four lines are read: is there anything behind them?
          have href := refT_end s ls HLS.out j HJ.out
          rw [HFR.out, HL.out] at href
          have HREF := Lib.hid href; clear href
          obtain ⟨v1, v2, hj, hq1, hq2⟩ := HRW.out.job
          obtain ⟨A1, c1, rfl⟩ := Kd.R_slice hq1
          obtain ⟨A2, c2, rfl⟩ := Kd.R_slice hq2
          have HQ1 := Lib.hid hq1; have HQ2 := Lib.hid hq2
          obtain ⟨m0, m1, m2, m3, m4, m5⟩ := cells6 hj
          clear hj hq1 hq2
          by_cases h4 : 4 < L
          · have t4 : decide (4 < (L : Int)) = true := by simpa using (show (4 : Int) < L by omega)
            have hrr : refT s = (Jb.zero, 5, 6) := by rw [HREF.out, if_pos (Or.inl h4)]
            have HRR := Lib.hid hrr
            clear h4 hrr
            go_wp2
            rw [fin6_eq]
            exact ref_end Jb.zero (.slice none 0 0) (.slice none 0 0) 5 6 HN.out (HB0.out.trans (HRW.out.below.mono (by omega))) HZ.out (Kd.R_nil _ _ _ _ _) (Kd.R_nil _ _ _ _ _) HRR.out rfl rfl rfl
          · have t4 : decide (4 < (L : Int)) = false := by simpa using (show ¬ (4 : Int) < L by omega)
            by_cases h5 : fr < s.size
            · have t5 : decide ((fr : Int) < (s.size : Int)) = true := by simpa using (show (fr : Int) < s.size by omega)
              have t6 : decide (fr < s.size) = true := by simpa using h5
              have hrr : refT s = (Jb.zero, 5, 6) := by rw [HREF.out, if_pos (Or.inr h5)]
              have HRR := Lib.hid hrr
              clear h4 hrr
              go_wp2
              rw [fin6_eq]
              exact ref_end Jb.zero (.slice none 0 0) (.slice none 0 0) 5 6 HN.out (HB0.out.trans (HRW.out.below.mono (by omega))) HZ.out (Kd.R_nil _ _ _ _ _) (Kd.R_nil _ _ _ _ _) HRR.out rfl rfl rfl
            · have t5 : decide ((fr : Int) < (s.size : Int)) = false := by simpa using (show ¬ (fr : Int) < s.size by omega)
              have t6 : decide (fr < s.size) = false := by simpa using h5
              have hrr : refT s = (j, 0, 0) := by rw [HREF.out, if_neg (by omega)]
              have HRR := Lib.hid hrr
              clear h4 h5 hrr
              go_wp2
              rw [fin6_eq]
              exact ref_end j _ _ 0 0 HN.out (HB0.out.trans (HRW.out.below.mono (by omega))) HZ.out (Kd.R_lower HQ1.out (by omega)) (Kd.R_lower HQ2.out (by omega)) HRR.out rfl rfl rfl
end Go.Proofs.YtmjflpffafnkdaaDoor
