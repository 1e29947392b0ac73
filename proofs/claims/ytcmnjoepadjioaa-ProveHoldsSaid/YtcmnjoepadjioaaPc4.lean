/- The arguer: its lines, and where each claim stands. -/
import Derived.Test.YtcmnjoepadjioaaPb
import Derived.Test.YtcmnjoepadjioaaPc3
namespace Go.Proofs.Ytcmnjoepadjioaa
open Go.RowKit Go.Maps
def cv (c : Clm) : Value := .agg #[.bool c.so, .int .i64 c.a, .int .i64 c.b]
theorem cv_inj {c d : Clm} (h : cv c = cv d) : c = d := by
  unfold cv at h
  simp only [Value.agg.injEq, Array.mk.injEq, List.cons.injEq, Value.bool.injEq, Value.int.injEq, true_and, and_true] at h
  exact clm_ext h.1 h.2.1 h.2.2
theorem laid : laidOutB Try.prog = true := by kernel_rfl
theorem lawClm : Keyed Try.prog 24 := Keyed.of_law (deep_law_laid laid (m := 3) (by omega) (of_decide_eq_true (by kernel_rfl)) (by kernel_rfl) (by kernel_rfl))
theorem fuel3 : ∃ d, Try.prog.types.size + 1 = d + 3 := ⟨Try.prog.types.size - 2, by
  have : 3 ≤ Try.prog.types.size := of_decide_eq_true (by kernel_rfl)
  omega⟩
theorem cellsInt : Try.prog.cellsOf 3 = 1 := by kernel_rfl
theorem cellsBool : Try.prog.cellsOf 4 = 1 := by kernel_rfl
theorem cellsClm : Try.prog.cellsOf 24 = 3 := by kernel_rfl
theorem typeClm : Try.prog.keyType 24 = true := by kernel_rfl
theorem keyClm {c : Clm} (h : c.ok) : (keyOf Try.prog 24 (cv c)).isSome = true := by
  obtain ⟨d, hd⟩ := fuel3
  have h1 : I64 c.a := by have := h.1; unfold litOk at this; unfold I64; omega
  have h2 : I64 c.b := by have := h.2; unfold litOk at this; unfold I64; omega
  have w1 := h1.wf; have w2 := h2.wf
  unfold keyOf cv
  rw [Try.underlying24, hd]
  simp [typeClm, Value.formed, Value.cells, Program.keyLits, Try.underlying24, Try.underlying3, Try.underlying4, cellsClm, cellsInt, cellsBool, w1, w2]

/-- where a claim stands among the lines -/
def Lin.cs (x : Lin) : List AV := [iv x.rule, .p (.bool x.c.so), iv x.c.a, iv x.c.b, .dsl 1 (x.src.map fun i => [iv i])]
theorem dt_lin (l : List Lin) : DtR (l.map Lin.cs) := by
  intro e he a ha
  obtain ⟨c, _, rfl⟩ := List.mem_map.1 he
  simp only [Lin.cs, List.mem_cons, List.not_mem_nil, or_false] at ha
  rcases ha with rfl | rfl | rfl | rfl | rfl <;> first | exact Dt.p _ | exact Dt.dsl _ _
def idxC (l : List Lin) (c : Clm) : Option Nat := l.findIdx? (fun x => decide (x.c = c))
def putL (l : List Lin) (x : Lin) : List Lin := if (idxC l x.c).isSome then l else l ++ [x]
def AH.nil : AH := ⟨0, []⟩
theorem nil_wf : WF AH.nil := fun id o h => by cases h
theorem nil_le (H : AH) : AH.nil.le H := fun id o h => by cases h
/-- all but the arguer's own parts is as it was -/
def Fr (a m : Nat) (H : AH) (v : AV) (H' : AH) (v' : AV) : Prop := H.nx ≤ H'.nx ∧ ∀ j, j < H.nx → j ≠ a → j ≠ m → (∀ n, v ≠ .osl j 5 0 n) → H'.get j = H.get j ∧ ∀ n, v' ≠ .osl j 5 0 n
theorem Fr.of {a m : Nat} {H H' : AH} {v : AV} (hn : H.nx ≤ H'.nx) (hk : ∀ j, j < H.nx → H'.get j = H.get j) : Fr a m H v H' v := ⟨hn, fun j hj _ _ h => ⟨hk j hj, h⟩⟩
theorem Fr.trans {a m : Nat} {H H1 H2 : AH} {v v1 v2 : AV} (h : Fr a m H v H1 v1) (k : Fr a m H1 v1 H2 v2) : Fr a m H v H2 v2 :=
  ⟨Nat.le_trans h.1 k.1, fun j hj h1 h2 h3 => by
    obtain ⟨q1, q2⟩ := h.2 j hj h1 h2 h3
    obtain ⟨q3, q4⟩ := k.2 j (Nat.lt_of_lt_of_le hj h.1) h1 h2 q2
    exact ⟨q3.trans q1, q4⟩⟩
structure ArgH (H : AH) (a m : Nat) (v : AV) (l : List Lin) : Prop where
  la : a < H.nx
  lm : m < H.nx
  box : H.get a = some (.box 52 [v, .mp m])
  row : Grows 36 5 AH.nil H v (l.map Lin.cs)
  map : ∃ f, H.get m = some (.map 24 l.length f) ∧ ∀ c : Clm, f (cv c) = (idxC l c).map fun i : Nat => iv (i : Int)
theorem idxC_snoc (l : List Lin) (x : Lin) (c : Clm) : idxC (l ++ [x]) c = (idxC l c).or (if x.c = c then some l.length else none) := by
  unfold idxC
  rw [List.findIdx?_append]
  congr 1
  by_cases h : x.c = c <;> simp [h, List.findIdx?_cons]
theorem tied_put {f : Value → Option AV} {l : List Lin} (h : ∀ c : Clm, f (cv c) = (idxC l c).map fun i : Nat => iv (i : Int)) {x : Lin} (hx : idxC l x.c = none) (c : Clm) : putA f (cv x.c) (iv l.length) (cv c) = (idxC (l ++ [x]) c).map fun i : Nat => iv (i : Int) := by
  rw [idxC_snoc]
  by_cases hc : x.c = c
  · rw [← hc, putA_same, hx, if_pos rfl]; rfl
  · rw [putA_other _ _ (fun e => hc (cv_inj e).symm), h, if_neg hc, Option.or_none]
theorem ArgH.keep {H H' : AH} {a m : Nat} {v : AV} {l : List Lin} (h : ArgH H a m v l) (hn : H.nx ≤ H'.nx) (hk : ∀ j, j < H.nx → H'.get j = H.get j) : ArgH H' a m v l := by
  obtain ⟨f, hm, hf⟩ := h.map
  exact ⟨Nat.lt_of_lt_of_le h.la hn, Nat.lt_of_lt_of_le h.lm hn, by rw [hk a h.la]; exact h.box, h.row.same hn fun j hj _ => hk j hj, f, by rw [hk m h.lm]; exact hm, hf⟩
theorem c_put {H : AH} {a m : Nat} {v : AV} {l : List Lin} (h : ArgH H a m v l) (rule : Int) (src : List Int) (c : Clm) (hc : c.ok) (hb : l.length < 1000000) :
    Tri Try.prog 26 [.ptr a 0, iv rule, c.av, .dsl 1 (src.map fun i => [iv i])] H (fun r H' => r = .tup [] ∧ ∃ v', ArgH H' a m v' (putL l ⟨rule, c, src⟩) ∧ Fr a m H v H' v') := tri_wf fun hw => tri_arguer_put (by
  obtain ⟨f, hm, hf⟩ := h.map
  have ha := h.la
  have hml := h.lm
  have hbx := h.box
  unfold S_arguer_put Clm.av Clm.cs
  have hne : a ≠ m := fun e => by rw [e, hm] at hbx; cases hbx
  have hfits : (keyOf Try.prog 24 (cv c)).isSome = true := keyClm hc
  unfold cv at hfits
  have hfc := hf c
  unfold cv at hfc
  simp (disch := first | omega | simp) [put_get_ne, hbx, hm, lawClm, hfits]
  cases hi : idxC l c with
  | some i =>
    rw [hfc, hi]
    simp
    refine rt_refl ⟨rfl, v, ?_, .of (by first | omega | (simp only [up_nx, put_nx, kill_nx]; done) | (simp only [up_nx, put_nx, kill_nx]; omega)) fun j hj => put_get_ne _ _ _ (by omega)⟩ (by first | omega | (simp only [up_nx, put_nx, kill_nx]; done) | (simp only [up_nx, put_nx, kill_nx]; omega))
    rw [putL, if_pos (by simp [hi])]
    exact h.keep (by first | omega | (simp only [up_nx, put_nx, kill_nx]; done) | (simp only [up_nx, put_nx, kill_nx]; omega)) fun j hj => put_get_ne _ _ _ (by omega)
  | none =>
    rw [hfc, hi]
    have hmx : maxLen = 9223372036854775807 := by decide
    have hrow := h.row
    simp (disch := first | omega | simp) [iv, put_get_ne, hbx, hm, lawClm, hfits, h.row.len]
    refine ⟨by omega, ?_⟩
    have hva := hrow.not (j := a) (fun xs h => by rw [hbx] at h; cases h)
    have hvm := hrow.not (j := m) (fun xs h => by rw [hm] at h; cases h)
    have hrk : ∀ H', H.nx ≤ H'.nx → (∀ j, j < H.nx → j ≠ m → H'.get j = H.get j) → Grows 36 5 AH.nil H' v (l.map Lin.cs) := fun H' q1 q2 => hrow.same q1 fun j hj ⟨n, hn⟩ => q2 j hj fun e => by subst e; exact hvm n hn
    refine Grows.app (t := 36) nil_wf (hrk _ (by first | omega | (simp only [up_nx, put_nx, kill_nx]; done) | (simp only [up_nx, put_nx, kill_nx]; omega)) ?_) (nil_le _) (Nat.zero_le _) (by first | omega | (simp only [up_nx, put_nx, kill_nx]; done) | (simp only [up_nx, put_nx, kill_nx]; omega)) (ys := [Lin.cs ⟨rule, c, src⟩]) ?_ (dt_lin [⟨rule, c, src⟩]) ?_ ?_ fun v' H2 g2 l2 n2 k2 hfr => ?_
    · intro j hj hjm; simp (disch := first | omega | simp) [put_get_ne]
    · simp [Lin.cs, iv]
    · simp; omega
    · simp; omega
    obtain ⟨n', hn'⟩ := hfr
    have hfj : ∀ j, j < H.nx → ∀ n, v' ≠ .osl j 5 0 n := fun j hj n e => by rw [hn'] at e; injection e with e; omega
    have hold : ∀ j, j < H.nx → j ≠ m → (∀ n, v ≠ .osl j 5 0 n) → H2.get j = H.get j := fun j hj hjm hv => by
      rw [k2 j (by omega) hv]; simp (disch := first | omega | simp) [put_get_ne]
    have hma : H2.get m = some (.map 24 (l.length + 1) (putA f (cv c) (iv l.length))) := by
      rw [k2 m (by omega) hvm]; simp (disch := first | omega | simp) [put_get_ne]; rfl
    have hba : H2.get a = some (.box 52 [v, .mp m]) := by rw [hold a ha hne hva]; exact hbx
    have hn2 : H.nx ≤ H2.nx := by rw [n2]; first | omega | (simp only [up_nx, put_nx, kill_nx]; done) | (simp only [up_nx, put_nx, kill_nx]; omega)
    have hpart : AV.part v' = true := by rw [hn']; rfl
    have hcell : AV.cells v' = [v'] := by rw [hn']; rfl
    simp [hba, hpart, hcell]
    refine rt_refl ⟨rfl, v', ⟨(by first | omega | (simp only [up_nx, put_nx, kill_nx]; done) | (simp only [up_nx, put_nx, kill_nx]; omega)), (by first | omega | (simp only [up_nx, put_nx, kill_nx]; done) | (simp only [up_nx, put_nx, kill_nx]; omega)), put_get _ _, ?_, putA f (cv c) (iv l.length), ?_, ?_⟩, (by first | omega | (simp only [up_nx, put_nx, kill_nx]; done) | (simp only [up_nx, put_nx, kill_nx]; omega)), fun j hj h1 h2 h3 => ⟨?_, hfj j hj⟩⟩ (by first | omega | (simp only [up_nx, put_nx, kill_nx]; done) | (simp only [up_nx, put_nx, kill_nx]; omega))
    · rw [putL, if_neg (by simp [hi]), List.map_append]
      exact g2.same (Nat.le_refl _) fun j hj ⟨n, hn⟩ => put_get_ne _ _ _ fun e => hfj j (by omega) n hn
    · rw [put_get_ne _ _ _ (Ne.symm hne), hma, putL, if_neg (by simp [hi])]; simp
    · intro c2; rw [putL, if_neg (by simp [hi])]; exact tied_put hf (x := ⟨rule, c, src⟩) hi c2
    · rw [put_get_ne _ _ _ h1]; exact hold j hj h2 h3)
end Go.Proofs.Ytcmnjoepadjioaa
