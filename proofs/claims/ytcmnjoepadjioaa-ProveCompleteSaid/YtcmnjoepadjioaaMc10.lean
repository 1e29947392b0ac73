/- Texts that the proof rests on, part 10: what each holds stands at its head. -/
import Derived.Test.YtcmnjoepadjioaaMc9

/- The arguer: its lines, and where each claim stands. -/
namespace Go.Proofs.Ytcmnjoepadjioaa
open Go.RowKit Go.Maps
def cv (c : Clm) : Value := .agg #[.bool c.so, .int .i64 c.a, .int .i64 c.b]
theorem cv_inj {c d : Clm} (h : cv c = cv d) : c = d := by
  unfold cv at h
  simp only [Value.agg.injEq, Array.mk.injEq, List.cons.injEq, Value.bool.injEq, Value.int.injEq, true_and, and_true] at h
  exact clm_ext h.1 h.2.1 h.2.2
theorem laid : laidOutB Try.prog = true := by kernel_rfl
theorem lawClm : Keyed Try.prog 24 := Keyed.of_law (deep_law_laid laid (m := 3) (by omega) (of_decide_eq_true (by kernel_rfl)) (by kernel_rfl) (by kernel_rfl))
theorem fuel3 : ∃ d, Try.prog.types.size + 1 = d + 3 := ⟨Try.prog.types.size - 2, by
  have : 3 ≤ Try.prog.types.size := of_decide_eq_true (by kernel_rfl)
  omega⟩
theorem cellsInt : Try.prog.cellsOf 3 = 1 := by kernel_rfl
theorem cellsBool : Try.prog.cellsOf 4 = 1 := by kernel_rfl
theorem cellsClm : Try.prog.cellsOf 24 = 3 := by kernel_rfl
theorem typeClm : Try.prog.keyType 24 = true := by kernel_rfl
theorem keyClm {c : Clm} (h : c.ok) : (keyOf Try.prog 24 (cv c)).isSome = true := by
  obtain ⟨d, hd⟩ := fuel3
  have h1 : I64 c.a := by have := h.1; unfold litOk at this; unfold I64; omega
  have h2 : I64 c.b := by have := h.2; unfold litOk at this; unfold I64; omega
  have w1 := h1.wf; have w2 := h2.wf
  unfold keyOf cv
  rw [Try.underlying24, hd]
  simp [typeClm, Value.formed, Value.cells, Program.keyLits, Try.underlying24, Try.underlying3, Try.underlying4, cellsClm, cellsInt, cellsBool, w1, w2]

/-- where a claim stands among the lines -/
def Lin.cs (x : Lin) : List AV := [iv x.rule, .p (.bool x.c.so), iv x.c.a, iv x.c.b, .dsl 1 (x.src.map fun i => [iv i])]
theorem dt_lin (l : List Lin) : DtR (l.map Lin.cs) := by
  intro e he a ha
  obtain ⟨c, _, rfl⟩ := List.mem_map.1 he
  simp only [Lin.cs, List.mem_cons, List.not_mem_nil, or_false] at ha
  rcases ha with rfl | rfl | rfl | rfl | rfl <;> first | exact Dt.p _ | exact Dt.dsl _ _
def idxC (l : List Lin) (c : Clm) : Option Nat := l.findIdx? (fun x => decide (x.c = c))
def putL (l : List Lin) (x : Lin) : List Lin := if (idxC l x.c).isSome then l else l ++ [x]
def AH.nil : AH := ⟨0, []⟩
theorem nil_wf : WF AH.nil := fun id o h => by cases h
theorem nil_le (H : AH) : AH.nil.le H := fun id o h => by cases h
/-- all but the arguer's own parts is as it was -/
def Fr (a m : Nat) (H : AH) (v : AV) (H' : AH) (v' : AV) : Prop := H.nx ≤ H'.nx ∧ ∀ j, j < H.nx → j ≠ a → j ≠ m → (∀ n, v ≠ .osl j 5 0 n) → H'.get j = H.get j ∧ ∀ n, v' ≠ .osl j 5 0 n
theorem Fr.of {a m : Nat} {H H' : AH} {v : AV} (hn : H.nx ≤ H'.nx) (hk : ∀ j, j < H.nx → H'.get j = H.get j) : Fr a m H v H' v := ⟨hn, fun j hj _ _ h => ⟨hk j hj, h⟩⟩
theorem Fr.trans {a m : Nat} {H H1 H2 : AH} {v v1 v2 : AV} (h : Fr a m H v H1 v1) (k : Fr a m H1 v1 H2 v2) : Fr a m H v H2 v2 :=
  ⟨Nat.le_trans h.1 k.1, fun j hj h1 h2 h3 => by
    obtain ⟨q1, q2⟩ := h.2 j hj h1 h2 h3
    obtain ⟨q3, q4⟩ := k.2 j (Nat.lt_of_lt_of_le hj h.1) h1 h2 q2
    exact ⟨q3.trans q1, q4⟩⟩
structure ArgH (H : AH) (a m : Nat) (v : AV) (l : List Lin) : Prop where
  la : a < H.nx
  lm : m < H.nx
  box : H.get a = some (.box 52 [v, .mp m])
  row : Grows 36 5 AH.nil H v (l.map Lin.cs)
  map : ∃ f, H.get m = some (.map 24 l.length f) ∧ ∀ c : Clm, f (cv c) = (idxC l c).map fun i : Nat => iv (i : Int)
theorem idxC_snoc (l : List Lin) (x : Lin) (c : Clm) : idxC (l ++ [x]) c = (idxC l c).or (if x.c = c then some l.length else none) := by
  unfold idxC
  rw [List.findIdx?_append]
  congr 1
  by_cases h : x.c = c <;> simp [h, List.findIdx?_cons]
theorem tied_put {f : Value → Option AV} {l : List Lin} (h : ∀ c : Clm, f (cv c) = (idxC l c).map fun i : Nat => iv (i : Int)) {x : Lin} (hx : idxC l x.c = none) (c : Clm) : putA f (cv x.c) (iv l.length) (cv c) = (idxC (l ++ [x]) c).map fun i : Nat => iv (i : Int) := by
  rw [idxC_snoc]
  by_cases hc : x.c = c
  · rw [← hc, putA_same, hx, if_pos rfl]; rfl
  · rw [putA_other _ _ (fun e => hc (cv_inj e).symm), h, if_neg hc, Option.or_none]
theorem ArgH.keep {H H' : AH} {a m : Nat} {v : AV} {l : List Lin} (h : ArgH H a m v l) (hn : H.nx ≤ H'.nx) (hk : ∀ j, j < H.nx → H'.get j = H.get j) : ArgH H' a m v l := by
  obtain ⟨f, hm, hf⟩ := h.map
  exact ⟨Nat.lt_of_lt_of_le h.la hn, Nat.lt_of_lt_of_le h.lm hn, by rw [hk a h.la]; exact h.box, h.row.same hn fun j hj _ => hk j hj, f, by rw [hk m h.lm]; exact hm, hf⟩
theorem c_put {H : AH} {a m : Nat} {v : AV} {l : List Lin} (h : ArgH H a m v l) (rule : Int) (src : List Int) (c : Clm) (hc : c.ok) (hb : l.length < 1000000) :
    Tri Try.prog 26 [.ptr a 0, iv rule, c.av, .dsl 1 (src.map fun i => [iv i])] H (fun r H' => r = .tup [] ∧ ∃ v', ArgH H' a m v' (putL l ⟨rule, c, src⟩) ∧ Fr a m H v H' v') := tri_wf fun hw => tri_arguer_put (by
  obtain ⟨f, hm, hf⟩ := h.map
  have ha := h.la
  have hml := h.lm
  have hbx := h.box
  unfold S_arguer_put Clm.av Clm.cs
  have hne : a ≠ m := fun e => by rw [e, hm] at hbx; cases hbx
  have hfits : (keyOf Try.prog 24 (cv c)).isSome = true := keyClm hc
  unfold cv at hfits
  have hfc := hf c
  unfold cv at hfc
  simp (disch := first | omega | simp) [put_get_ne, hbx, hm, lawClm, hfits]
  cases hi : idxC l c with
  | some i =>
    rw [hfc, hi]
    simp
    refine rt_refl ⟨rfl, v, ?_, .of (by first | omega | (simp only [up_nx, put_nx]; done) | (simp only [up_nx, put_nx]; omega)) fun j hj => put_get_ne _ _ _ (by omega)⟩ (by first | omega | (simp only [up_nx, put_nx]; done) | (simp only [up_nx, put_nx]; omega))
    rw [putL, if_pos (by simp [hi])]
    exact h.keep (by first | omega | (simp only [up_nx, put_nx]; done) | (simp only [up_nx, put_nx]; omega)) fun j hj => put_get_ne _ _ _ (by omega)
  | none =>
    rw [hfc, hi]
    have hmx : maxLen = 9223372036854775807 := by decide
    have hrow := h.row
    simp (disch := first | omega | simp) [iv, put_get_ne, hbx, hm, lawClm, hfits, h.row.len]
    refine ⟨by omega, ?_⟩
    have hva := hrow.not (j := a) (fun xs h => by rw [hbx] at h; cases h)
    have hvm := hrow.not (j := m) (fun xs h => by rw [hm] at h; cases h)
    have hrk : ∀ H', H.nx ≤ H'.nx → (∀ j, j < H.nx → j ≠ m → H'.get j = H.get j) → Grows 36 5 AH.nil H' v (l.map Lin.cs) := fun H' q1 q2 => hrow.same q1 fun j hj ⟨n, hn⟩ => q2 j hj fun e => by subst e; exact hvm n hn
    refine Grows.app (t := 36) nil_wf (hrk _ (by first | omega | (simp only [up_nx, put_nx]; done) | (simp only [up_nx, put_nx]; omega)) ?_) (nil_le _) (Nat.zero_le _) (by first | omega | (simp only [up_nx, put_nx]; done) | (simp only [up_nx, put_nx]; omega)) (ys := [Lin.cs ⟨rule, c, src⟩]) ?_ (dt_lin [⟨rule, c, src⟩]) ?_ ?_ fun v' H2 g2 l2 n2 k2 hfr => ?_
    · intro j hj hjm; simp (disch := first | omega | simp) [put_get_ne]
    · simp [Lin.cs, iv]
    · simp; omega
    · simp; omega
    obtain ⟨n', hn'⟩ := hfr
    have hfj : ∀ j, j < H.nx → ∀ n, v' ≠ .osl j 5 0 n := fun j hj n e => by rw [hn'] at e; injection e with e; omega
    have hold : ∀ j, j < H.nx → j ≠ m → (∀ n, v ≠ .osl j 5 0 n) → H2.get j = H.get j := fun j hj hjm hv => by
      rw [k2 j (by omega) hv]; simp (disch := first | omega | simp) [put_get_ne]
    have hma : H2.get m = some (.map 24 (l.length + 1) (putA f (cv c) (iv l.length))) := by
      rw [k2 m (by omega) hvm]; simp (disch := first | omega | simp) [put_get_ne]; rfl
    have hba : H2.get a = some (.box 52 [v, .mp m]) := by rw [hold a ha hne hva]; exact hbx
    have hn2 : H.nx ≤ H2.nx := by rw [n2]; first | omega | (simp only [up_nx, put_nx]; done) | (simp only [up_nx, put_nx]; omega)
    have hpart : AV.part v' = true := by rw [hn']; rfl
    have hcell : AV.cells v' = [v'] := by rw [hn']; rfl
    simp [hba, hpart, hcell]
    refine rt_refl ⟨rfl, v', ⟨(by first | omega | (simp only [put_nx]; done) | (simp only [put_nx]; omega)), (by first | omega | (simp only [put_nx]; done) | (simp only [put_nx]; omega)), put_get _ _, ?_, putA f (cv c) (iv l.length), ?_, ?_⟩, (by first | omega | (simp only [put_nx]; done) | (simp only [put_nx]; omega)), fun j hj h1 h2 h3 => ⟨?_, hfj j hj⟩⟩ (by first | omega | (simp only [put_nx]; done) | (simp only [put_nx]; omega))
    · rw [putL, if_neg (by simp [hi]), List.map_append]
      exact g2.same (Nat.le_refl _) fun j hj ⟨n, hn⟩ => put_get_ne _ _ _ fun e => hfj j (by omega) n hn
    · rw [put_get_ne _ _ _ (Ne.symm hne), hma, putL, if_neg (by simp [hi])]; simp
    · intro c2; rw [putL, if_neg (by simp [hi])]; exact tied_put hf (x := ⟨rule, c, src⟩) hi c2
    · rw [put_get_ne _ _ _ h1]; exact hold j hj h2 h3)
end Go.Proofs.Ytcmnjoepadjioaa

/- What comes of one line, and of two. -/
namespace Go.Proofs.Ytcmnjoepadjioaa
open Go.RowKit Go.Maps
theorem putL_old {l : List Lin} {x : Lin} {i : Nat} (h : idxC l x.c = some i) : putL l x = l := by unfold putL; rw [h]; rfl
theorem putL_new {l : List Lin} {x : Lin} (h : idxC l x.c = none) : putL l x = l ++ [x] := by unfold putL; rw [h]; rfl
theorem putL_len (l : List Lin) (x : Lin) : l.length ≤ (putL l x).length ∧ (putL l x).length ≤ l.length + 1 := by
  cases h : idxC l x.c with
  | none => rw [putL_new h, List.length_append]; simp
  | some i => rw [putL_old h]; omega
def voidL (c : Clm) (i : Int) (l : List Lin) (ns : List Int) : List Lin := ns.foldl (fun l n => putL l ⟨5, ⟨false, c.a, n⟩, [i]⟩) l
def nouns : List Int := [1, -1, 2, -2, 3, -3, 4, -4, 5, -5, 6, -6]
def oneL (l : List Lin) (c : Clm) (i : Int) : List Lin :=
  if c.so then putL (putL l ⟨7, ⟨true, c.b, c.a⟩, [i]⟩) ⟨8, ⟨true, c.a, c.a⟩, [i]⟩
  else if c.b = -c.a then voidL c i (putL l ⟨4, ⟨false, -c.b, -c.a⟩, [i]⟩) nouns
  else putL l ⟨4, ⟨false, -c.b, -c.a⟩, [i]⟩
theorem voidL_len (c : Clm) (i : Int) : ∀ (ns : List Int) (l : List Lin), l.length ≤ (voidL c i l ns).length ∧ (voidL c i l ns).length ≤ l.length + ns.length
  | [], l => by unfold voidL; simp
  | n :: r, l => by
    have h1 := putL_len l ⟨5, ⟨false, c.a, n⟩, [i]⟩
    have h2 := voidL_len c i r (putL l ⟨5, ⟨false, c.a, n⟩, [i]⟩)
    unfold voidL at h2 ⊢
    rw [List.foldl_cons, List.length_cons]
    omega
theorem voidL_snoc (c : Clm) (i : Int) (l : List Lin) (ns : List Int) (n : Int) : voidL c i l (ns ++ [n]) = putL (voidL c i l ns) ⟨5, ⟨false, c.a, n⟩, [i]⟩ := by unfold voidL; rw [List.foldl_append]; rfl
/-- put is called with a row laid for it -/
theorem ca_put {H : AH} {a m : Nat} {v : AV} {l : List Lin} (h : ArgH H a m v l) (rule : Int) (src : List Int) (c : Clm) (hc : c.ok) (hb : l.length < 1000000) {r n : Nat} {t : TypeId} (hr : H.get r = some (.row t 1 (src.map fun i => [iv i]))) (hn : n = src.length) {k : AV → AH → Prop}
    (hk : ∀ v' H', ArgH H' a m v' (putL l ⟨rule, c, src⟩) → H.nx ≤ H'.nx → (∀ j, j < H.nx → j ≠ r → j ≠ a → j ≠ m → (∀ n, v ≠ .osl j 5 0 n) → H'.get j = H.get j ∧ ∀ n, v' ≠ .osl j 5 0 n) → k (.tup []) H') : Ca Try.prog (.fn (.func 26) [] []) [.ptr a 0, .p (.int .i64 rule), .agg [.p (.bool c.so), .p (.int .i64 c.a), .p (.int .i64 c.b)], .osl r 1 0 n] k H := by
  subst hn
  have hd : DtR (src.map fun i => [iv i]) := fun e he x hx => by
    obtain ⟨i, _, rfl⟩ := List.mem_map.1 he
    simp only [List.mem_singleton] at hx
    subst hx; exact Dt.p _
  obtain ⟨f, hm, hf⟩ := h.map
  have hra : r ≠ a := fun e => by subst e; rw [h.box] at hr; cases hr
  have hrm : r ≠ m := fun e => by subst e; rw [hm] at hr; cases hr
  have hrv := h.row.not (j := r) (fun xs h => by rw [hr] at h; cases h)
  have h2 : ArgH (H.put r (.frz 1 (src.map fun i => [iv i]))) a m v l := ⟨h.la, h.lm, by rw [put_get_ne _ _ _ hra.symm]; exact h.box, h.row.same (Nat.le_refl _) (fun j _ ⟨n, hn⟩ => put_get_ne _ _ _ fun e => hrv n (e ▸ hn)), f, by rw [put_get_ne _ _ _ hrm.symm]; exact hm, hf⟩
  refine ca_of (by kernel_rfl) (Tri.st (.freeze hr hd) (Tri.args (.cons (Sub.refl _) (.cons (Sub.refl _) (.cons (Sub.refl _) (.cons ?_ .nil)))) (c_put h2 rule src c hc hb))) ?_
  · have := Sub.frz (P := Try.prog) (H := H.put r (.frz 1 (src.map fun i => [iv i]))) (r := r) (off := 0) (n := src.length) (put_get _ _) (by simp)
    rw [List.drop_zero, List.take_of_length_le (by simp)] at this
    exact this
  · rintro _ H' ⟨rfl, v', h3, h4, h5⟩
    exact hk v' H' h3 h4 fun j hj h6 h7 h8 h9 => by
      obtain ⟨q1, q2⟩ := h5 j hj h7 h8 h9
      exact ⟨by rw [q1, put_get_ne _ _ _ h6], q2⟩
theorem noun_at : ∀ n : Nat, n < 6 → nouns[2 * n]? = some ((n + 1 : Nat) : Int) ∧ nouns[2 * n + 1]? = some (-((n + 1 : Nat) : Int)) := by decide
theorem take_next {α : Type} {l : List α} {k : Nat} {x : α} (h : l[k]? = some x) : l.take (k + 1) = l.take k ++ [x] := by rw [List.take_add_one, h]; rfl
theorem wneg6 {n : Nat} (h : n < 6) : IntKind.i64.wrap (-((n : Int) + 1)) = -((n : Int) + 1) := by rw [IntKind.wrap_i64]; omega
theorem le6 {n : Nat} (h : n < 6) : (n : Int) + 1 ≤ 6 := by omega
theorem nle6 {n : Nat} (h : ¬ n < 6) : ¬ (n : Int) + 1 ≤ 6 := by omega
theorem noun2 {n j : Nat} (h : n < 6) (hj : j < 2) : ∃ b : Int, ([[iv ((n : Int) + 1)], [iv (-((n : Int) + 1))]] : List (List AV))[j]? = some [iv b] ∧ nouns[2 * n + j]? = some b ∧ litOk b := by
  obtain ⟨h1, h2⟩ := noun_at n h
  have : j = 0 ∨ j = 1 := by omega
  rcases this with rfl | rfl
  · exact ⟨_, rfl, h1, by unfold litOk; omega⟩
  · exact ⟨_, rfl, h2, by unfold litOk; omega⟩
theorem wn2 {n : Nat} (h : n < 6) : IntKind.i64.wrap ((n : Int) + 1 + 1) = (n : Int) + 1 + 1 := by rw [IntKind.wrap_i64]; omega
theorem two_of {j : Nat} (h : j ≤ 2) (k : ¬ j < 2) : j = 2 := by omega
theorem six_of {j : Nat} (h : j ≤ 6) (k : ¬ j < 6) : j = 6 := by omega
theorem c_one {H : AH} {a m : Nat} {v : AV} {l : List Lin} (h : ArgH H a m v l) {i : Nat} {x : Lin} (hx : l[i]? = some x) (hok : x.c.ok) (hb : l.length < 900000) :
    Tri Try.prog 27 [.ptr a 0, iv i] H (fun r H' => r = .tup [] ∧ ∃ v', ArgH H' a m v' (oneL l x.c i) ∧ Fr a m H v H' v') := tri_wf fun hw => tri_arguer_one (by
  have hil := (List.getElem?_eq_some_iff.1 hx).1
  obtain ⟨f, hm, hf⟩ := h.map
  have ha := h.la
  have hml := h.lm
  have hbx := h.box
  obtain ⟨r, xs, rfl, hr, hrow, hat⟩ := h.row.at_ (by rw [List.length_map]; omega)
  have hxi : xs[i]? = some x.cs := by rw [hat i (by rw [List.length_map]; omega), List.getElem?_map, hx]; rfl
  unfold S_arguer_one
  have hwa : IntKind.i64.wrap (-x.c.a) = -x.c.a := by have := hok.1; unfold litOk at this; rw [IntKind.wrap_i64]; omega
  have hwb : IntKind.i64.wrap (-x.c.b) = -x.c.b := by have := hok.2; unfold litOk at this; rw [IntKind.wrap_i64]; omega
  have hlen := putL_len l
  simp (disch := first | omega | simp) [iv, hbx, hrow, hxi, hil, Lin.cs, hwa, hwb]
  have hfr : ∀ H1, H.nx ≤ H1.nx → (∀ j, j < H.nx → H1.get j = H.get j) → Fr a m H (.osl r 5 0 l.length) H1 (.osl r 5 0 l.length) := fun H1 => Fr.of
  rw [List.length_map] at h
  refine ⟨fun hso => ?_, fun hso => ?_⟩
  · refine ca_put (h.keep (by first | omega | (simp only [up_nx, put_nx]; done) | (simp only [up_nx, put_nx]; omega)) fun j hj => by simp (disch := first | omega | simp) [put_get_ne]) 7 [(i : Int)] ⟨true, x.c.b, x.c.a⟩ ⟨hok.2, hok.1⟩ (by omega) (put_get _ _) rfl fun v1 H1 h1 n1 k1 => ?_
    have n1' : H.nx + 19 ≤ H1.nx := by simp only [up_nx, put_nx] at n1; omega
    have hc1 : H1.get (H.nx + 8) = some (.box 24 x.c.cs) := by
      rw [(k1 _ (by first | omega | (simp only [up_nx, put_nx]; done) | (simp only [up_nx, put_nx]; omega)) (by omega) (by omega) (by omega) (fun n e => by injection e with e; omega)).1]
      simp (disch := first | omega | simp) [put_get_ne, Clm.cs]
    have f1 : Fr a m H (.osl r 5 0 l.length) H1 v1 := ⟨by omega, fun j hj q1 q2 q3 => by
      obtain ⟨e1, e2⟩ := k1 j (by first | omega | (simp only [up_nx, put_nx]; done) | (simp only [up_nx, put_nx]; omega)) (by omega) q1 q2 q3
      exact ⟨by rw [e1]; simp (disch := first | omega | simp) [put_get_ne], e2⟩⟩
    simp (disch := first | omega | simp) [hc1, Clm.cs]
    refine ca_put (h1.keep (by first | omega | (simp only [up_nx, put_nx]; done) | (simp only [up_nx, put_nx]; omega)) fun j hj => by simp (disch := first | omega | simp) [put_get_ne]) 8 [(i : Int)] ⟨true, x.c.a, x.c.a⟩ ⟨hok.1, hok.1⟩ (by have := hlen ⟨7, ⟨true, x.c.b, x.c.a⟩, [(i : Int)]⟩; omega) (put_get _ _) rfl fun v2 H2 h2 n2 k2 => ?_
    have n2' : H1.nx + 9 ≤ H2.nx := by simp only [up_nx, put_nx] at n2; omega
    have f2 : Fr a m H1 v1 H2 v2 := ⟨by omega, fun j hj q1 q2 q3 => by
      obtain ⟨e1, e2⟩ := k2 j (by first | omega | (simp only [up_nx, put_nx]; done) | (simp only [up_nx, put_nx]; omega)) (by omega) q1 q2 q3
      exact ⟨by rw [e1]; simp (disch := first | omega | simp) [put_get_ne], e2⟩⟩
    exact rt_refl ⟨rfl, v2, by rw [oneL, if_pos hso]; exact h2, f1.trans f2⟩ (by omega)
  · refine ca_put (h.keep (by first | omega | (simp only [up_nx, put_nx]; done) | (simp only [up_nx, put_nx]; omega)) fun j hj => by simp (disch := first | omega | simp) [put_get_ne]) 4 [(i : Int)] ⟨false, -x.c.b, -x.c.a⟩ ⟨lit_neg hok.2, lit_neg hok.1⟩ (by omega) (put_get _ _) rfl fun v1 H1 h1 n1 k1 => ?_
    have n1' : H.nx + 21 ≤ H1.nx := by simp only [up_nx, put_nx] at n1; omega
    have hc1 : H1.get (H.nx + 8) = some (.box 24 x.c.cs) := by
      rw [(k1 _ (by first | omega | (simp only [up_nx, put_nx]; done) | (simp only [up_nx, put_nx]; omega)) (by omega) (by omega) (by omega) (fun n e => by injection e with e; omega)).1]
      simp (disch := first | omega | simp) [put_get_ne, Clm.cs]
    have hv1 : ∀ n, v1 ≠ .osl (H.nx + 8) 5 0 n := (k1 _ (by first | omega | (simp only [up_nx, put_nx]; done) | (simp only [up_nx, put_nx]; omega)) (by omega) (by omega) (by omega) (fun n e => by injection e with e; omega)).2
    have f1 : Fr a m H (.osl r 5 0 l.length) H1 v1 := ⟨by omega, fun j hj q1 q2 q3 => by
      obtain ⟨e1, e2⟩ := k1 j (by first | omega | (simp only [up_nx, put_nx]; done) | (simp only [up_nx, put_nx]; omega)) (by omega) q1 q2 q3
      exact ⟨by rw [e1]; simp (disch := first | omega | simp) [put_get_ne], e2⟩⟩
    simp (disch := first | omega | simp) [hc1, Clm.cs, hwa]
    refine ⟨fun hne => ?_, fun heq => ?_⟩
    · exact rt_refl ⟨rfl, v1, by rw [oneL, if_neg (by simp [hso]), if_neg hne]; exact h1, f1⟩ (by omega)
    · have hl1 := hlen ⟨4, ⟨false, -x.c.b, -x.c.a⟩, [(i : Int)]⟩
      clear n1 k1 hfr hwa hwb
      generalize hL : putL l ⟨4, ⟨false, -x.c.b, -x.c.a⟩, [(i : Int)]⟩ = L at h1 hl1
      have hvl : ∀ q, (voidL x.c i L (nouns.take q)).length < 1000000 := fun q => by
        have := (voidL_len x.c i (nouns.take q) L).2
        have h12 : nouns.length = 12 := rfl
        rw [List.length_take] at this
        omega
      refine loop_st (fun q : Nat × AV => [iv ((q.1 + 1 : Nat) : Int)]) (fun q H' => q.1 ≤ 6 ∧ ArgH H' a m q.2 (voidL x.c i L (nouns.take (2 * q.1))) ∧ Fr a m H1 v1 H' q.2) (fun q => 6 - q.1) (0, v1) (.refl (Nat.le_refl _)) ⟨Nat.zero_le _, h1, .of (Nat.le_refl _) fun _ _ => rfl⟩ ?_
      rintro ⟨n, u⟩ H2 hn2 ⟨hn6, hA, hF⟩ k hk
      dsimp only at hn6 hA hF hk
      by_cases h6 : n < 6
      · obtain ⟨hna, hnb⟩ := noun_at n h6
        have hwn := wneg6 h6
        have h6' := le6 h6
        simp (disch := first | omega | simp) [iv, h6', hwn]
        clear hwn
        have hn3 := hA.row
        refine loop_st (fun q : Nat × AV => [iv (q.1 : Int)]) (fun q H' => q.1 ≤ 2 ∧ ArgH H' a m q.2 (voidL x.c i L (nouns.take (2 * n + q.1))) ∧ Fr a m ((H2.up 6).put (H2.nx + 3) (.row 3 1 [[iv ((n : Int) + 1)], [iv (-((n : Int) + 1))]])) u H' q.2) (fun q => 2 - q.1) (0, u) (.refl (by first | omega | (simp only [up_nx, put_nx, kill_nx]; done) | (simp only [up_nx, put_nx, kill_nx]; omega))) ⟨Nat.zero_le _, hA.keep (by first | omega | (simp only [up_nx, put_nx]; done) | (simp only [up_nx, put_nx]; omega)) fun j hj => by simp (disch := first | omega | simp) [put_get_ne], .of (Nat.le_refl _) fun _ _ => rfl⟩ ?_
        rintro ⟨j, u2⟩ H4 hn4 ⟨hj2, hA2, hF2⟩ k2 hk2
        dsimp only at hj2 hA2 hF2 hk2
        have hH3 : H2.nx + 6 ≤ H4.nx := by simp only [up_nx, put_nx] at hn4; omega
        have hu : ∀ q, H2.nx ≤ q → ∀ n, u ≠ .osl q 5 0 n := fun q hq n e => by have := hn3.lt e; omega
        have hla := hA.la
        have hlm := hA.lm
        have hh1 := hF.1
        have hrw : H4.get (H2.nx + 3) = some (.row 3 1 [[iv ((n : Int) + 1)], [iv (-((n : Int) + 1))]]) := by
          rw [(hF2.2 (H2.nx + 3) (by first | omega | (simp only [up_nx, put_nx]; done) | (simp only [up_nx, put_nx]; omega)) (by omega) (by omega) (hu _ (by omega))).1]; exact put_get _ _
        have hc2 := hF.2 (H.nx + 8) (by omega) (by omega) (by omega) hv1
        have hc4 : H4.get (H.nx + 8) = some (.box 24 x.c.cs) := by
          rw [(hF2.2 (H.nx + 8) (by first | omega | (simp only [up_nx, put_nx]; done) | (simp only [up_nx, put_nx]; omega)) (by omega) (by omega) hc2.2).1, put_get_ne _ _ _ (by omega), up_get, hc2.1, hc1]
        have f4 : Fr a m H1 v1 H4 u2 := (hF.trans (.of (H' := (H2.up 6).put (H2.nx + 3) (.row 3 1 [[iv ((n : Int) + 1)], [iv (-((n : Int) + 1))]])) (by first | omega | (simp only [up_nx, put_nx]; done) | (simp only [up_nx, put_nx]; omega)) fun j hj => by simp (disch := first | omega | simp) [put_get_ne])).trans hF2
        by_cases hjj : j < 2
        · obtain ⟨b, hb1, hb2, hbok⟩ := noun2 h6 hjj
          have hj3 : (j : Int) < 2 := by omega
          generalize ([[iv ((n : Int) + 1)], [iv (-((n : Int) + 1))]] : List (List AV)) = ys at hrw hb1
          have hyl : 0 ≤ (j : Int) := by omega
          simp (disch := first | omega | simp) [iv, hj3, hrw, hb1, hc4, Clm.cs]
          refine ca_put (hA2.keep (by first | omega | (simp only [up_nx, put_nx]; done) | (simp only [up_nx, put_nx]; omega)) fun j hj => by simp (disch := first | omega | simp) [put_get_ne]) 5 [(i : Int)] ⟨false, x.c.a, b⟩ ⟨hok.1, hbok⟩ (hvl _) (put_get _ _) rfl fun v5 H5 h5 n5 k5 => ?_
          have n5' : H4.nx + 8 ≤ H5.nx := by simp only [up_nx, put_nx] at n5; omega
          have hij := ivn (i := j) (by omega)
          have f5 : Fr a m H4 u2 H5 v5 := ⟨by omega, fun j hj q1 q2 q3 => by
            obtain ⟨e1, e2⟩ := k5 j (by first | omega | (simp only [up_nx, put_nx]; done) | (simp only [up_nx, put_nx]; omega)) (by omega) q1 q2 q3
            exact ⟨by rw [e1]; simp (disch := first | omega | simp) [put_get_ne], e2⟩⟩
          simp [hij]
          refine hk2 (j + 1, v5) _ _ _ (.refl (by first | omega | (simp only [up_nx, put_nx, kill_nx]; done) | (simp only [up_nx, put_nx, kill_nx]; omega))) ⟨hjj, ?_, hF2.trans f5⟩ (by simp only; omega)
          rw [← Nat.add_assoc, take_next hb2, voidL_snoc]
          exact h5
        · have hj3 : ¬ (j : Int) < 2 := by omega
          have hj2 := two_of hj2 hjj
          subst hj2
          have hij : IntKind.i64.wrap ((n : Int) + 1 + 1) = (n : Int) + 1 + 1 := wn2 h6
          simp (disch := first | omega | simp) [iv, hij]
          exact hk (n + 1, u2) _ _ _ (.refl (Nat.le_trans hh1 (by omega))) ⟨h6, hA2, f4⟩ (by simp only; omega)
      · have h6' := nle6 h6
        have hn6' := six_of hn6 h6
        subst hn6'
        simp (disch := first | omega | simp) [iv]
        have h12 : nouns.take (2 * 6) = nouns := rfl
        rw [h12] at hA
        refine rt_refl ⟨rfl, u, ?_, f1.trans hF⟩ (Nat.le_trans f1.1 hF.1)
        rw [oneL, if_neg (by simp [hso]), if_pos heq, hL]
        exact hA)
end Go.Proofs.Ytcmnjoepadjioaa

/- What comes of two lines; the clash. -/
namespace Go.Proofs.Ytcmnjoepadjioaa
open Go.RowKit Go.Maps
def twoL (l : List Lin) (c d : Clm) (i k : Int) : List Lin :=
  if d.so then l else if c.b = d.a then putL l ⟨if c.so then 9 else 3, ⟨c.so, c.a, d.b⟩, [i, k]⟩ else l
theorem c_two {H : AH} {a m : Nat} {v : AV} {l : List Lin} (h : ArgH H a m v l) {i k : Nat} {x y : Lin} (hx : l[i]? = some x) (hy : l[k]? = some y) (hok : x.c.ok) (hok2 : y.c.ok) (hb : l.length < 900000) :
    Tri Try.prog 28 [.ptr a 0, iv i, iv k] H (fun r H' => r = .tup [] ∧ ∃ v', ArgH H' a m v' (twoL l x.c y.c i k) ∧ Fr a m H v H' v') := tri_wf fun hw => tri_arguer_two (by
  have hil := (List.getElem?_eq_some_iff.1 hx).1
  have hkl := (List.getElem?_eq_some_iff.1 hy).1
  obtain ⟨f, hm, hf⟩ := h.map
  have ha := h.la
  have hml := h.lm
  have hbx := h.box
  obtain ⟨r, xs, rfl, hr, hrow, hat⟩ := h.row.at_ (by rw [List.length_map]; omega)
  have hxi : xs[i]? = some x.cs := by rw [hat i (by rw [List.length_map]; omega), List.getElem?_map, hx]; rfl
  have hyi : xs[k]? = some y.cs := by rw [hat k (by rw [List.length_map]; omega), List.getElem?_map, hy]; rfl
  have hn1 := wf_none hw (i := H.nx + 16) (by omega)
  have hn2 := wf_none hw (i := H.nx + 17) (by omega)
  unfold S_arguer_two
  rw [List.length_map] at h
  cases hyso : y.c.so <;> cases hxso : x.c.so <;> cases heq : decide (x.c.b = y.c.a) <;> simp (disch := first | omega | simp) [iv, put_get_ne, hbx, hrow, hxi, hyi, hil, hkl, Lin.cs, hn1, hn2, hyso, hxso, heq]
  all_goals simp only [decide_eq_true_eq, decide_eq_false_iff_not] at heq
  all_goals first
    | (refine rt_refl ⟨rfl, _, ?_, .of (by first | omega | (simp only [up_nx, put_nx]; done) | (simp only [up_nx, put_nx]; omega)) fun j hj => by simp (disch := first | omega | simp) [put_get_ne]⟩ (by first | omega | (simp only [up_nx, put_nx]; done) | (simp only [up_nx, put_nx]; omega))
       rw [show twoL l x.c y.c i k = l by unfold twoL; simp [hyso, heq]]
       exact h.keep (by first | omega | (simp only [up_nx, put_nx]; done) | (simp only [up_nx, put_nx]; omega)) fun j hj => by simp (disch := first | omega | simp) [put_get_ne])
    | (refine ca_put (h.keep (by first | omega | (simp only [up_nx, put_nx]; done) | (simp only [up_nx, put_nx]; omega)) fun j hj => by simp (disch := first | omega | simp) [put_get_ne]) _ [(i : Int), (k : Int)] ⟨_, x.c.a, y.c.b⟩ ⟨hok.1, hok2.2⟩ (by omega) (put_get _ _) rfl fun v1 H1 h1 n1 k1 => ?_
       have n1' : H.nx ≤ H1.nx := by simp only [up_nx, put_nx] at n1; omega
       refine rt_refl ⟨rfl, v1, ?_, n1', fun j hj q1 q2 q3 => ?_⟩ n1'
       · rw [show twoL l x.c y.c i k = putL l ⟨if x.c.so then 9 else 3, ⟨x.c.so, x.c.a, y.c.b⟩, [(i : Int), (k : Int)]⟩ by unfold twoL; simp [hyso, heq], hxso]
         exact h1
       · obtain ⟨e1, e2⟩ := k1 j (by first | omega | (simp only [up_nx, put_nx]; done) | (simp only [up_nx, put_nx]; omega)) (by omega) q1 q2 q3
         exact ⟨by rw [e1]; simp (disch := first | omega | simp) [put_get_ne], e2⟩))
def opp (c : Clm) : Clm := ⟨true, c.a, -c.b⟩
theorem c_clash {H : AH} {a m : Nat} {v : AV} {l : List Lin} (h : ArgH H a m v l) (hok : ∀ x ∈ l, x.c.ok) (hb : l.length < 900000) :
    Tri Try.prog 30 [.ptr a 0] H (fun r H' => H' = H ∧ ((∃ (i k : Nat) (x : Lin), l[i]? = some x ∧ x.c.so = false ∧ idxC l (opp x.c) = some k ∧ r = .tup [iv i, iv k, bv true]) ∨ (∀ x ∈ l, x.c.so = false → idxC l (opp x.c) = none) ∧ r = .tup [iv 0, iv 0, bv false])) := tri_wf fun hw => tri_arguer_clash (by
  obtain ⟨f, hm, hf⟩ := h.map
  have ha := h.la
  have hml := h.lm
  have hbx := h.box
  unfold S_arguer_clash
  simp (disch := first | omega | simp) [iv, hbx, h.row.len]
  refine loop_st (fun i : Nat => [iv i]) (fun i H' => H.le H' ∧ H.nx ≤ H'.nx ∧ i ≤ l.length ∧ ∀ y ∈ l.take i, (!y.c.so && (idxC l (opp y.c)).isSome) = false) (fun i => l.length - i) 0 (.refl (Nat.le_refl _)) ⟨.refl _, Nat.le_refl _, Nat.zero_le _, by simp⟩ ?_
  rintro i H1 hn1 ⟨hle, hn, hi, hno⟩ k hk
  by_cases hi2 : i < l.length
  · obtain ⟨x, hg⟩ : ∃ x, l[i]? = some x := ⟨_, List.getElem?_eq_getElem hi2⟩
    have hokx := hok _ (List.mem_of_getElem? hg)
    obtain ⟨r, xs, rfl, hr, hrow, hat⟩ := h.row.at_ (by rw [List.length_map]; omega)
    have hxi : xs[i]? = some x.cs := by rw [hat i (by rw [List.length_map]; omega), List.getElem?_map, hg]; rfl
    have hr1 := hle _ _ hrow
    have hb1 := hle _ _ hbx
    have hm1 := hle _ _ hm
    have hneg : IntKind.i64.wrap (-x.c.b) = -x.c.b := by have := hokx.2; unfold litOk at this; rw [IntKind.wrap_i64]; omega
    have hok2 : (opp x.c).ok := ⟨hokx.1, lit_neg hokx.2⟩
    have hfits : (keyOf Try.prog 24 (cv (opp x.c))).isSome = true := keyClm hok2
    have hfc := hf (opp x.c)
    have hiv := ivn (i := i) (by omega)
    have next : (!x.c.so && (idxC l (opp x.c)).isSome) = false → ∀ H', H.le H' → H1.nx ≤ H'.nx → k [iv ((i + 1 : Nat) : Int)] H' := fun hq H' h1 h2 => hk (i + 1) _ _ _ (.refl (by omega)) ⟨h1, by omega, hi2, any_take hno hg hq⟩ (by omega)
    unfold cv opp at hfits hfc
    cases hso : x.c.so <;> cases hq : idxC l (opp x.c) <;> (have hq' := hq; unfold opp at hq'; rw [hq'] at hfc; simp (disch := first | omega | simp) [iv, hi2, put_get_ne, hr1, hb1, hm1, hxi, Lin.cs, hneg, lawClm, hfits, hso, hfc, hiv])
    · exact next (by rw [hq]; simp) _ (by repeat (first | with_reducible assumption | with_reducible exact AH.le.refl _ | with_reducible apply AH.le.up | (with_reducible refine AH.le.put hw ?_ ?_; · first | omega | (simp only [up_nx, put_nx, kill_nx]; done) | (simp only [up_nx, put_nx, kill_nx]; omega)) | (with_reducible refine AH.le.kill hw ?_ ?_; · first | omega | (simp only [up_nx, put_nx, kill_nx]; done) | (simp only [up_nx, put_nx, kill_nx]; omega)))) (by first | omega | (simp only [up_nx, put_nx]; done) | (simp only [up_nx, put_nx]; omega))
    · exact rt_tup hw (by repeat (first | with_reducible assumption | with_reducible exact AH.le.refl _ | with_reducible apply AH.le.up | (with_reducible refine AH.le.put hw ?_ ?_; · first | omega | (simp only [up_nx, put_nx, kill_nx]; done) | (simp only [up_nx, put_nx, kill_nx]; omega)) | (with_reducible refine AH.le.kill hw ?_ ?_; · first | omega | (simp only [up_nx, put_nx, kill_nx]; done) | (simp only [up_nx, put_nx, kill_nx]; omega)))) (by repeat (first | exact Cl.p _ | exact Cl.dsl _ _ | exact Cl.any | refine Cl.tup ?_ | refine Cl.agg ?_ | exact Clo.nil | refine Clo.cons ?_ ?_)) ⟨rfl, .inl ⟨i, _, x, hg, hso, hq, rfl⟩⟩
    · exact next (by simp [hso]) _ (by repeat (first | with_reducible assumption | with_reducible exact AH.le.refl _ | with_reducible apply AH.le.up | (with_reducible refine AH.le.put hw ?_ ?_; · first | omega | (simp only [up_nx, put_nx, kill_nx]; done) | (simp only [up_nx, put_nx, kill_nx]; omega)) | (with_reducible refine AH.le.kill hw ?_ ?_; · first | omega | (simp only [up_nx, put_nx, kill_nx]; done) | (simp only [up_nx, put_nx, kill_nx]; omega)))) (by first | omega | (simp only [up_nx, put_nx]; done) | (simp only [up_nx, put_nx]; omega))
    · exact next (by simp [hso]) _ (by repeat (first | with_reducible assumption | with_reducible exact AH.le.refl _ | with_reducible apply AH.le.up | (with_reducible refine AH.le.put hw ?_ ?_; · first | omega | (simp only [up_nx, put_nx, kill_nx]; done) | (simp only [up_nx, put_nx, kill_nx]; omega)) | (with_reducible refine AH.le.kill hw ?_ ?_; · first | omega | (simp only [up_nx, put_nx, kill_nx]; done) | (simp only [up_nx, put_nx, kill_nx]; omega)))) (by first | omega | (simp only [up_nx, put_nx]; done) | (simp only [up_nx, put_nx]; omega))
  · simp [iv, hi2]
    rw [List.take_of_length_le (by omega)] at hno
    refine rt_tup hw hle (by repeat (first | exact Cl.p _ | exact Cl.dsl _ _ | exact Cl.any | refine Cl.tup ?_ | refine Cl.agg ?_ | exact Clo.nil | refine Clo.cons ?_ ?_)) ⟨rfl, .inr ⟨fun x hx hso => ?_, rfl⟩⟩
    have := hno x hx
    rw [hso] at this
    simpa using this)
end Go.Proofs.Ytcmnjoepadjioaa

/- A copy of a slice of numbers. -/
namespace Go.Proofs.Ytcmnjoepadjioaa
open Go.RowKit Go.Maps
section
variable {P : Program}
/-- an empty slice, told by its value -/
theorem tri_empty {f : FuncId} {ps : List AV} {H : AH} {Q : AV → AH → Prop} (i sz : Nat) (hi : ps[i]? = some (.dsl sz [])) (h : ∀ A c, c ≤ maxLen → Tri P f (ps.set i (.p (.slice A 0 c))) H Q) : Tri P f ps H Q := fun w S σ us hs hr => by
  obtain ⟨v, hv, hrv⟩ := hr.at_ hi
  obtain ⟨A, c, z, rfl, h1, h2, _⟩ := hrv.dsl_inv.dsl_inv
  refine h A c (by omega) w S σ us hs ⟨by rw [List.length_set]; exact hr.1, fun j b u hb hu => ?_⟩
  by_cases e : i = j
  · subst e
    rw [List.getElem?_set_self (List.getElem?_eq_some_iff.1 hi).1] at hb
    injection hb with hb; subst hb
    rw [hv] at hu; injection hu with hu; subst hu
    exact .data _ _ (.p _ rfl)
  · rw [List.getElem?_set_ne e] at hb; exact hr.2 j b u hb hu
end
def intE (l : List Int) : List (List AV) := l.map fun i => [iv i]
theorem dt_ints (l : List Int) : DtR (intE l) := fun e he x hx => by
  obtain ⟨i, _, rfl⟩ := List.mem_map.1 he
  simp only [List.mem_singleton] at hx
  subst hx; exact Dt.p _
theorem c_Clone {H : AH} (l : List Int) (hb : l.length * 8 ≤ 140737488355328) : Tri Try.prog 43 [.dsl 1 (intE l)] H (fun v H' => Grows 3 1 H H' v (intE l) ∧ H.le H' ∧ H.nx ≤ H'.nx) := tri_wf fun hw => by
  have hml : maxLen = 9223372036854775807 := by decide
  have hu : ∃ e, Try.prog.underlying 22 = some (.slice e) := ⟨3, by kernel_rfl⟩
  cases l with
  | nil =>
    refine tri_empty 0 1 rfl fun A c hc => tri_slices_Clone_s_int_int ?_
    unfold S_slices_Clone_s_int_int
    cases A with
    | none =>
      simp
      exact rt_refl ⟨.nil _ _ _ _, .refl _, Nat.le_refl _⟩ (Nat.le_refl _)
    | some b =>
      simp
      exact rt_refl ⟨.row (by first | omega | (simp only [up_nx, put_nx, kill_nx]; done) | (simp only [up_nx, put_nx, kill_nx]; omega)) (by first | omega | (simp only [up_nx, put_nx, kill_nx]; done) | (simp only [up_nx, put_nx, kill_nx]; omega)) (put_get _ _) (fun e he => by cases he) rfl, (by repeat (first | with_reducible assumption | with_reducible exact AH.le.refl _ | with_reducible apply AH.le.up | (with_reducible refine AH.le.put hw ?_ ?_; · first | omega | (simp only [up_nx, put_nx, kill_nx]; done) | (simp only [up_nx, put_nx, kill_nx]; omega)) | (with_reducible refine AH.le.kill hw ?_ ?_; · first | omega | (simp only [up_nx, put_nx, kill_nx]; done) | (simp only [up_nx, put_nx, kill_nx]; omega)))), (by first | omega | (simp only [up_nx, put_nx, kill_nx]; done) | (simp only [up_nx, put_nx, kill_nx]; omega))⟩ (by first | omega | (simp only [up_nx, put_nx, kill_nx]; done) | (simp only [up_nx, put_nx, kill_nx]; omega))
  | cons x xs =>
    refine tri_slices_Clone_s_int_int ?_
    unfold S_slices_Clone_s_int_int
    have hpos : 0 < (intE (x :: xs)).length := by simp [intE]
    have hlen : (intE (x :: xs)).length = (x :: xs).length := by simp [intE]
    have hdt := dt_ints (x :: xs)
    generalize intE (x :: xs) = ys at *
    simp
    exact ⟨hpos, by omega, by omega, rt_refl ⟨.row (by first | omega | (simp only [up_nx, put_nx, kill_nx]; done) | (simp only [up_nx, put_nx, kill_nx]; omega)) (by first | omega | (simp only [up_nx, put_nx, kill_nx]; done) | (simp only [up_nx, put_nx, kill_nx]; omega)) (put_get _ _) hdt rfl, (by repeat (first | with_reducible assumption | with_reducible exact AH.le.refl _ | with_reducible apply AH.le.up | (with_reducible refine AH.le.put hw ?_ ?_; · first | omega | (simp only [up_nx, put_nx, kill_nx]; done) | (simp only [up_nx, put_nx, kill_nx]; omega)) | (with_reducible refine AH.le.kill hw ?_ ?_; · first | omega | (simp only [up_nx, put_nx, kill_nx]; done) | (simp only [up_nx, put_nx, kill_nx]; omega)))), (by first | omega | (simp only [up_nx, put_nx, kill_nx]; done) | (simp only [up_nx, put_nx, kill_nx]; omega))⟩ (by first | omega | (simp only [up_nx, put_nx, kill_nx]; done) | (simp only [up_nx, put_nx, kill_nx]; omega))⟩
end Go.Proofs.Ytcmnjoepadjioaa

/- What follows, plainly: of lines those that a line needs, numbered anew: each is right. No program in sight. -/
namespace Go.Proofs.Ytcmnjoepadjioaa

def rankN (N : Nat → Bool) : Nat → Nat
  | 0 => 0
  | k + 1 => rankN N k + if N k then 1 else 0
theorem rank_mono (N : Nat → Bool) {a b : Nat} (h : a ≤ b) : rankN N a ≤ rankN N b := by
  induction b with
  | zero => have : a = 0 := by omega
            subst this; exact Nat.le_refl _
  | succ b ih =>
    by_cases e : a = b + 1
    · subst e; exact Nat.le_refl _
    · have := ih (by omega); rw [rankN]; omega
theorem rank_lt (N : Nat → Bool) {a b : Nat} (h : a < b) (ha : N a = true) : rankN N a < rankN N b := by
  have h1 := rank_mono N (show a + 1 ≤ b from h)
  rw [rankN, ha] at h1
  simp at h1; omega
theorem rank_le (N : Nat → Bool) (k : Nat) : rankN N k ≤ k := by
  induction k with
  | zero => exact Nat.le_refl _
  | succ k ih => rw [rankN]; split <;> omega
def mapS (N : Nat → Bool) (x : Lin) : Lin := if x.rule = 1 then x else ⟨x.rule, x.c, x.src.map fun k => ((rankN N k.toNat : Nat) : Int)⟩
theorem mapS_c (N : Nat → Bool) (x : Lin) : (mapS N x).c = x.c := by unfold mapS; split <;> rfl
theorem mapS_rule (N : Nat → Bool) (x : Lin) : (mapS N x).rule = x.rule := by unfold mapS; split <;> rfl
def outL (N : Nat → Bool) (l : List Lin) : Nat → List Lin
  | 0 => []
  | n + 1 => match l[n]? with
    | some x => if N n then outL N l n ++ [mapS N x] else outL N l n
    | none => outL N l n
theorem outL_yes {N : Nat → Bool} {l : List Lin} {n : Nat} (h : n < l.length) (hN : N n = true) : outL N l (n + 1) = outL N l n ++ [mapS N (l[n]'h)] := by rw [outL, List.getElem?_eq_getElem h]; simp [hN]
theorem outL_no {N : Nat → Bool} {l : List Lin} {n : Nat} (hN : N n = false) : outL N l (n + 1) = outL N l n := by rw [outL]; cases l[n]? <;> simp [hN]
theorem outL_len (N : Nat → Bool) (l : List Lin) : ∀ n, n ≤ l.length → (outL N l n).length = rankN N n
  | 0, _ => rfl
  | n + 1, h => by
    have ih := outL_len N l n (by omega)
    cases hN : N n with
    | true => rw [outL_yes (by omega) hN, List.length_append, ih, rankN, hN]; rfl
    | false => rw [outL_no hN, ih, rankN, hN]; rfl
theorem outL_at (N : Nat → Bool) (l : List Lin) : ∀ n, n ≤ l.length → ∀ (i : Nat) (_hi : i < n) (hl : i < l.length), N i = true → (outL N l n)[rankN N i]? = some (mapS N (l[i]'hl))
  | 0, _, i, hi, _, _ => by omega
  | n + 1, h, i, hi, hl, hN => by
    have len := outL_len N l n (by omega)
    by_cases e : i = n
    · subst e
      rw [outL_yes hl hN, List.getElem?_append_right (by omega), len, Nat.sub_self]; rfl
    · have ih := outL_at N l n (by omega) i (by omega) hl hN
      cases hn : N n with
      | true =>
        rw [outL_yes (by omega) hn, List.getElem?_append_left (by rw [len]; exact rank_lt N (by omega) hN)]
        exact ih
      | false => rw [outL_no hn]; exact ih
theorem outL_from (N : Nat → Bool) (l : List Lin) : ∀ n, n ≤ l.length → ∀ (j : Nat) (x : Lin), (outL N l n)[j]? = some x → ∃ (i : Nat) (hl : i < l.length), i < n ∧ N i = true ∧ j = rankN N i ∧ x = mapS N (l[i]'hl)
  | 0, _, j, x, h => by simp [outL] at h
  | n + 1, hn, j, x, h => by
    have len := outL_len N l n (by omega)
    cases hN : N n with
    | false =>
      rw [outL_no hN] at h
      obtain ⟨i, hl, h1, h2, h3, h4⟩ := outL_from N l n (by omega) j x h
      exact ⟨i, hl, by omega, h2, h3, h4⟩
    | true =>
      rw [outL_yes (by omega) hN] at h
      by_cases hj : j < (outL N l n).length
      · rw [List.getElem?_append_left hj] at h
        obtain ⟨i, hl, h1, h2, h3, h4⟩ := outL_from N l n (by omega) j x h
        exact ⟨i, hl, by omega, h2, h3, h4⟩
      · rw [List.getElem?_append_right (by omega)] at h
        have h0 : j - (outL N l n).length = 0 := by have := (List.getElem?_eq_some_iff.1 h).1; simp at this; omega
        rw [h0] at h
        simp at h
        exact ⟨n, by omega, by omega, hN, by omega, h.symm⟩
/-- what a needed line is made of is needed -/
def closedN (N : Nat → Bool) (l : List Lin) : Prop := ∀ (i : Nat) (x : Lin), l[i]? = some x → N i = true → x.rule ≠ 1 → ∀ k ∈ x.src, N k.toNat = true
theorem pick_map {N : Nat → Bool} {l : List Lin} {n i : Nat} (hn : n ≤ l.length) (hin : i ≤ n) : ∀ {src : List Int} {of : List Clm}, pickC (l.map (·.c)) i src = some of → (∀ k ∈ src, N k.toNat = true) →
    pickC ((outL N l n).map (·.c)) (rankN N i) (src.map fun k => ((rankN N k.toNat : Nat) : Int)) = some of
  | [], of, h, _ => by simpa [pickC] using h
  | k :: r, of, h, hN => by
    rw [pickC] at h
    split at h
    · rename_i hk
      cases h1 : (l.map (·.c))[k.toNat]? with
      | none => rw [h1] at h; cases h
      | some c =>
        cases h2 : pickC (l.map (·.c)) i r with
        | none => rw [h1, h2] at h; cases h
        | some cs =>
          rw [h1, h2] at h
          simp only [Option.some.injEq] at h
          subst h
          have hkl : k.toNat < l.length := by have := (List.getElem?_eq_some_iff.1 h1).1; simpa using this
          have hNk := hN k (by simp)
          have ih := pick_map hn hin (N := N) h2 (fun x hx => hN x (by simp [hx]))
          have hr := rank_lt N (a := k.toNat) (b := i) (by omega) hNk
          have ha := outL_at N l n hn k.toNat (by omega) hkl hNk
          rw [List.map_cons, pickC, if_pos ⟨by omega, by omega⟩]
          have e1 : ((outL N l n).map (·.c))[(((rankN N k.toNat : Nat) : Int)).toNat]? = some c := by
            rw [Int.toNat_natCast, List.getElem?_map, ha]
            rw [List.getElem?_map, List.getElem?_eq_getElem hkl] at h1
            simp only [Option.map_some, Option.some.injEq] at h1 ⊢
            rw [mapS_c]; exact h1
          rw [e1, ih]
    · cases h
theorem out_right {prem : List Clm} {N : Nat → Bool} {l : List Lin} (hr : allRight prem l) (hc : closedN N l) {n : Nat} (hn : n ≤ l.length) : allRight prem (outL N l n) := by
  intro j x hx
  obtain ⟨i, hl, hi, hN, rfl, rfl⟩ := outL_from N l n hn j x hx
  have h := hr i _ (List.getElem?_eq_getElem hl)
  have hcl := hc i _ (List.getElem?_eq_getElem hl) hN
  unfold rightB at h ⊢
  rw [mapS_rule, mapS_c]
  by_cases r1 : (l[i]'hl).rule = 1
  · rw [if_pos r1] at h ⊢
    unfold mapS
    rw [if_pos r1]
    exact h
  · rw [if_neg r1] at h ⊢
    split at h
    · rename_i of hof
      have := pick_map hn (show i ≤ n by omega) (N := N) hof (hcl r1)
      unfold mapS
      rw [if_neg r1]
      simp only
      rw [this]
      exact h
    · cases h
theorem out_ok {N : Nat → Bool} {l : List Lin} (hok : ∀ x ∈ l, x.c.ok) {n : Nat} (hn : n ≤ l.length) : ∀ x ∈ outL N l n, x.c.ok := fun x hx => by
  obtain ⟨j, hj⟩ := List.getElem?_of_mem hx
  obtain ⟨i, hl, _, _, _, rfl⟩ := outL_from N l n hn j x hj
  rw [mapS_c]; exact hok _ (List.getElem_mem hl)
/-- a line's numbers are numbers of lines ahead -/
theorem right_src {prem : List Clm} {l : List Lin} (hr : allRight prem l) {i : Nat} {x : Lin} (hx : l[i]? = some x) (h1 : x.rule ≠ 1) : ∀ k ∈ x.src, 0 ≤ k ∧ k < (i : Int) := by
  have h := hr i x hx
  unfold rightB at h
  rw [if_neg h1] at h
  cases hp : pickC (l.map (·.c)) i x.src with
  | none => rw [hp] at h; cases h
  | some of =>
    have : ∀ (src : List Int) (of : List Clm), pickC (l.map (·.c)) i src = some of → ∀ k ∈ src, 0 ≤ k ∧ k < (i : Int) := by
      intro src
      induction src with
      | nil => intro of _ k hk; simp at hk
      | cons a r ih =>
        intro of hp k hk
        rw [pickC] at hp
        split at hp
        · rename_i hc
          cases h2 : pickC (l.map (·.c)) i r with
          | none => rw [h2] at hp; cases hq : (l.map (·.c))[a.toNat]? <;> rw [hq] at hp <;> cases hp
          | some cs =>
            rcases List.mem_cons.1 hk with rfl | hk
            · exact hc
            · exact ih cs h2 k hk
        · cases hp
    exact this _ _ hp
end Go.Proofs.Ytcmnjoepadjioaa

/- More of growing slices: told anew one behind the other; two that grow side by side. Nothing of the program is named here. -/
namespace Go.Proofs.Ytcmnjoepadjioaa
open Go.RowKit Go.Maps

section
variable {P : Program} {w : World} {S : Nat → Prop} {σ : Nat → Option Value} {H H0 H1 H2 H3 V : AH} {B : Nat}
theorem Gst.refl (H : AH) : Gst P H H := ⟨Nat.le_refl _, fun _w S _σ hs => ⟨S, hs, fun _ h => h, fun _ h => .inl h, fun _ h => h⟩⟩
theorem Gst.trans (h : Gst P H H1) (k : Gst P H1 H2) : Gst P H H2 := ⟨Nat.le_trans h.1 k.1, fun w S σ hs => by
  obtain ⟨S1, a1, a2, a3, a4⟩ := h.2 w S σ hs
  obtain ⟨S2, b1, b2, b3, b4⟩ := k.2 w S1 σ a1
  refine ⟨S2, b1, fun b hb => b2 b (a2 b hb), fun b hb => ?_, fun b hb => a4 b (b4 b hb)⟩
  rcases b3 b hb with hb | hb
  · exact a3 b hb
  · exact .inr (a4 b hb)⟩
theorem Grows.base {t sz : Nat} {v : AV} {es : List (List AV)} (h : Grows t sz H1 H2 v es) (hn : H0.nx ≤ H1.nx) : Grows t sz H0 H2 v es := by
  rcases h with h | ⟨r, xs, h1, h2, h3⟩
  · exact .inl h
  · exact .inr ⟨r, xs, h1, Nat.le_trans hn h2, h3⟩
theorem Grows.ge {t sz j n : Nat} {v : AV} {es : List (List AV)} (h : Grows t sz H0 H1 v es) (hj : v = .osl j sz 0 n) : H0.nx ≤ j := by
  rcases h with ⟨h1, _⟩ | ⟨r, xs, h1, h2, h3, _⟩
  · rw [h1] at hj; cases hj
  · rw [h1] at hj; injection hj with hj; omega
/-- two that grow, of elements of another size -/
theorem Grows.apart {t t' sz sz' : Nat} {v u : AV} {es xs : List (List AV)} (h : Grows t sz H0 H1 v es) (k : Grows t' sz' H2 H1 u xs) (hs : sz ≠ sz') {j : Nat} (hj : ∃ n, u = .osl j sz' 0 n) : ∀ n, v ≠ .osl j sz 0 n := by
  obtain ⟨n, hn⟩ := hj
  refine h.not fun ys e => ?_
  rcases k with ⟨h1, _⟩ | ⟨r, xs, h1, _, _, h4, _⟩
  · rw [h1] at hn; cases hn
  · rw [h1] at hn; injection hn with hn; subst hn; rw [h4] at e; injection e with e; injection e with e1 e2; exact hs e2.symm
theorem Grows.up_ {t sz : Nat} {v : AV} {es : List (List AV)} (h : Grows t sz H0 H1 v es) (hn : H1.nx ≤ H2.nx) (hk : ∀ j o, j < H1.nx → (∃ n, v = .osl j sz 0 n) → H1.get j = some o → H2.get j = some o) : Grows t sz H0 H2 v es := by
  rcases h with h | ⟨r, xs, h1, h2, h3, h4, h5, h6⟩
  · exact .inl h
  · exact .inr ⟨r, xs, h1, h2, by omega, hk r _ h3 ⟨_, h1⟩ h4, h5, h6⟩
theorem Grows.wf {t sz : Nat} {v : AV} {es : List (List AV)} (h : Grows t sz H0 H1 v es) (hw : WF H2) (hk : H1.le H2) : Grows t sz H0 H2 v es := by
  rcases h with h | ⟨r, xs, h1, h2, h3, h4, h5, h6⟩
  · exact .inl h
  · exact .inr ⟨r, xs, h1, h2, (hw _ _ (hk _ _ h4)).1, hk _ _ h4, h5, h6⟩
theorem DtR.set {xs : List (List AV)} {i : Nat} {e : List AV} (h : DtR xs) (he : ∀ a ∈ e, Dt a) : DtR (xs.set i e) := fun x hx => by
  rcases List.mem_or_eq_of_mem_set hx with hx | hx
  · exact h x hx
  · subst hx; exact he
/-- an element is set anew -/
theorem Grows.put {t sz r n q : Nat} {es xs : List (List AV)} {e : List AV} (h : Grows t sz H0 H1 (.osl r sz 0 n) es) (hg : H1.get r = some (.row t sz xs)) (he : ∀ a ∈ e, Dt a) : Grows t sz H0 (H1.put r (.row t sz (xs.set q e))) (.osl r sz 0 n) (es.set q e) := by
  rcases h with ⟨h1, _⟩ | ⟨r', xs', h1, h2, h3, h4, h5, h6⟩
  · cases h1
  · injection h1 with e1 _ _ e2
    subst e1
    rw [hg] at h4
    injection h4 with h4
    injection h4 with _ _ h4
    subst h4
    refine .inr ⟨r, xs.set q e, by rw [List.length_set, e2], h2, h3, AH.get_put_self, ?_, h6.set he⟩
    rw [List.length_set, List.take_set, h5]
/-- whatever slice it is, an element is read so -/
theorem elF_acc {sz : Nat} {a : AV} {es : List (List AV)} (h0 : 0 < sz) (h : elF H sz a = some es) {i : Nat} {e : List AV} (he : es[i]? = some e) : ∃ q : Nat → AV, (∀ (P : Program) (kd : IntKind) (k : AV → AH → Prop) (H' : AH), Pu P (.idx sz) [a, .p (.int kd (i : Int))] k H' = k (q 0) H') ∧
    (∀ (P : Program) (m j : Nat) (k : AV → AH → Prop) (H' : AH), Pu P (.addOff m) [q j] k H' = k (q (j + m)) H') ∧ ∀ j, atF H (q j) = some (e.drop j) := by
  have hi := (List.getElem?_eq_some_iff.1 he).1
  have row : ∀ (id off n : Nat) (o : Option AO) (ys : List (List AV)), ((ys.drop off).take n)[i]? = some e → ys[off + i]? = some e ∧ i < n := fun id off n o ys h => by
    rw [List.getElem?_take] at h
    split at h
    · rw [List.getElem?_drop] at h; exact ⟨h, by assumption⟩
    · cases h
  cases elF_iff.2 h with
  | dsl => exact ⟨fun j => .dptr sz es i j, fun P kd k H' => by rw [q_idx_dsl]; simp [h0, hi], fun P m j k H' => by rw [q_add_dptr], fun j => by rw [atF_dptr, he]; rfl⟩
  | row id off n t ys hg hn =>
    obtain ⟨h1, h2⟩ := row id off n none ys he
    exact ⟨fun j => .eptr id sz (off + i) j, fun P kd k H' => by rw [q_idx_osl]; simp [h2], fun P m j k H' => by rw [q_add_eptr], fun j => by rw [atF_eptr, hg, rowAt_row, h1]; rfl⟩
  | frz id off n ys hg hn =>
    obtain ⟨h1, h2⟩ := row id off n none ys he
    exact ⟨fun j => .eptr id sz (off + i) j, fun P kd k H' => by rw [q_idx_osl]; simp [h2], fun P m j k H' => by rw [q_add_eptr], fun j => by rw [atF_eptr, hg, rowAt_frz, h1]; rfl⟩
  | nil_ => simp at hi
theorem elF_len {sz : Nat} {a : AV} {es : List (List AV)} (h : elF H sz a = some es) : ∀ (P : Program) (k : AV → AH → Prop) (H' : AH), Pu P .len [a] k H' = k (.p (.int .i64 (es.length : Int))) H' := by
  intro P k H'
  cases elF_iff.2 h with
  | dsl => rw [q_len_dsl]
  | row id off n t ys hg hn => rw [q_len_osl, List.length_take, List.length_drop, show min n (ys.length - off) = n by omega]
  | frz id off n ys hg hn => rw [q_len_osl, List.length_take, List.length_drop, show min n (ys.length - off) = n by omega]
  | nil_ => rw [q_len_nil]; rfl
theorem elF_le {sz : Nat} {a : AV} {es : List (List AV)} (h : elF H sz a = some es) (hle : H.le H1) : elF H1 sz a = some es := elF_iff.1 ((elF_iff.2 h).le hle)
/-- a slice that grew and lies in a box is handed over as data where it lies -/
theorem Grows.fzbox {u sz b : Nat} {t : TypeId} {v : AV} {es : List (List AV)} (h : Grows u sz H0 H1 v es) (hw : WF H0) (hle : H0.le H1) (hn : H0.nx ≤ H1.nx) (hb : H1.get b = some (.box t [v])) (hbn : H0.nx ≤ b) :
    ∃ H2, Gst P H1 H2 ∧ H0.le H2 ∧ H2.nx = H1.nx ∧ H2.get b = some (.box t [.dsl sz es]) ∧ ∀ j, j ≠ b → (∀ n, v ≠ .osl j sz 0 n) → H2.get j = H1.get j := by
  obtain ⟨H2, f1, f2, f3, f4, f5⟩ := h.fz (P := P) hw hle hn
  have hvb : ∀ n, v ≠ .osl b sz 0 n := h.not fun ys e => by rw [hb] at e; cases e
  have hb2 := (f4 b hvb).trans hb
  exact ⟨H2.put b (.box t [.dsl sz es]), f1.trans (Gst.box hb2 (.cons f5 .nil)), .put hw hbn f2, f3, AH.get_put_self, fun j hj hv => by rw [AH.get_put_ne hj]; exact f4 j hv⟩
/-- what was there is as it was -/
def Kp (H H1 : AH) : Prop := H.nx ≤ H1.nx ∧ ∀ j, j < H.nx → H1.get j = H.get j
theorem Kp.refl (H : AH) : Kp H H := ⟨Nat.le_refl _, fun _ _ => rfl⟩
theorem Kp.trans (h : Kp H H1) (k : Kp H1 H2) : Kp H H2 := ⟨Nat.le_trans h.1 k.1, fun j hj => (k.2 j (Nat.lt_of_lt_of_le hj h.1)).trans (h.2 j hj)⟩
theorem Kp.up {n : Nat} (h : Kp H H1) : Kp H (H1.up n) := ⟨Nat.le_trans h.1 (Nat.le_add_right _ _), h.2⟩
theorem Kp.put {i : Nat} {o : AO} (hi : H.nx ≤ i) (h : Kp H H1) : Kp H (H1.put i o) := ⟨h.1, fun j hj => by rw [AH.get_put_ne (by omega)]; exact h.2 j hj⟩
theorem Kp.kill {i : Nat} (hi : H.nx ≤ i) (h : Kp H H1) : Kp H (H1.kill i) := Kp.put hi h
theorem Kp.le (h : Kp H H1) (hw : WF H) : H.le H1 := fun i o ho => by rw [h.2 i (hw i o ho).1]; exact ho
theorem Kp.le_of (h : Kp H H1) (hl : H0.le H) (hw : WF H0) (hn : H0.nx ≤ H.nx) : H0.le H1 := fun i o ho => by rw [h.2 i (Nat.lt_of_lt_of_le (hw i o ho).1 hn)]; exact hl i o ho
theorem Kp.get_ {i : Nat} {o : Option AO} (h : Kp H H1) (hi : i < H.nx) (hg : H.get i = o) : H1.get i = o := (h.2 i hi).trans hg
theorem Grows.kp {t sz : Nat} {v : AV} {es : List (List AV)} (h : Grows t sz H0 H1 v es) (k : Kp H1 H2) : Grows t sz H0 H2 v es := h.same k.1 fun j hj _ => k.2 j hj
end
end Go.Proofs.Ytcmnjoepadjioaa
