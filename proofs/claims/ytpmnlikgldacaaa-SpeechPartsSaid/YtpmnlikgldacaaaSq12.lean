/- Texts that the proof rests on, part 12: what each holds stands at its head. -/
import Derived.Test.YtpmnlikgldacaaaSq11
import Derived.Lib.Walk
import Derived.Lib.Builder
import Derived.Laws.Externs
import Derived.WalkKit

/- Parts of speech: copies; what a part gives and wants, weighed: both programs. -/
namespace Go.Proofs.Ytpmnlikgldacaaa
open Go.RowKit Go.Maps
section
variable {H X : AH} {p : Nat}
theorem le_rebase {a b : AO} (h : (H.put p a).le X) : (H.put p b).le (X.put p b) := fun j o hj => by
  by_cases e : j = p
  · subst e; rw [AH.get_put_self] at hj ⊢; exact hj
  · rw [AH.get_put_ne e] at hj ⊢; exact h j o (by rw [AH.get_put_ne e]; exact hj)
theorem le_base {b : AO} (h : H.le X) : (H.put p b).le (X.put p b) := fun j o hj => by
  by_cases e : j = p
  · subst e; rw [AH.get_put_self] at hj ⊢; exact hj
  · rw [AH.get_put_ne e] at hj ⊢; exact h j o hj
end
theorem rt_tupP {P : Program} {H H1 : AH} {p : Nat} {o : AO} {vs : List AV} {Q : AV → AH → Prop} (hw : WF (H.put p o)) (hle : (H.put p o).le H1) (hc : Clo H.nx vs) (hq : Q (.tup vs) (H.put p o)) : Rt P H.nx (.tup vs) Q H1 := rt_tup (H0 := H.put p o) hw hle hc hq
theorem Ty.cl (t : Ty) (B : Nat) : Clo B t.cs := by
  rw [Ty.cs_eq]; exact (by repeat (first | exact Cl.p _ | exact Cl.dsl _ _ | exact Cl.any | refine Cl.tup ?_ | refine Cl.agg ?_ | exact Clo.nil | refine Clo.cons ?_ ?_))
theorem copied_of {t : Ty} (h : ∀ H : AH, Tri Try.prog 65 [tE t.kids] H (fun r H' => H' = H ∧ r = tE t.kids)) (H : AH) : Tri Try.prog 66 [t.av] H (fun r H' => H' = H ∧ r = t.av) := tri_wf fun hw => tri_speech_copied (by
  unfold S_speech_copied
  simp (disch := first | omega | simp) [Ty.av, Ty.cs_g2, put_get_ne]
  refine ca_pure (by kernel_rfl) (h _) ?_
  simp (disch := first | omega | simp) [tE, Ty.cs_len, put_get_ne]
  refine rt_one hw (by repeat (first | with_reducible assumption | with_reducible exact AH.le.refl _ | with_reducible apply AH.le.up | (with_reducible refine AH.le.put hw ?_ ?_; · first | omega | (simp only [up_nx, put_nx, kill_nx]; done) | (simp only [up_nx, put_nx, kill_nx]; omega)) | (with_reducible refine AH.le.kill hw ?_ ?_; · first | omega | (simp only [up_nx, put_nx, kill_nx]; done) | (simp only [up_nx, put_nx, kill_nx]; omega)))) (.agg ?_) ⟨rfl, ?_⟩
  · rw [Ty.cs_eq]; exact (by repeat (first | exact Cl.p _ | exact Cl.dsl _ _ | exact Cl.any | refine Cl.tup ?_ | refine Cl.agg ?_ | exact Clo.nil | refine Clo.cons ?_ ?_))
  · rw [Ty.cs_eq]; rfl)
theorem c_copiedAllN (N : Nat) : ∀ ks : List Ty, Ty.sizes ks ≤ N → N ≤ 1000000 → ∀ H : AH, Tri Try.prog 65 [tE ks] H (fun r H' => H' = H ∧ r = tE ks) := by
  induction N with
  | zero =>
    intro ks hk _ H
    have : ks = [] := by
      cases ks with
      | nil => rfl
      | cons t r => rw [Ty.sizes] at hk; have := t.size_pos; omega
    subst this
    refine tri_wf fun hw => tri_speech_copiedAll ?_
    unfold S_speech_copiedAll tE
    simp (disch := first | omega | simp)
    refine loop_st (fun s : Unit => [.p (.slice none 0 0), iv 0]) (fun _ H' => H = H') (fun _ => 0) () (.refl (Nat.le_refl _)) rfl ?_
    rintro _ _ _ rfl k hk
    unfold S_speech_copiedAll_L1
    simp (disch := first | omega | simp) [iv]
    exact rt_sub hw (.refl _) (Nat.le_refl _) (Sub.nil 3 0 (Nat.zero_le _)) (by repeat (first | exact Cl.p _ | exact Cl.dsl _ _ | exact Cl.any | refine Cl.tup ?_ | refine Cl.agg ?_ | exact Clo.nil | refine Clo.cons ?_ ?_)) ⟨rfl, rfl⟩
  | succ N ih =>
    intro ks hks hN H
    have hlk : ks.length ≤ Ty.sizes ks := Ty.len_sizes ks
    have hml : maxLen = 9223372036854775807 := by decide
    refine tri_wf fun hw => tri_speech_copiedAll ?_
    unfold S_speech_copiedAll tE
    simp (disch := first | omega | simp)
    refine loop_st (fun s : AV × Nat => [s.1, iv s.2]) (fun s H' => H.le H' ∧ H.nx ≤ H'.nx ∧ s.2 ≤ ks.length ∧ Grows 24 3 H H' s.1 ((ks.take s.2).map Ty.cs)) (fun s => ks.length - s.2) (.p (.slice none 0 0), 0) (.refl (Nat.le_refl _)) ⟨.refl _, Nat.le_refl _, Nat.zero_le _, .nil _ _ _ _⟩ ?_
    rintro ⟨v, i⟩ H1 hn1 ⟨hle, hn, hi, hg⟩ k hk
    dsimp only at hi hg hk
    unfold S_speech_copiedAll_L1
    by_cases hil : i < ks.length
    · obtain ⟨x, hx⟩ : ∃ x, ks[i]? = some x := ⟨_, List.getElem?_eq_getElem hil⟩
      have hxg : ∀ h, ks[i]'h = x := fun h => (List.getElem?_eq_some_iff.1 hx).2
      have hiv := ivn (i := i) (by omega)
      have hxs := Ty.sizes_mem (List.mem_of_getElem? hx)
      have hxe := x.size_eq
      simp (disch := first | omega | simp) [iv, hil, hxg, Ty.cs_len, Ty.cs_take]
      refine ca_pure (by kernel_rfl) (copied_of (t := x) (fun H => ih x.kids (by omega) (by omega) H) _) ?_
      simp (disch := first | omega | simp) [Ty.av, Ty.cs_len, Ty.cs_take]
      refine Grows.app (ys := [x.cs]) hw (hg.kp (by repeat (first | with_reducible assumption | with_reducible exact Kp.refl _ | with_reducible apply Kp.up | (with_reducible refine Kp.put ?_ ?_; · first | omega | (simp only [up_nx, put_nx, kill_nx]; done) | (simp only [up_nx, put_nx, kill_nx]; omega)) | (with_reducible refine Kp.kill ?_ ?_; · first | omega | (simp only [up_nx, put_nx, kill_nx]; done) | (simp only [up_nx, put_nx, kill_nx]; omega))))) (by repeat (first | with_reducible assumption | with_reducible exact AH.le.refl _ | with_reducible apply AH.le.up | (with_reducible refine AH.le.put hw ?_ ?_; · first | omega | (simp only [up_nx, put_nx, kill_nx]; done) | (simp only [up_nx, put_nx, kill_nx]; omega)) | (with_reducible refine AH.le.kill hw ?_ ?_; · first | omega | (simp only [up_nx, put_nx, kill_nx]; done) | (simp only [up_nx, put_nx, kill_nx]; omega)))) (by first | omega | (simp only [up_nx, put_nx, kill_nx]; done) | (simp only [up_nx, put_nx, kill_nx]; omega)) (by first | omega | (simp only [up_nx, put_nx]; done) | (simp only [up_nx, put_nx]; omega)) ?_ (dt_ty [x]) ?_ ?_ fun v' H3 g3 l3 n3 k3 _ => ?_
      · simp (disch := first | omega | simp)
      · rw [List.length_map, List.length_take]; simp only [List.length_singleton]; omega
      · rw [List.length_map, List.length_take]; simp only [List.length_singleton]; omega
      · rw [q_add_i, hiv]
        refine hk (v', i + 1) _ _ _ (.refl (by simp only [up_nx, put_nx] at n3; omega)) ⟨l3, by simp only [up_nx, put_nx] at n3; omega, hil, ?_⟩ (by dsimp only; omega)
        dsimp only
        rw [List.take_add_one, hx, Option.toList_some, List.map_append]; exact g3
    · have hie : i = ks.length := by omega
      subst hie
      rw [List.take_length] at hg
      simp (disch := first | omega | simp) [iv]
      exact hg.rt hw hle hn ⟨rfl, rfl⟩
theorem c_copiedAll (ks : List Ty) (h : Ty.sizes ks ≤ 1000000) : PF Try.prog 65 [tE ks] (tE ks) := fun H => c_copiedAllN _ ks (Nat.le_refl _) h H
theorem c_copied (t : Ty) (h : t.size ≤ 1000000) : PF Try.prog 66 [t.av] t.av := fun H => copied_of (c_copiedAll t.kids (by rw [Ty.size_eq] at h; omega)) H
theorem Ty.gives_le : ∀ (N : Nat) (t : Ty), t.size ≤ N → Good t → ∀ c, -(t.size : Int) ≤ t.gives c ∧ t.gives c ≤ t.size
  | 0, t, h, _, _ => by have := t.size_pos; omega
  | N + 1, t, h, hg, c => by
    rcases hg.cases with ⟨n, rfl, _⟩ | ⟨x, y, rfl, hx, hy⟩ | ⟨y, x, rfl, hy, hx⟩
    · rw [Ty.gives_b, Ty.size_mk]; split <;> omega
    · rw [Ty.size_o] at h
      have := Ty.gives_le N x (by omega) hx c
      have := Ty.gives_le N y (by omega) hy c
      rw [Ty.gives_o, Ty.size_o]; omega
    · rw [Ty.size_u] at h
      have := Ty.gives_le N x (by omega) hx c
      have := Ty.gives_le N y (by omega) hy c
      rw [Ty.gives_u, Ty.size_u]; omega
theorem Good.gives {t : Ty} (h : Good t) (c : Int) : -15 ≤ t.gives c ∧ t.gives c ≤ 15 := by
  have := Ty.gives_le _ t (Nat.le_refl _) h c
  have := h.size
  omega
theorem Ty.cs_o (x y : Ty) : (Ty.o x y).cs = [iv 2, iv 0, .dsl 3 [x.cs, y.cs]] := by rw [Ty.cs_eq]; rfl
theorem Ty.cs_u (x y : Ty) : (Ty.u x y).cs = [iv 3, iv 0, .dsl 3 [x.cs, y.cs]] := by rw [Ty.cs_eq]; rfl
theorem Ty.cs_b (n : Int) : Ty.cs ⟨1, n, []⟩ = [iv 1, iv n, .dsl 3 []] := by rw [Ty.cs_eq]; rfl
theorem lput_lput {l : List (Nat × AO)} {k : Nat} {x y : AO} : lput (lput l k x) k y = lput l k y := by
  induction l with
  | nil => grind [lput]
  | cons a r ih =>
    obtain ⟨i, z⟩ := a
    grind [lput]
theorem put_put {H : AH} {k : Nat} {x y : AO} : (H.put k x).put k y = H.put k y := by unfold AH.put; simp only [lput_lput]
/-- ten numbers -/
def wC (W : Int → Int) : List AV := (List.range 10).map fun c => .p (.int .i64 (W (c : Nat)))
theorem wC_len (W : Int → Int) : (wC W).length = 10 := by simp [wC]
theorem wC_get (W : Int → Int) {n : Int} (h0 : 0 ≤ n) (h9 : n ≤ 9) : (wC W)[n.toNat]? = some (.p (.int .i64 (W n))) := by
  obtain ⟨m, rfl⟩ := Int.eq_ofNat_of_zero_le h0
  unfold wC
  rw [Int.toNat_natCast, List.getElem?_map, List.getElem?_range (by omega)]; rfl
theorem wC_set (W : Int → Int) {n : Int} (v : Int) (h0 : 0 ≤ n) (h9 : n ≤ 9) : (wC W).take n.toNat ++ [.p (.int .i64 v)] ++ (wC W).drop (n.toNat + 1) = wC (fun c => if c = n then v else W c) := by
  have : n = 0 ∨ n = 1 ∨ n = 2 ∨ n = 3 ∨ n = 4 ∨ n = 5 ∨ n = 6 ∨ n = 7 ∨ n = 8 ∨ n = 9 := by omega
  rcases this with rfl | rfl | rfl | rfl | rfl | rfl | rfl | rfl | rfl | rfl <;> rfl
theorem wC_cl (W : Int → Int) (B : Nat) : Clo B (wC W) := fun a ha => by
  obtain ⟨c, _, rfl⟩ := List.mem_map.1 ha
  exact Cl.p _
theorem wEq2 {H : AH} (b : Nat) (W g1 g2 g : Int → Int) (h : ∀ c, g c = g1 c - g2 c) (s : Int) : (H.put b (.box 94 (wC fun c => W c + s * g1 c))).put b (.box 94 (wC fun c => W c + s * g1 c + -s * g2 c)) = H.put b (.box 94 (wC fun c => W c + s * g c)) := by
  rw [put_put]
  congr 3
  funext c
  rw [h c, Int.mul_sub, Int.neg_mul]; omega
set_option maxHeartbeats 1000000 in
theorem c_weigh (N : Nat) : ∀ t : Ty, t.size ≤ N → N ≤ 1000 → Good t → ∀ (s : Int) (b : Nat) (W : Int → Int) (H : AH), (s = 1 ∨ s = -1) → (∀ c, -1000000 + (t.size : Int) ≤ W c ∧ W c + (t.size : Int) ≤ 1000000) → H.get b = some (.box 94 (wC W)) →
    Tri Try.prog 73 [t.av, iv s, .ptr b 0] H (fun r H' => H' = H.put b (.box 94 (wC fun c => W c + s * t.gives c)) ∧ r = .tup []) := by
  induction N with
  | zero => intro t ht; have := t.size_pos; omega
  | succ N ih =>
    intro t ht hN hg s b W H hs hW hb
    refine tri_wf fun hw => tri_speech_weigh ?_
    have hml : maxLen = 9223372036854775807 := by decide
    have hp : b < H.nx := (hw _ _ hb).1
    unfold S_speech_weigh
    rcases hg.cases with ⟨n, rfl, h0, h9⟩ | ⟨x, y, rfl, hx, hy⟩ | ⟨y, x, rfl, hy, hx⟩
    · have hn10 : n < 10 := by omega
      have hWn := hW n
      have hws : IntKind.i64.wrap (W n + s) = W n + s := wrapI (by omega) (by omega)
      simp (disch := first | omega | simp) [Ty.av, Ty.cs_b, iv, put_get_ne, hb, h0, hn10, wC_get W h0 h9, wC_len, hws]
      refine ⟨by omega, ?_⟩
      have := wC_set W (W n + s) h0 h9
      simp only [List.append_assoc, List.singleton_append] at this
      rw [this]
      rw [show (fun c => if c = n then W n + s else W c) = (fun c => W c + s * Ty.gives ⟨1, n, []⟩ c) from funext fun c => by
        rw [Ty.gives_b]
        by_cases e : c = n
        · subst e; simp
        · rw [if_neg e, if_neg (fun h => e h.symm)]; simp]
      generalize hX : (H.up 1).put H.nx (.box 24 [.p (.int .i64 1), .p (.int .i64 n), .dsl 3 []]) = X
      have hHX : H.le X := by rw [← hX]; exact (by repeat (first | with_reducible assumption | with_reducible exact AH.le.refl _ | with_reducible apply AH.le.up | (with_reducible refine AH.le.put hw ?_ ?_; · first | omega | (simp only [up_nx, put_nx, kill_nx]; done) | (simp only [up_nx, put_nx, kill_nx]; omega)) | (with_reducible refine AH.le.kill hw ?_ ?_; · first | omega | (simp only [up_nx, put_nx, kill_nx]; done) | (simp only [up_nx, put_nx, kill_nx]; omega))))
      have h2 := le_base (p := b) (b := .box 94 (wC fun c => W c + s * Ty.gives ⟨1, n, []⟩ c)) (H := H) (X := X.up 11) (by repeat (first | with_reducible assumption | with_reducible exact AH.le.refl _ | with_reducible apply AH.le.up | (with_reducible refine AH.le.put hw ?_ ?_; · first | omega | (simp only [up_nx, put_nx, kill_nx]; done) | (simp only [up_nx, put_nx, kill_nx]; omega)) | (with_reducible refine AH.le.kill hw ?_ ?_; · first | omega | (simp only [up_nx, put_nx, kill_nx]; done) | (simp only [up_nx, put_nx, kill_nx]; omega))))
      exact rt_tupP (hw.box hp (wC_cl _ _)) h2 .nil ⟨rfl, rfl⟩
    · have hzo := Ty.size_o x y
      rw [Ty.size_o] at ht
      simp (disch := first | omega | simp) [Ty.av, Ty.cs_o, iv]
      unfold S_speech_weigh_C1
      simp (disch := first | omega | simp) [Ty.cs_take, Ty.cs_len]
      refine ca_of (by kernel_rfl) (ih x (by omega) (by omega) hx s b W _ hs (fun c => by have := hW c; omega) (by simp (disch := first | omega | simp) [put_get_ne, hb])) ?_
      rintro _ _ ⟨rfl, rfl⟩
      have hsn : IntKind.i64.wrap (-s) = -s := by rw [wrapI (by omega) (by omega)]
      simp (disch := first | omega | simp) [put_get_ne, Ty.cs_take, Ty.cs_len, hsn]
      refine ca_of (by kernel_rfl) (ih y (by omega) (by omega) hy (-s) b (fun c => W c + s * x.gives c) _ (by omega) (fun c => ?_) (put_get _ _)) ?_
      · have h1 := hW c
        have h2 := Ty.gives_le _ x (Nat.le_refl _) hx c
        rcases hs with rfl | rfl <;> (simp only [Int.one_mul, Int.neg_mul]; omega)
      rintro _ _ ⟨rfl, rfl⟩
      rw [wEq2 b _ _ _ _ (Ty.gives_o x y) s]
      generalize hX : (H.up 1).put H.nx (.box 24 [.p (.int .i64 2), .p (.int .i64 0), .dsl 3 [x.cs, y.cs]]) = X
      have hHX : H.le X := by rw [← hX]; exact (by repeat (first | with_reducible assumption | with_reducible exact AH.le.refl _ | with_reducible apply AH.le.up | (with_reducible refine AH.le.put hw ?_ ?_; · first | omega | (simp only [up_nx, put_nx, kill_nx]; done) | (simp only [up_nx, put_nx, kill_nx]; omega)) | (with_reducible refine AH.le.kill hw ?_ ?_; · first | omega | (simp only [up_nx, put_nx, kill_nx]; done) | (simp only [up_nx, put_nx, kill_nx]; omega))))
      have h2 := le_base (p := b) (b := .box 94 (wC fun c => W c + s * (Ty.o x y).gives c)) (H := H) (X := X) (by repeat (first | with_reducible assumption | with_reducible exact AH.le.refl _ | with_reducible apply AH.le.up | (with_reducible refine AH.le.put hw ?_ ?_; · first | omega | (simp only [up_nx, put_nx, kill_nx]; done) | (simp only [up_nx, put_nx, kill_nx]; omega)) | (with_reducible refine AH.le.kill hw ?_ ?_; · first | omega | (simp only [up_nx, put_nx, kill_nx]; done) | (simp only [up_nx, put_nx, kill_nx]; omega))))
      exact rt_tupP (hw.box hp (wC_cl _ _)) h2 .nil ⟨rfl, rfl⟩
    · have hzo := Ty.size_u y x
      rw [Ty.size_u] at ht
      simp (disch := first | omega | simp) [Ty.av, Ty.cs_u, iv]
      unfold S_speech_weigh_C1
      simp (disch := first | omega | simp) [Ty.cs_take, Ty.cs_len]
      refine ca_of (by kernel_rfl) (ih x (by omega) (by omega) hx s b W _ hs (fun c => by have := hW c; omega) (by simp (disch := first | omega | simp) [put_get_ne, hb])) ?_
      rintro _ _ ⟨rfl, rfl⟩
      have hsn : IntKind.i64.wrap (-s) = -s := by rw [wrapI (by omega) (by omega)]
      simp (disch := first | omega | simp) [put_get_ne, Ty.cs_take, Ty.cs_len, hsn]
      refine ca_of (by kernel_rfl) (ih y (by omega) (by omega) hy (-s) b (fun c => W c + s * x.gives c) _ (by omega) (fun c => ?_) (put_get _ _)) ?_
      · have h1 := hW c
        have h2 := Ty.gives_le _ x (Nat.le_refl _) hx c
        rcases hs with rfl | rfl <;> (simp only [Int.one_mul, Int.neg_mul]; omega)
      rintro _ _ ⟨rfl, rfl⟩
      rw [wEq2 b _ _ _ _ (Ty.gives_u y x) s]
      generalize hX : (H.up 1).put H.nx (.box 24 [.p (.int .i64 3), .p (.int .i64 0), .dsl 3 [y.cs, x.cs]]) = X
      have hHX : H.le X := by rw [← hX]; exact (by repeat (first | with_reducible assumption | with_reducible exact AH.le.refl _ | with_reducible apply AH.le.up | (with_reducible refine AH.le.put hw ?_ ?_; · first | omega | (simp only [up_nx, put_nx, kill_nx]; done) | (simp only [up_nx, put_nx, kill_nx]; omega)) | (with_reducible refine AH.le.kill hw ?_ ?_; · first | omega | (simp only [up_nx, put_nx, kill_nx]; done) | (simp only [up_nx, put_nx, kill_nx]; omega))))
      have h2 := le_base (p := b) (b := .box 94 (wC fun c => W c + s * (Ty.u y x).gives c)) (H := H) (X := X) (by repeat (first | with_reducible assumption | with_reducible exact AH.le.refl _ | with_reducible apply AH.le.up | (with_reducible refine AH.le.put hw ?_ ?_; · first | omega | (simp only [up_nx, put_nx, kill_nx]; done) | (simp only [up_nx, put_nx, kill_nx]; omega)) | (with_reducible refine AH.le.kill hw ?_ ?_; · first | omega | (simp only [up_nx, put_nx, kill_nx]; done) | (simp only [up_nx, put_nx, kill_nx]; omega))))
      exact rt_tupP (hw.box hp (wC_cl _ _)) h2 .nil ⟨rfl, rfl⟩
def wA (W : Int → Int) : Array Value := ((List.range 10).map fun c => Value.int .i64 (W (c : Nat))).toArray
theorem wA_at (W : Int → Int) {i : Nat} (h : i < 10) : (wA W)[i]? = some (.int .i64 (W (i : Nat))) := by
  unfold wA
  rw [List.getElem?_toArray, List.getElem?_map, List.getElem?_range h]; rfl
theorem plainInt : Try.prog.plainKey 3 = true := by kernel_rfl
theorem underInt : Try.prog.underlying 3 = some (.int .i64) := by kernel_rfl
theorem run_eqNums (W V : Int → Int) (w : World) (d : Nat) : ∀ is : List Nat, (∀ i ∈ is, i < 10) → (Op.eqItems (d + 1) 3 1 (wA W) (wA V) is).run Try.prog w = .ok (is.all fun c => W (c : Nat) == V (c : Nat)) w
  | [], _ => by simp [Op.eqItems]
  | i :: is, h => by
    have hx := run_part_plain (P := Try.prog) (w := w) plainInt (wA_at W (h i (by simp)))
    have hy := run_part_plain (P := Try.prog) (w := w) plainInt (wA_at V (h i (by simp)))
    have ih := run_eqNums W V w d is (fun j hj => h j (by simp [hj]))
    have he : (Op.equalIn (d + 1) 3 (.int .i64 (W (i : Nat))) (.int .i64 (V (i : Nat)))).run Try.prog w = .ok (W (i : Nat) == V (i : Nat)) w := by
      simp [Op.equalIn, run_underlying underInt]
    simp only [Op.eqItems, Nat.mul_one, Sem.run_bind, hx, hy, Result.andThen_ok, he]
    cases hq : W (i : Nat) == V (i : Nat) with
    | true => simp [ih, hq]
    | false => simp [hq]
theorem run_eqArr (W V : Int → Int) (w : World) : (Op.equal 94 (.agg (wA W)) (.agg (wA V))).run Try.prog w = .ok ((List.range 10).all fun c => W (c : Nat) == V (c : Nat)) w := by
  rw [Op.equal, Op.maxDepth, show (10000 : Nat) = 9998 + 1 + 1 from rfl, run_equalIn_array (P := Try.prog) w (9998 + 1) (t := 94) (e := 3) (n := 10) (wA W) (wA V) (by kernel_rfl) (i := (Try.prog.info? 3).get (by kernel_rfl)) (by kernel_rfl)]
  rw [show Try.prog.cellsOf 3 = 1 by kernel_rfl]
  exact run_eqNums W V w 9998 _ (fun i hi => by simpa using hi)
theorem q_eqArr {W V : Int → Int} {k : AV → AH → Prop} {H : AH} (h : k (bv ((List.range 10).all fun c => W (c : Nat) == V (c : Nat))) H) : Pu Try.prog (.bin .eql 94) [.agg (wC W), .agg (wC V)] k H :=
  q_eql_v _ _ _ (wA W) (wA V) _ rfl rfl (by kernel_rfl) (fun w => run_eqArr W V w) h
theorem gsum_take {l : List Ty} {i : Nat} {x : Ty} (h : l[i]? = some x) (c : Int) : gsum (l.take (i + 1)) c = gsum (l.take i) c + x.gives c := by
  rw [List.take_add_one, h, Option.toList_some, gsum_app, gsum_cons, gsum_nil]; omega
theorem gsum_le {l : List Ty} (hl : Goods l) (c : Int) : -(15 * (l.length : Int)) ≤ gsum l c ∧ gsum l c ≤ 15 * l.length := by
  induction l with
  | nil => simp [gsum]
  | cons x r ih =>
    have := ih hl.tail
    have := hl.head.gives c
    rw [gsum_cons, List.length_cons]; omega
theorem Goods.take {l : List Ty} (h : Goods l) (i : Nat) : Goods (l.take i) := fun t ht => h t (List.mem_of_mem_take ht)
theorem Goods.drop {l : List Ty} (h : Goods l) (i : Nat) : Goods (l.drop i) := fun t ht => h t (List.mem_of_mem_drop ht)
theorem Goods.at_ {l : List Ty} (h : Goods l) {i : Nat} {x : Ty} (hx : l[i]? = some x) : Good x := h x (List.mem_of_getElem? hx)
theorem c_balanced {l : List Ty} {g : Ty} (hl : Goods l) (hg : Good g) (hn : l.length ≤ 1000) : PF Try.prog 62 [tE l, g.av] (bv (levelB l g)) := fun H => tri_wf fun hw => tri_speech_balanced (by
  unfold S_speech_balanced tE
  simp (disch := first | omega | simp) [Ty.av]
  generalize hM : ((((H.up 2).put H.nx (.box 24 g.cs)).up 2).put (H.nx + 2) (.box 94 [.p (.int .i64 0), .p (.int .i64 0), .p (.int .i64 0), .p (.int .i64 0), .p (.int .i64 0), .p (.int .i64 0), .p (.int .i64 0), .p (.int .i64 0), .p (.int .i64 0), .p (.int .i64 0)])).put (H.nx + 2 + 1) (.box 94 [.p (.int .i64 0), .p (.int .i64 0), .p (.int .i64 0), .p (.int .i64 0), .p (.int .i64 0), .p (.int .i64 0), .p (.int .i64 0), .p (.int .i64 0), .p (.int .i64 0), .p (.int .i64 0)]) = M
  have hMl : H.le M := by rw [← hM]; exact (by repeat (first | with_reducible assumption | with_reducible exact AH.le.refl _ | with_reducible apply AH.le.up | (with_reducible refine AH.le.put hw ?_ ?_; · first | omega | (simp only [up_nx, put_nx, kill_nx]; done) | (simp only [up_nx, put_nx, kill_nx]; omega)) | (with_reducible refine AH.le.kill hw ?_ ?_; · first | omega | (simp only [up_nx, put_nx, kill_nx]; done) | (simp only [up_nx, put_nx, kill_nx]; omega))))
  have hMn : M.nx = H.nx + 4 := by rw [← hM]; rfl
  have hMg : M.get H.nx = some (.box 24 g.cs) := by rw [← hM]; simp (disch := first | omega | simp) [put_get_ne]
  have hMa : M.get (H.nx + 2) = some (.box 94 (wC fun _ => 0)) := by rw [← hM]; simp (disch := first | omega | simp) [put_get_ne]; rfl
  have hMb : M.get (H.nx + 3) = some (.box 94 (wC fun _ => 0)) := by rw [← hM]; simp (disch := first | omega | simp); rfl
  clear hM
  refine loop_st (fun i : Nat => [iv i]) (fun i H' => H.le H' ∧ H.nx + 4 ≤ H'.nx ∧ i ≤ l.length ∧ H'.get H.nx = some (.box 24 g.cs) ∧ H'.get (H.nx + 2) = some (.box 94 (wC fun c => gsum (l.take i) c)) ∧ H'.get (H.nx + 3) = some (.box 94 (wC fun _ => 0))) (fun i => l.length - i) 0 (.refl (by omega)) ⟨hMl, by omega, Nat.zero_le _, hMg, hMa, hMb⟩ ?_
  rintro i H1 hn1 ⟨hle, hnx, hi, h1, h2, h3⟩ k hk
  unfold S_speech_balanced_L1
  have hgl := gsum_le (hl.take i)
  have htl : (l.take i).length ≤ 1000 := by rw [List.length_take]; omega
  by_cases hil : i < l.length
  · obtain ⟨x, hx⟩ : ∃ x, l[i]? = some x := ⟨_, List.getElem?_eq_getElem hil⟩
    have hxg : ∀ h, l[i]'h = x := fun h => (List.getElem?_eq_some_iff.1 hx).2
    have hiv := ivn (i := i) (by omega)
    have hgx := hl.at_ hx
    have hsx := hgx.size
    simp (disch := first | omega | simp) [iv, hil, hxg, Ty.cs_len, Ty.cs_take]
    refine ca_of (by kernel_rfl) (c_weigh x.size x (Nat.le_refl _) (by omega) hgx 1 (H.nx + 2) (fun c => gsum (l.take i) c) _ (.inl rfl) (fun c => by have := hgl c; omega) (by simp (disch := first | omega | simp) [put_get_ne, h2])) ?_
    rintro _ _ ⟨rfl, rfl⟩
    rw [q_add_i, hiv]
    refine hk (i + 1) _ _ _ (.refl (by first | omega | (simp only [up_nx, put_nx]; done) | (simp only [up_nx, put_nx]; omega))) ⟨(by repeat (first | with_reducible assumption | with_reducible exact AH.le.refl _ | with_reducible apply AH.le.up | (with_reducible refine AH.le.put hw ?_ ?_; · first | omega | (simp only [up_nx, put_nx, kill_nx]; done) | (simp only [up_nx, put_nx, kill_nx]; omega)) | (with_reducible refine AH.le.kill hw ?_ ?_; · first | omega | (simp only [up_nx, put_nx, kill_nx]; done) | (simp only [up_nx, put_nx, kill_nx]; omega)))), (by first | omega | (simp only [up_nx, put_nx]; done) | (simp only [up_nx, put_nx]; omega)), hil, by simp (disch := first | omega | simp) [put_get_ne, h1], ?_, by simp (disch := first | omega | simp) [put_get_ne, h3]⟩ (by omega)
    rw [put_get]
    congr 3
    funext c
    rw [gsum_take hx]; omega
  · have hie : l.take i = l := List.take_of_length_le (by omega)
    rw [hie] at h2
    have hgs := hg.size
    simp (disch := first | omega | simp) [iv, hil, Ty.cs_len, Ty.cs_take, h1]
    refine ca_of (by kernel_rfl) (c_weigh g.size g (Nat.le_refl _) (by omega) hg 1 (H.nx + 3) (fun c => 0) _ (.inl rfl) (fun c => by omega) h3) ?_
    rintro _ _ ⟨rfl, rfl⟩
    have ht : ∀ W, List.take 10 (wC W) = wC W := fun W => List.take_of_length_le (by rw [wC_len]; omega)
    simp (disch := first | omega | simp) [put_get_ne, h2, wC_len, ht]
    refine q_eqArr ?_
    refine rt_one hw (by repeat (first | with_reducible assumption | with_reducible exact AH.le.refl _ | with_reducible apply AH.le.up | (with_reducible refine AH.le.put hw ?_ ?_; · first | omega | (simp only [up_nx, put_nx, kill_nx]; done) | (simp only [up_nx, put_nx, kill_nx]; omega)) | (with_reducible refine AH.le.kill hw ?_ ?_; · first | omega | (simp only [up_nx, put_nx, kill_nx]; done) | (simp only [up_nx, put_nx, kill_nx]; omega)))) (by repeat (first | exact Cl.p _ | exact Cl.dsl _ _ | exact Cl.any | refine Cl.tup ?_ | refine Cl.agg ?_ | exact Clo.nil | refine Clo.cons ?_ ?_)) ⟨rfl, ?_⟩
    unfold levelB
    simp only)
end Go.Proofs.Ytpmnlikgldacaaa

/- The library's Builder at this program: what its methods do to what lies in memory. -/
namespace Go.Proofs.Ytpmnlikgldacaaa
open Go.RowKit Go.Maps
set_option maxHeartbeats 1000000 in
set_option maxRecDepth 100000 in
theorem raw_used (b : Nat) (w : World) (h0 : w.cell? ⟨b, 0, none⟩ = some (.pointer (some ⟨b, 0, none⟩))) :
    Calls Try.prog 79 #[.pointer (some ⟨b, 0, none⟩)] w fun e w' => e = .returned (.tuple #[]) ∧ w' = w := by
  go_enter Try.func79, Try.ntmps79
  go_wp2
  rw [Lib.run_neq_ptr_same w _ Try.underlying97 (j := (Try.prog.info? 99).get (by kernel_rfl)) (by kernel_rfl)]
  go_wp2
  go_end0
  exact ⟨rfl, rfl⟩
set_option maxHeartbeats 1000000 in
set_option maxRecDepth 100000 in
theorem raw_fresh (b : Nat) (w : World) (h0 : w.cell? ⟨b, 0, none⟩ = some (.pointer none)) (hsh : w.shape? b = some (99, 2)) (hfz : w.frozen? ⟨b, 0, none⟩ = false) :
    Calls Try.prog 79 #[.pointer (some ⟨b, 0, none⟩)] w fun e w' => e = .returned (.tuple #[]) ∧ w' = w.setCell ⟨b, 0, none⟩ (.pointer (some ⟨b, 0, none⟩)) := by
  have hj : Try.prog.info? 99 = some ((Try.prog.info? 99).get (by kernel_rfl)) := by kernel_rfl
  have hjs : ((Try.prog.info? 99).get (by kernel_rfl)).size = 2 := by kernel_rfl
  go_enter Try.func79, Try.ntmps79
  go_wp2
  rw [Lib.run_to_unsafe w ⟨b, 0, none⟩ Try.underlying97 Try.underlying108 hj (by rw [hjs]; decide) hsh (Nat.zero_lt_succ 1)]
  simp only [Result.andThen]
  rw [Oper.upon_value]
  go_wp2
  rw [run_callFunc_extern Try.func81 (by kernel_rfl) (by kernel_rfl) (by kernel_rfl) (e := Extern.AbiNoEscape.same) (by kernel_rfl)]
  rw [Lib.run_noEscape]
  simp only [Result.andThen]
  rw [Oper.upon_value]
  go_wp2
  rw [Lib.run_from_unsafe w ⟨b, 0, none⟩ Try.underlying108 Try.underlying97 hj hsh (by kernel_rfl)]
  simp only [Result.andThen]
  rw [Oper.upon_value]
  go_wp2
  go_end0
  exact ⟨rfl, rfl⟩
theorem setCell_other (w : World) (g b : Nat) (v : Value) (h : b ≠ g) : (w.setCell ⟨g, 0, none⟩ v).heap[b]? = w.heap[b]? := by
  simp only [World.setCell, Array.getElem?_modify]
  rw [if_neg (fun e => h e.symm)]
theorem setCell_at (w : World) (g : Nat) (arr : Array Value) (t : TypeId) (v : Value) (h : Blk w g t arr) : Blk (w.setCell ⟨g, 0, none⟩ v) g t (arr.setIfInBounds 0 v) := by
  have h1 : w.heap[g]? = some (.cells arr t (0, 0)) := h
  show (w.setCell ⟨g, 0, none⟩ v).heap[g]? = _
  simp only [World.setCell, Array.getElem?_modify, if_true, h1]
  rfl
theorem pair_arr {w : World} {S : Nat → Prop} {σ : Nat → Option Value} {a x : AV} {arr : Array Value} (h : Rps w S σ [a, x] arr.toList) : ∃ u v, arr = #[u, v] ∧ Rp w S σ a u ∧ Rp w S σ x v := by
  obtain ⟨u, v, e, h1, h2⟩ := h.two_inv
  exact ⟨u, v, Array.toList_inj.1 e, h1, h2⟩
theorem c_used {H : AH} {b : Nat} {x : AV} (hb : H.get b = some (.box 99 [.ptr b 0, x])) : Tri Try.prog 79 [.ptr b 0] H (fun _ H' => H' = H) := by
  intro w S σ us hs hr
  obtain ⟨v, rfl, q⟩ := hr.one_inv
  obtain ⟨g, rfl, hσ⟩ := q.ptr_inv
  obtain ⟨g', arr, m1, m2, m3, m4⟩ := hs.obj b _ hb
  rw [hσ] at m1
  simp only [Option.some.injEq, Value.pointer.injEq, Addr.mk.injEq, and_true] at m1
  subst m1
  obtain ⟨u, v, rfl, k1, k2⟩ := pair_arr m3
  obtain ⟨g2, rfl, hσ2⟩ := k1.ptr_inv
  rw [hσ] at hσ2
  simp only [Option.some.injEq, Value.pointer.injEq, Addr.mk.injEq, and_true] at hσ2
  subst hσ2
  refine (raw_used g w (by rw [m2.cell]; rfl)).mono ?_
  rintro e w' ⟨rfl, rfl⟩
  exact ⟨_, S, σ, .tup [], H, rfl, rfl, hs, Rps.tup .nil, Ext.refl _ _ _ _, Nat.le_refl _, fun _ _ => rfl⟩
theorem c_fresh {H : AH} {b : Nat} {x : AV} (hb : H.get b = some (.box 99 [.p (.pointer none), x])) : Tri Try.prog 79 [.ptr b 0] H (fun _ H' => H' = H.put b (.box 99 [.ptr b 0, x])) := by
  intro w S σ us hs hr
  obtain ⟨v, rfl, q⟩ := hr.one_inv
  obtain ⟨g, rfl, hσ⟩ := q.ptr_inv
  obtain ⟨g', arr, m1, m2, m3, m4⟩ := hs.obj b _ hb
  rw [hσ] at m1
  simp only [Option.some.injEq, Value.pointer.injEq, Addr.mk.injEq, and_true] at m1
  subst m1
  obtain ⟨u, v, rfl, k1, k2⟩ := pair_arr m3
  obtain ⟨rfl, _⟩ := k1.p_inv
  have hm2 : w.heap[g]? = some (.cells #[.pointer none, v] 99 (0, 0)) := m2
  refine (raw_fresh g w (by rw [m2.cell]; rfl) (by simp [World.shape?, hm2]) (by simp [World.frozen?, hm2])).mono ?_
  rintro e w' ⟨rfl, rfl⟩
  have hnone : ∀ x, σ b = some x → x = .pointer (some ⟨g, 0, none⟩) := fun x hx => by rw [hσ] at hx; injection hx with hx; exact hx.symm
  have hsp := sput_id hσ
  have hbk : (σ b).bind blkOf = some g := by rw [hσ]; rfl
  have hsz : (w.setCell ⟨g, 0, none⟩ (.pointer (some ⟨g, 0, none⟩))).heap.size = w.heap.size := by simp [World.setCell]
  have hkeep : ∀ b', b' < w.heap.size → blkOf (.pointer (some ⟨g, 0, none⟩)) ≠ some b' → (w.setCell ⟨g, 0, none⟩ (.pointer (some ⟨g, 0, none⟩))).heap[b']? = w.heap[b']? := fun b' _ hne => setCell_other w g b' _ (fun e => hne (by rw [e]; rfl))
  have hS : ∀ b', S b' → (w.setCell ⟨g, 0, none⟩ (.pointer (some ⟨g, 0, none⟩))).heap[b']? = w.heap[b']? := fun b' hb' => setCell_other w g b' _ (fun e => hs.sep b _ g hb rfl hbk (by rw [← e]; exact hb'))
  have hsat := hs.upd (w' := w.setCell ⟨g, 0, none⟩ (.pointer (some ⟨g, 0, none⟩))) (k := b) (o' := .box 99 [.ptr b 0, x]) (hs.dom _ _ hσ) hnone (by rw [hsz]; exact Nat.le_refl _) hkeep (fun b' hb' => by
      simp only [blkOf, Option.some.injEq] at hb'; subst hb'
      exact ⟨hs.sep b _ g hb rfl hbk, fun k o2 hk h2 h3 h4 => hk (hs.dj k b o2 _ g h2 hb h3 rfl h4 hbk)⟩)
    (by
      rw [hsp]
      refine ⟨g, _, hσ, setCell_at w g _ _ _ m2, ?_, ?_⟩
      · exact .cons (.ptr b 0 g hσ) (.cons (k2.mono (fun _ h => h) hS (fun _ _ h => h)) .nil)
      · intro u hu
        have : u = .pointer (some ⟨g, 0, none⟩) ∨ u = v := by simpa using hu
        rcases this with rfl | rfl
        · rfl
        · exact m4 _ (by simp))
    (fun j o b h1 h2 h3 => hs.lt h1 h2 h3) (fun A n c e => by cases e)
  have hext := Ext.upd (w' := w.setCell ⟨g, 0, none⟩ (.pointer (some ⟨g, 0, none⟩))) (k := b) (o' := .box 99 [.ptr b 0, x]) hs hnone rfl rfl rfl (by rw [hsz]; exact Nat.le_refl _) hkeep (fun b' hb' => by
      simp only [blkOf, Option.some.injEq] at hb'; subst hb'; exact .inl ⟨b, _, hb, rfl, hbk⟩)
  rw [hsp] at hsat hext
  exact ⟨_, S, σ, .tup [], _, rfl, rfl, hsat, Rps.tup .nil, hext, Nat.le_refl _, fun _ _ => rfl⟩
end Go.Proofs.Ytpmnlikgldacaaa

/- The text of a part; the library's Builder: writing and what it gives. -/
namespace Go.Proofs.Ytpmnlikgldacaaa
open Go.RowKit Go.Maps
def mkB (l : List UInt8) : ByteArray := ⟨l.toArray⟩
theorem mkB_app (l m : List UInt8) : mkB l ++ mkB m = mkB (l ++ m) := by
  unfold mkB
  apply ByteArray.ext
  rw [ByteArray.data_append]
  simp
theorem mkB_size (l : List UInt8) : (mkB l).size = l.length := by simp [mkB, ByteArray.size]
theorem mkB_inj {l m : List UInt8} (h : mkB l = mkB m) : l = m := by
  have := congrArg (fun b : ByteArray => b.data.toList) h
  simpa [mkB] using this
theorem strE_mk (l : List UInt8) : strE (mkB l) = l.map fun b => [.p (.int .u8 b.toNat)] := by simp [strE, mkB]
theorem strE_mklen (l : List UInt8) : (strE (mkB l)).length = l.length := by rw [strE_len, mkB_size]
theorem mk_40 : (⟨#[40]⟩ : ByteArray) = mkB [40] := rfl
theorem mk_47 : (⟨#[47]⟩ : ByteArray) = mkB [47] := rfl
theorem mk_92 : (⟨#[92]⟩ : ByteArray) = mkB [92] := rfl
theorem mk_41 : (⟨#[41]⟩ : ByteArray) = mkB [41] := rfl
def Ty.txt : Ty → List UInt8
  | ⟨k, n, ks⟩ => if k = 1 then [(97 + n).toNat.toUInt8] else match ks with
    | [a, b] => 40 :: (Ty.txt a ++ (if k = 2 then 47 else 92) :: (Ty.txt b ++ [41]))
    | _ => []
theorem Ty.txt_b (n : Int) : Ty.txt ⟨1, n, []⟩ = [(97 + n).toNat.toUInt8] := by rw [Ty.txt]; simp; intro a b h; cases h
theorem Ty.txt_o (x y : Ty) : (Ty.o x y).txt = 40 :: (x.txt ++ 47 :: (y.txt ++ [41])) := by rw [Ty.o, Ty.txt]; simp
theorem Ty.txt_u (y x : Ty) : (Ty.u y x).txt = 40 :: (y.txt ++ 92 :: (x.txt ++ [41])) := by rw [Ty.u, Ty.txt]; simp
theorem Ty.txt_len : ∀ (N : Nat) (t : Ty), t.size ≤ N → Good t → t.txt.length ≤ 3 * t.size
  | 0, t, h, _ => by have := t.size_pos; omega
  | N + 1, t, h, hg => by
    rcases hg.cases with ⟨n, rfl, _⟩ | ⟨x, y, rfl, hx, hy⟩ | ⟨y, x, rfl, hy, hx⟩
    · rw [Ty.txt_b, Ty.size_mk]; simp; omega
    · rw [Ty.size_o] at h ⊢
      have := Ty.txt_len N x (by omega) hx
      have := Ty.txt_len N y (by omega) hy
      rw [Ty.txt_o]; simp; omega
    · rw [Ty.size_u] at h ⊢
      have := Ty.txt_len N x (by omega) hx
      have := Ty.txt_len N y (by omega) hy
      rw [Ty.txt_u]; simp; omega
theorem Good.txt_len {t : Ty} (h : Good t) : t.txt.length ≤ 45 := by
  have := Ty.txt_len _ t (Nat.le_refl _) h
  have := h.size
  omega
def sv (l : List UInt8) : AV := .p (.string (mkB l))
theorem c_text (N : Nat) : ∀ t : Ty, t.size ≤ N → Good t → ∀ H : AH, Tri Try.prog 52 [t.av] H (fun r H' => H' = H ∧ r = sv t.txt) := by
  induction N with
  | zero => intro t ht; have := t.size_pos; omega
  | succ N ih =>
    intro t ht hg H
    have hml : maxLen = 9223372036854775807 := by decide
    refine tri_wf fun hw => tri_speech_text ?_
    unfold S_speech_text
    rcases hg.cases with ⟨n, rfl, h0, h9⟩ | ⟨x, y, rfl, hx, hy⟩ | ⟨y, x, rfl, hy, hx⟩
    · have hw1 : IntKind.i64.wrap (97 + n) = 97 + n := wrapI (by omega) (by omega)
      have hw2 : IntKind.u8.wrap (97 + n) = 97 + n := by
        have : n = 0 ∨ n = 1 ∨ n = 2 ∨ n = 3 ∨ n = 4 ∨ n = 5 ∨ n = 6 ∨ n = 7 ∨ n = 8 ∨ n = 9 := by omega
        rcases this with rfl | rfl | rfl | rfl | rfl | rfl | rfl | rfl | rfl | rfl <;> decide
      simp (disch := first | omega | simp) [Ty.av, Ty.cs_b, iv, hw1, hw2]
      refine ⟨mkB [(97 + n).toNat.toUInt8], ?_, ?_⟩
      · rw [strE_mk]
        have : n = 0 ∨ n = 1 ∨ n = 2 ∨ n = 3 ∨ n = 4 ∨ n = 5 ∨ n = 6 ∨ n = 7 ∨ n = 8 ∨ n = 9 := by omega
        rcases this with rfl | rfl | rfl | rfl | rfl | rfl | rfl | rfl | rfl | rfl <;> rfl
      · exact rt_one hw (by repeat (first | with_reducible assumption | with_reducible exact AH.le.refl _ | with_reducible apply AH.le.up | (with_reducible refine AH.le.put hw ?_ ?_; · first | omega | (simp only [up_nx, put_nx, kill_nx]; done) | (simp only [up_nx, put_nx, kill_nx]; omega)) | (with_reducible refine AH.le.kill hw ?_ ?_; · first | omega | (simp only [up_nx, put_nx, kill_nx]; done) | (simp only [up_nx, put_nx, kill_nx]; omega)))) (by repeat (first | exact Cl.p _ | exact Cl.dsl _ _ | exact Cl.any | refine Cl.tup ?_ | refine Cl.agg ?_ | exact Clo.nil | refine Clo.cons ?_ ?_)) ⟨rfl, by rw [Ty.txt_b]; rfl⟩
    · rw [Ty.size_o] at ht
      have l1 := hx.txt_len
      have l2 := hy.txt_len
      simp (disch := first | omega | simp) [Ty.av, Ty.cs_o, iv]
      unfold S_speech_text_C1
      simp (disch := first | omega | simp) [Ty.cs_take, Ty.cs_len]
      refine cav_pure (by kernel_rfl) (fun H2 _ => ih x (by omega) hx H2) ?_
      simp (disch := first | omega | simp) [sv, Ty.cs_take, Ty.cs_len, mk_40, mk_47, mk_41, mkB_app, mkB_size]
      refine ⟨by omega, by omega, cav_pure (by kernel_rfl) (fun H2 _ => ih y (by omega) hy H2) ?_⟩
      simp (disch := first | omega | simp) [sv, mkB_app, mkB_size]
      refine ⟨by omega, by omega, rt_one hw (by repeat (first | with_reducible assumption | with_reducible exact AH.le.refl _ | with_reducible apply AH.le.up | (with_reducible refine AH.le.put hw ?_ ?_; · first | omega | (simp only [up_nx, put_nx, kill_nx]; done) | (simp only [up_nx, put_nx, kill_nx]; omega)) | (with_reducible refine AH.le.kill hw ?_ ?_; · first | omega | (simp only [up_nx, put_nx, kill_nx]; done) | (simp only [up_nx, put_nx, kill_nx]; omega)))) (by repeat (first | exact Cl.p _ | exact Cl.dsl _ _ | exact Cl.any | refine Cl.tup ?_ | refine Cl.agg ?_ | exact Clo.nil | refine Clo.cons ?_ ?_)) ⟨rfl, by rw [Ty.txt_o]⟩⟩
    · rw [Ty.size_u] at ht
      have l1 := hx.txt_len
      have l2 := hy.txt_len
      simp (disch := first | omega | simp) [Ty.av, Ty.cs_u, iv]
      unfold S_speech_text_C1
      simp (disch := first | omega | simp) [Ty.cs_take, Ty.cs_len]
      refine cav_pure (by kernel_rfl) (fun H2 _ => ih y (by omega) hy H2) ?_
      simp (disch := first | omega | simp) [sv, Ty.cs_take, Ty.cs_len, mk_40, mk_92, mk_41, mkB_app, mkB_size]
      refine ⟨by omega, by omega, cav_pure (by kernel_rfl) (fun H2 _ => ih x (by omega) hx H2) ?_⟩
      simp (disch := first | omega | simp) [sv, mkB_app, mkB_size]
      refine ⟨by omega, by omega, rt_one hw (by repeat (first | with_reducible assumption | with_reducible exact AH.le.refl _ | with_reducible apply AH.le.up | (with_reducible refine AH.le.put hw ?_ ?_; · first | omega | (simp only [up_nx, put_nx, kill_nx]; done) | (simp only [up_nx, put_nx, kill_nx]; omega)) | (with_reducible refine AH.le.kill hw ?_ ?_; · first | omega | (simp only [up_nx, put_nx, kill_nx]; done) | (simp only [up_nx, put_nx, kill_nx]; omega)))) (by repeat (first | exact Cl.p _ | exact Cl.dsl _ _ | exact Cl.any | refine Cl.tup ?_ | refine Cl.agg ?_ | exact Clo.nil | refine Clo.cons ?_ ?_)) ⟨rfl, by rw [Ty.txt_u]⟩⟩
/-- a Builder that holds bytes; its row lies at L or behind -/
def BldAt (L : Nat) (H : AH) (b : Nat) (q : List UInt8) : Prop :=
  (H.get b = some (.box 99 [.p (.pointer none), .p (.slice none 0 0)]) ∧ q = []) ∨
  ∃ r, L ≤ r ∧ r ≠ b ∧ q ≠ [] ∧ H.get b = some (.box 99 [.ptr b 0, .osl r 1 0 q.length]) ∧ H.get r = some (.row 5 1 (strE (mkB q)))
theorem c_WriteString {L : Nat} {H : AH} {b : Nat} {q s : List UInt8} (h : BldAt L H b q) (hs0 : s ≠ []) (hl : q.length + s.length ≤ 1000000000) (hL : L ≤ H.nx) (hbL : b < L) :
    Tri Try.prog 74 [.ptr b 0, sv s] H (fun _ H' => BldAt L H' b (q ++ s) ∧ H.nx ≤ H'.nx ∧ ∀ j, j < L → j ≠ b → H'.get j = H.get j) := tri_wf fun hw => tri_Builder_WriteString (by
  have hml : maxLen = 9223372036854775807 := by decide
  unfold S_Builder_WriteString sv
  rcases h with ⟨h1, rfl⟩ | ⟨r, h0, h00, hq, h1, h2⟩
  · refine ca_of (by kernel_rfl) (c_fresh h1) ?_
    rintro _ _ rfl
    simp only [List.length_nil, Nat.zero_add] at hl
    simp (disch := first | omega | simp) [put_get_ne, strE_mklen]
    refine ⟨by omega, by omega, rt_refl ⟨.inr ⟨H.nx + 6, by omega, by omega, by simpa using hs0, by simp (disch := first | omega | simp), by simp (disch := first | omega | simp) [put_get_ne]⟩, (by first | omega | (simp only [up_nx, put_nx]; done) | (simp only [up_nx, put_nx]; omega)), fun j hj hjb => ?_⟩ (by first | omega | (simp only [up_nx, put_nx]; done) | (simp only [up_nx, put_nx]; omega))⟩
    simp (disch := first | omega | simp) [put_get_ne]
  · have hrn := (hw _ _ h2).1
    refine ca_of (by kernel_rfl) (c_used h1) ?_
    rintro _ H1 e
    rw [e]
    clear e
    simp (disch := first | omega | simp) [put_get_ne, strE_mklen, h1, h2, kill_get_ne]
    refine ⟨by omega, by omega, rt_refl ⟨.inr ⟨H.nx + 6, by omega, by omega, by simp [hs0], ?_, ?_⟩, (by first | omega | (simp only [up_nx, put_nx, kill_nx]; done) | (simp only [up_nx, put_nx, kill_nx]; omega)), fun j hj hjb => ?_⟩ (by first | omega | (simp only [up_nx, put_nx, kill_nx]; done) | (simp only [up_nx, put_nx, kill_nx]; omega))⟩
    · simp (disch := first | omega | simp) [List.length_append]
    · simp (disch := first | omega | simp) [put_get_ne, strE_mk]
      exact List.take_of_length_le (by simp)
    · simp (disch := first | omega | simp) [put_get_ne, kill_get_ne])
theorem c_String {L : Nat} {H : AH} {b : Nat} {q : List UInt8} (h : BldAt L H b q) (_hL : L ≤ H.nx) (_hbL : b < L) :
    Tri Try.prog 75 [.ptr b 0] H (fun r H' => r = sv q ∧ H.nx ≤ H'.nx ∧ ∀ j, j < L → j ≠ b → H'.get j = H.get j) := tri_wf fun hw => tri_Builder_String (by
  unfold S_Builder_String sv
  rcases h with ⟨h1, rfl⟩ | ⟨r, h0, h00, hq, h1, h2⟩
  · simp (disch := first | omega | simp) [h1]
    exact rt_refl ⟨rfl, (by first | omega | (simp only [up_nx]; done) | (simp only [up_nx]; omega)), fun j hj hjb => rfl⟩ (by first | omega | (simp only [up_nx]; done) | (simp only [up_nx]; omega))
  · · have hpos : 0 < q.length := List.length_pos_iff.2 hq
      simp (disch := first | omega | simp) [h1, h2, strE_mklen, hpos]
      refine ⟨mkB q, ?_, rt_refl ⟨rfl, (by first | omega | (simp only [up_nx, kill_nx]; done) | (simp only [up_nx, kill_nx]; omega)), fun j hj hjb => ?_⟩ (by first | omega | (simp only [up_nx, kill_nx]; done) | (simp only [up_nx, kill_nx]; omega))⟩
      · rw [List.take_of_length_le (by rw [strE_mklen]; omega)]
      · simp (disch := first | omega | simp) [kill_get_ne])
end Go.Proofs.Ytpmnlikgldacaaa

/- Reading a part: what the reader does, what the document says, and that both are one. Plain. -/
namespace Go.Proofs.Ytpmnlikgldacaaa
def zT : Ty := ⟨0, 0, []⟩
def isLet (c : UInt8) : Bool := decide (97 ≤ c.toNat ∧ c.toNat ≤ 106)
/-- the reader: what it reads, whether that is right, what is left -/
def rdP : Nat → List UInt8 → Ty × Bool × List UInt8
  | 0, s => (zT, false, s)
  | _ + 1, [] => (zT, false, [])
  | n + 1, c :: r =>
    if isLet c = true then (⟨1, (c.toNat : Int) - 97, []⟩, true, r)
    else if c = 40 then
      (if (rdP n r).2.1 = true then
        match (rdP n r).2.2 with
        | [] => (zT, false, [])
        | d :: r2 => if d = 47 ∨ d = 92 then
            (if (rdP n r2).2.1 = true then
              match (rdP n r2).2.2 with
              | [] => (⟨if d = 92 then 3 else 2, 0, [(rdP n r).1, (rdP n r2).1]⟩, false, [])
              | e :: r4 => (⟨if d = 92 then 3 else 2, 0, [(rdP n r).1, (rdP n r2).1]⟩, decide (e = 41), r4)
            else (⟨if d = 92 then 3 else 2, 0, [(rdP n r).1, (rdP n r2).1]⟩, false, (rdP n r2).2.2))
          else (zT, false, r2)
      else (zT, false, (rdP n r).2.2))
    else (zT, false, r)
theorem rdP_len : ∀ (n : Nat) (s : List UInt8), (rdP n s).2.2.length ≤ s.length
  | 0, s => Nat.le_refl _
  | _ + 1, [] => Nat.le_refl _
  | n + 1, c :: r => by
    have h1 := rdP_len n r
    rw [rdP]
    split
    · simp
    · split
      · split
        · split
          · simp
          · rename_i d r2 hr
            rw [hr] at h1
            have h2 := rdP_len n r2
            split
            · split
              · split
                · simp
                · rename_i e r4 hr4
                  rw [hr4] at h2
                  simp only [List.length_cons] at h1 h2 ⊢
                  omega
              · simp only [List.length_cons] at h1 ⊢
                omega
            · simp only [List.length_cons] at h1 ⊢
              omega
        · simp only [List.length_cons]
          omega
      · simp
/-- the document: what stands at a place, and where it ends -/
def atP : Nat → List UInt8 → Nat → Ty × Option Nat
  | 0, _, _ => (zT, none)
  | n + 1, s, at_ => match s[at_]? with
    | none => (zT, none)
    | some c => if isLet c = true then (⟨1, (c.toNat : Int) - 97, []⟩, some (at_ + 1))
      else if c = 40 then
        match (atP n s (at_ + 1)).2 with
        | none => (zT, none)
        | some mid => match s[mid]? with
          | none => (zT, none)
          | some d => if d = 47 ∨ d = 92 then
              match (atP n s (mid + 1)).2 with
              | none => (zT, none)
              | some e => match s[e]? with
                | none => (zT, none)
                | some x => if x = 41 then (⟨if d = 92 then 3 else 2, 0, [(atP n s (at_ + 1)).1, (atP n s (mid + 1)).1]⟩, some (e + 1)) else (zT, none)
            else (zT, none)
      else (zT, none)
theorem drop_at {s : List UInt8} {k : Nat} {c : UInt8} (h : s[k]? = some c) : s.drop k = c :: s.drop (k + 1) := by
  obtain ⟨h1, h2⟩ := List.getElem?_eq_some_iff.1 h
  rw [List.drop_eq_getElem_cons h1, h2]
theorem drop_no {s : List UInt8} {k : Nat} (h : s[k]? = none) : s.drop k = [] := List.drop_eq_nil_iff.2 (List.getElem?_eq_none_iff.1 h)
/-- both are one -/
theorem atP_rdP : ∀ (n : Nat) (s : List UInt8) (k : Nat), match (atP n s k).2 with
    | some e => rdP n (s.drop k) = ((atP n s k).1, true, s.drop e) ∧ e ≤ s.length
    | none => (rdP n (s.drop k)).2.1 = false ∧ (atP n s k).1 = zT
  | 0, s, k => ⟨rfl, rfl⟩
  | n + 1, s, k => by
    rw [atP]
    cases hc : s[k]? with
    | none =>
      dsimp only
      rw [drop_no hc]
      exact ⟨rfl, rfl⟩
    | some c =>
      dsimp only
      have hk := (List.getElem?_eq_some_iff.1 hc).1
      rw [drop_at hc]
      by_cases hl : isLet c = true
      · rw [if_pos hl]
        dsimp only
        refine ⟨?_, hk⟩
        rw [rdP, if_pos hl]
      rw [if_neg hl]
      by_cases h40 : c = 40
      case neg =>
        rw [if_neg h40]
        dsimp only
        rw [rdP, if_neg hl, if_neg h40]
        exact ⟨rfl, rfl⟩
      rw [if_pos h40]
      have ih1 := atP_rdP n s (k + 1)
      cases h1 : (atP n s (k + 1)).2 with
      | none =>
        rw [h1] at ih1
        dsimp only at ih1 ⊢
        rw [rdP, if_neg hl, if_pos h40, if_neg (by rw [ih1.1]; decide)]
        exact ⟨rfl, rfl⟩
      | some mid =>
        rw [h1] at ih1
        dsimp only at ih1 ⊢
        cases hd : s[mid]? with
        | none =>
          dsimp only
          rw [rdP, if_neg hl, if_pos h40, if_pos (by rw [ih1.1]), ih1.1]
          dsimp only
          rw [drop_no hd]
          exact ⟨rfl, rfl⟩
        | some d =>
          dsimp only
          by_cases hs : d = 47 ∨ d = 92
          case neg =>
            rw [if_neg hs]
            dsimp only
            rw [rdP, if_neg hl, if_pos h40, if_pos (by rw [ih1.1]), ih1.1]
            dsimp only
            rw [drop_at hd]
            dsimp only
            rw [if_neg hs]
            exact ⟨rfl, rfl⟩
          rw [if_pos hs]
          have ih2 := atP_rdP n s (mid + 1)
          cases h2 : (atP n s (mid + 1)).2 with
          | none =>
            rw [h2] at ih2
            dsimp only at ih2 ⊢
            rw [rdP, if_neg hl, if_pos h40, if_pos (by rw [ih1.1]), ih1.1]
            dsimp only
            rw [drop_at hd]
            dsimp only
            rw [if_pos hs, if_neg (by rw [ih2.1]; decide)]
            exact ⟨rfl, rfl⟩
          | some e =>
            rw [h2] at ih2
            dsimp only at ih2 ⊢
            cases hx : s[e]? with
            | none =>
              dsimp only
              rw [rdP, if_neg hl, if_pos h40, if_pos (by rw [ih1.1]), ih1.1]
              dsimp only
              rw [drop_at hd]
              dsimp only
              rw [if_pos hs, if_pos (by rw [ih2.1]), ih2.1]
              dsimp only
              rw [drop_no hx]
              exact ⟨rfl, rfl⟩
            | some x =>
              dsimp only
              have he := (List.getElem?_eq_some_iff.1 hx).1
              have hr : rdP (n + 1) (c :: s.drop (k + 1)) = (⟨if d = 92 then 3 else 2, 0, [(atP n s (k + 1)).1, (atP n s (mid + 1)).1]⟩, decide (x = 41), s.drop (e + 1)) := by
                rw [rdP, if_neg hl, if_pos h40, if_pos (by rw [ih1.1]), ih1.1]
                dsimp only
                rw [drop_at hd]
                dsimp only
                rw [if_pos hs, if_pos (by rw [ih2.1]), ih2.1]
                dsimp only
                rw [drop_at hx]
              rw [hr]
              by_cases h41 : x = 41
              · rw [if_pos h41]
                dsimp only
                exact ⟨by rw [decide_eq_true h41], he⟩
              · rw [if_neg h41]
                dsimp only
                exact ⟨decide_eq_false h41, rfl⟩
/-- Read -/
def readV (s : List UInt8) : Ty × Int :=
  if (rdP (s.length + 1) s).2.1 = true ∧ (rdP (s.length + 1) s).2.2 = [] then (if 15 < (rdP (s.length + 1) s).1.size then (zT, 7) else ((rdP (s.length + 1) s).1, 0)) else (zT, 1)
def readR (s : List UInt8) : Ty × Int :=
  if (atP (s.length + 1) s 0).2 = some s.length then (if 15 < (atP (s.length + 1) s 0).1.size then (zT, 7) else ((atP (s.length + 1) s 0).1, 0)) else (zT, 1)
theorem read_same (s : List UInt8) : readV s = readR s := by
  unfold readV readR
  have h := atP_rdP (s.length + 1) s 0
  rw [List.drop_zero] at h
  cases he : (atP (s.length + 1) s 0).2 with
  | none =>
    rw [he] at h
    dsimp only at h
    rw [if_neg (by rw [h.1]; simp), if_neg (by simp)]
  | some e =>
    rw [he] at h
    dsimp only at h
    rw [h.1]
    dsimp only
    by_cases q : e = s.length
    · subst q
      rw [if_pos ⟨rfl, List.drop_length⟩, if_pos rfl]
    · have hne : s.drop e ≠ [] := fun c => q (by have := List.drop_eq_nil_iff.1 c; omega)
      rw [if_neg (fun c => hne c.2), if_neg (fun c => q (by injection c))]
end Go.Proofs.Ytpmnlikgldacaaa

/- Abstract walks of functions, written by a program (wip/aw/aw.py): each equation is checked by the kernel. -/
namespace Go.Proofs.Ytpmnlikgldacaaa
open Go.RowKit

/-! wordhoard/speech.Print -/
def ac_speech_Print : AC := (.seq (.reg 0) (.seq (.seq (.reg 1) (.seq (.reg 2) (.cond (.tmp 8) (.seq (.reg 3) .ret) .skip))) (.seq (.reg 4) .ret)))
def S_speech_Print (a0 : AV) (Q : AV → AH → Prop) (H : AH) : Prop := (
 Rg 3 fun b =>
 Al (b + 0) (.bx 24) [a0] fun v1 =>
 RdS Try.prog (.ld 3 true) [v1] fun v5 =>
 Ca Try.prog (.fn (.func 21) [] []) [v5] fun v6 =>
 Pu Try.prog (.bin .neq 28) [v6, (.p (.int .i64 0))] fun v8 =>
 CdA v8
 (
 Rt Try.prog H.nx (.tup [(.p (.string { data := #[] })), v6]) Q
 ) (
 RdS Try.prog (.ld 3 true) [v1] fun v10 =>
 Ca Try.prog (.fn (.func 52) [] []) [v10] fun v11 =>
 Rt Try.prog H.nx (.tup [v11, (.p (.int .i64 0))]) Q
 )
 ) H
theorem eq_speech_Print (a0 : AV) (Q : AV → AH → Prop) (H : AH) : FnA Try.prog 12 (regsF Try.f20) ac_speech_Print [.tm 2, .tm 3] [a0] H Q = S_speech_Print a0 Q H := by kernel_rfl
theorem tri_speech_Print {a0 : AV} {H : AH} {Q : AV → AH → Prop} (h : S_speech_Print a0 Q H) : Tri Try.prog 20 [a0] H Q :=
  tri_of (Ms := [#[], #[], #[], #[], #[]]) mixed Try.func20 rfl (by kernel_rfl) (by kernel_rfl) rfl (of_decide_eq_true rfl : 1 ≤ 12) (by rw [eq_speech_Print a0 Q H]; exact h : FnA Try.prog 12 (regsF Try.f20) ac_speech_Print [.tm 2, .tm 3] [a0] H Q)

/-! wordhoard/speech.Read -/
def ac_speech_Read : AC := (.seq (.reg 0) (.seq (.reg 1) (.seq (.reg 2) (.seq (.seq (.reg 3) (.cond (.tmp 23) (.seq (.reg 4) .ret) .skip)) (.seq (.seq (.reg 5) (.cond (.tmp 27) (.seq (.reg 6) .ret) .skip)) (.seq (.reg 7) .ret))))))
def S_speech_Read (a0 : AV) (Q : AV → AH → Prop) (H : AH) : Prop := (
 Rg 2 fun b =>
 Al (b + 0) (.nw 24 [.p (.int .i64 0), .p (.int .i64 0), .p (.slice none 0 0)]) [] fun v2 =>
 Rg 4 fun b_3 =>
 Pu Try.prog (.bld [.p (.string ⟨#[]⟩)] [(0, 1)]) [a0] fun v8 =>
 Al (b_3 + 2) (.bx 82) [v8] fun v9 =>
 Rg 8 fun b_6 =>
 Ca Try.prog (.fn (.func 55) [] []) [v9] fun v12 =>
 Pu Try.prog (.ext 0) [v12] fun v13 =>
 Pu Try.prog (.ext 1) [v12] fun v14 =>
 Al (b_6 + 5) (.nw 24 [.p (.int .i64 0), .p (.int .i64 0), .p (.slice none 0 0)]) [] fun v5 =>
 WrS Try.prog (b_6 + 6) (.st 3) [v5, v13] fun _ =>
 Pu Try.prog (.un .not) [v14] fun v16 =>
 Gd v16 false (fun k => k v9) fun v18 =>
 Gd v16 false (fun k_16 => Pu Try.prog .nilck [v18] k_16) fun v19 =>
 Gd v16 false (fun k_18 => Pu Try.prog (.addOff 0) [v19] k_18) fun v20 =>
 Gd v16 false (fun k_20 => RdS Try.prog (.ld 1 false) [v20] k_20) fun v21 =>
 Gd v16 false (fun k_22 => Pu Try.prog (.bin .neq 9) [v21, (.p (.string { data := #[] }))] k_22) fun v22 =>
 Pu Try.prog .pick [v16, (.p (.bool true)), v22] fun v23 =>
 CdA v23
 (
 Rg 3 fun b_24 =>
 Pu Try.prog (.bld [.p (.int .i64 0), .p (.int .i64 0), .p (.slice none 0 0)] []) [] fun v24 =>
 WrS Try.prog (b_24 + 1) (.st 3) [v2, v24] fun _ =>
 RdS Try.prog (.ld 3 true) [v2] fun r2 =>
 Rt Try.prog H.nx (.tup [r2, (.p (.int .i64 1))]) Q
 ) (
 RdS Try.prog (.ld 3 true) [v5] fun v25 =>
 Ca Try.prog (.fn (.func 53) [] []) [v25, (.p (.int .i64 15))] fun v26 =>
 Pu Try.prog (.bin .gtr 3) [v26, (.p (.int .i64 15))] fun v27 =>
 CdA v27
 (
 Rg 3 fun b_31 =>
 Pu Try.prog (.bld [.p (.int .i64 0), .p (.int .i64 0), .p (.slice none 0 0)] []) [] fun v28 =>
 WrS Try.prog (b_31 + 1) (.st 3) [v2, v28] fun _ =>
 RdS Try.prog (.ld 3 true) [v2] fun r2_34 =>
 Rt Try.prog H.nx (.tup [r2_34, (.p (.int .i64 7))]) Q
 ) (
 Rg 3 fun b_35 =>
 RdS Try.prog (.ld 3 true) [v5] fun v29 =>
 WrS Try.prog (b_35 + 1) (.st 3) [v2, v29] fun _ =>
 RdS Try.prog (.ld 3 true) [v2] fun r2_38 =>
 Rt Try.prog H.nx (.tup [r2_38, (.p (.int .i64 0))]) Q
 )
 )
 ) H
theorem eq_speech_Read (a0 : AV) (Q : AV → AH → Prop) (H : AH) : FnA Try.prog 30 (regsF Try.f23) ac_speech_Read [.ce 2 24, .tm 3] [a0] H Q = S_speech_Read a0 Q H := by kernel_rfl
theorem tri_speech_Read {a0 : AV} {H : AH} {Q : AV → AH → Prop} (h : S_speech_Read a0 Q H) : Tri Try.prog 23 [a0] H Q :=
  tri_of (Ms := [#[], #[], #[], #[], #[], #[], #[], #[]]) mixed Try.func23 rfl (by kernel_rfl) (by kernel_rfl) rfl (of_decide_eq_true rfl : 1 ≤ 30) (by rw [eq_speech_Read a0 Q H]; exact h : FnA Try.prog 30 (regsF Try.f23) ac_speech_Read [.ce 2 24, .tm 3] [a0] H Q)

/-! (*wordhoard/speech.reader).part -/
def ac_reader_part : AC := (.seq (.reg 0) (.seq (.reg 1) (.seq (.seq (.reg 2) (.cond (.tmp 16) (.seq (.reg 3) .ret) .skip)) (.seq (.seq (.reg 4) (.cond (.tmp 22) (.seq (.reg 5) .ret) .skip)) (.seq (.reg 6) (.seq (.seq (.reg 7) (.cond (.tmp 30) (.seq (.reg 8) .ret) .skip)) (.seq (.reg 9) (.cut [] [(3, 4), (33, 41)] (.seq (.reg 10) (.block 0 (.seq (.reg 11) (.cond (.tmp 36) .skip (.seq (.reg 12) (.cond (.tmp 38) (.reg 13) (.seq (.reg 14) .ret))))))) (.seq (.reg 15) (.seq (.reg 16) (.seq (.fk 17 (.mark 4 (.leaf [0, 1, 2, 3, 4, 5, 6, 7, 8] #[0, 0, 2, 6, 14, 30, 62, 31, 255]))) .ret)))))))))))
def S_reader_part_K1 (a0 : AV) (Q : AV → AH → Prop) (H : AH) (v2 : AV) (v5 : AV) (v7 : AV) (_vs : List AV) : AH → Prop :=
 Rg 8 fun b_38 =>
 Ca Try.prog (.fn (.func 55) [] []) [a0] fun v43 =>
 Pu Try.prog (.ext 0) [v43] fun v44 =>
 Pu Try.prog (.ext 1) [v43] fun v45 =>
 Al (b_38 + 5) (.nw 24 [.p (.int .i64 0), .p (.int .i64 0), .p (.slice none 0 0)]) [] fun v8 =>
 WrS Try.prog (b_38 + 6) (.st 3) [v8, v44] fun _ =>
 Rg 5 fun b_44 =>
 RdS Try.prog (.ld 3 true) [v5] fun v46 =>
 RdS Try.prog (.ld 3 true) [v8] fun v47 =>
 Al (b_44 + 2) (.bs 24 3 2 [.p (.int .i64 0), .p (.int .i64 0), .p (.slice none 0 0)] [(0, 3), (3, 3)]) [v46, v47] fun v48 =>
 Pu Try.prog (.addOff 2) [v7] fun v49 =>
 WrS Try.prog (b_44 + 4) (.st 1) [v49, v48] fun _ =>
 Rg 9 fun b_50 =>
 VwD fun V =>
 Rd Try.prog V (.ld 3 true) [v7] fun v50 =>
 GdV v45 true (fun k_54 => k_54 a0 V) V fun v53 V_55 =>
 GdV v45 true (fun k_57 => CaK Try.prog V_55 (.fn (.func 71) [] []) [v53] (fun a => k_57 a V_55)) V_55 fun v54 V_58 =>
 GdV v45 true (fun k_60 => Pu Try.prog (.bin .eql 5) [v54, (.p (.int .u8 41))] (fun a => k_60 a V_58)) V_58 fun v55 _ =>
 Pu Try.prog .pick [v45, v55, (.p (.bool false))] fun v56 =>
 Wr Try.prog (b_50 + 7) (.st 3) [v2, v50] fun _ _ =>
 RdS Try.prog (.ld 3 true) [v2] fun r2_65 =>
 Rt Try.prog H.nx (.tup [r2_65, v56]) Q
def S_reader_part_C2 (a0 : AV) (Q : AV → AH → Prop) (H : AH) (v2 : AV) : AH → Prop :=
 Rg 8 fun b_21 =>
 Ca Try.prog (.fn (.func 55) [] []) [a0] fun v26 =>
 Pu Try.prog (.ext 0) [v26] fun v27 =>
 Pu Try.prog (.ext 1) [v26] fun v28 =>
 Al (b_21 + 5) (.nw 24 [.p (.int .i64 0), .p (.int .i64 0), .p (.slice none 0 0)]) [] fun v5 =>
 WrS Try.prog (b_21 + 6) (.st 3) [v5, v27] fun _ =>
 Pu Try.prog (.un .not) [v28] fun v30 =>
 CdA v30
 (
 Rg 3 fun b_28 =>
 Pu Try.prog (.bld [.p (.int .i64 0), .p (.int .i64 0), .p (.slice none 0 0)] []) [] fun v31 =>
 WrS Try.prog (b_28 + 1) (.st 3) [v2, v31] fun _ =>
 RdS Try.prog (.ld 3 true) [v2] fun r2_31 =>
 Rt Try.prog H.nx (.tup [r2_31, (.p (.bool false))]) Q
 ) (
 Rg 3 fun b_32 =>
 Pu Try.prog (.bld [.p (.int .i64 0), .p (.int .i64 0), .p (.slice none 0 0)] [(0, 1)]) [(.p (.int .i64 2))] fun v32 =>
 Al (b_32 + 1) (.nw 24 [.p (.int .i64 0), .p (.int .i64 0), .p (.slice none 0 0)]) [] fun v7 =>
 WrS Try.prog (b_32 + 2) (.st 3) [v7, v32] fun _ =>
 CutA Try.prog 0 (fun k_36 =>
 Ca Try.prog (.fn (.func 71) [] []) [a0] fun v34 =>
 Pu Try.prog (.bin .eql 5) [v34, (.p (.int .u8 47))] fun v37 =>
 CdA v37
 (
 k_36 []
 ) (
 Pu Try.prog (.bin .eql 5) [v34, (.p (.int .u8 92))] fun v39 =>
 CdA v39
 (
 Rg 2 fun b_69 =>
 Pu Try.prog (.addOff 0) [v7] fun v40 =>
 WrS Try.prog (b_69 + 1) (.st 1) [v40, (.p (.int .i64 3))] fun _ =>
 k_36 []
 ) (
 Rg 3 fun b_72 =>
 Pu Try.prog (.bld [.p (.int .i64 0), .p (.int .i64 0), .p (.slice none 0 0)] []) [] fun v35 =>
 WrS Try.prog (b_72 + 1) (.st 3) [v2, v35] fun _ =>
 RdS Try.prog (.ld 3 true) [v2] fun r2_75 =>
 Rt Try.prog H.nx (.tup [r2_75, (.p (.bool false))]) Q
 )
 )
 ) (S_reader_part_K1 a0 Q H v2 v5 v7)
 )
def S_reader_part (a0 : AV) (Q : AV → AH → Prop) (H : AH) : Prop := (
 Rg 2 fun b =>
 Al (b + 0) (.nw 24 [.p (.int .i64 0), .p (.int .i64 0), .p (.slice none 0 0)]) [] fun v2 =>
 Ca Try.prog (.fn (.func 71) [] []) [a0] fun v10 =>
 Pu Try.prog (.bin .geq 5) [v10, (.p (.int .u8 97))] fun v12 =>
 Gd v12 true (fun k => k v10) fun v14 =>
 Gd v12 true (fun k_8 => Pu Try.prog (.bin .leq 5) [v14, (.p (.int .u8 106))] k_8) fun v15 =>
 Pu Try.prog .pick [v12, v15, (.p (.bool false))] fun v16 =>
 CdA v16
 (
 Rg 6 fun b_10 =>
 Pu Try.prog (.bin .sub 5) [v10, (.p (.int .u8 97))] fun v18 =>
 Pu Try.prog (.conv .i64) [v18] fun v19 =>
 Pu Try.prog (.bld [.p (.int .i64 0), .p (.int .i64 0), .p (.slice none 0 0)] [(0, 1), (1, 1)]) [(.p (.int .i64 1)), v19] fun v20 =>
 WrS Try.prog (b_10 + 4) (.st 3) [v2, v20] fun _ =>
 RdS Try.prog (.ld 3 true) [v2] fun r2 =>
 Rt Try.prog H.nx (.tup [r2, (.p (.bool true))]) Q
 ) (
 Pu Try.prog (.bin .neq 5) [v10, (.p (.int .u8 40))] fun v22 =>
 CdA v22
 (
 Rg 3 fun b_17 =>
 Pu Try.prog (.bld [.p (.int .i64 0), .p (.int .i64 0), .p (.slice none 0 0)] []) [] fun v23 =>
 WrS Try.prog (b_17 + 1) (.st 3) [v2, v23] fun _ =>
 RdS Try.prog (.ld 3 true) [v2] fun r2_20 =>
 Rt Try.prog H.nx (.tup [r2_20, (.p (.bool false))]) Q
 ) (S_reader_part_C2 a0 Q H v2)
 )
 ) H
theorem eq_reader_part (a0 : AV) (Q : AV → AH → Prop) (H : AH) : FnA Try.prog 57 (regsF Try.f55) ac_reader_part [.ce 2 24, .tm 3] [a0] H Q = S_reader_part a0 Q H := by kernel_rfl
theorem tri_reader_part {a0 : AV} {H : AH} {Q : AV → AH → Prop} (h : S_reader_part a0 Q H) : Tri Try.prog 55 [a0] H Q :=
  tri_of (Ms := [#[], #[], #[], #[], #[], #[], #[], #[], #[], #[], #[], #[], #[], #[], #[], #[], #[], #[0, 0, 2, 6, 14, 30, 62, 31, 255]]) mixed Try.func55 rfl (by kernel_rfl) (by kernel_rfl) rfl (of_decide_eq_true rfl : 1 ≤ 57) (by rw [eq_reader_part a0 Q H]; exact h : FnA Try.prog 57 (regsF Try.f55) ac_reader_part [.ce 2 24, .tm 3] [a0] H Q)

/-! (*wordhoard/speech.reader).next -/
def ac_reader_next : AC := (.seq (.reg 0) (.seq (.seq (.reg 1) (.cond (.tmp 8) (.seq (.reg 2) .ret) .skip)) (.seq (.reg 3) (.seq (.reg 4) (.seq (.reg 5) .ret)))))
def S_reader_next (a0 : AV) (Q : AV → AH → Prop) (H : AH) : Prop := (
 Pu Try.prog .nilck [a0] fun v5 =>
 Pu Try.prog (.addOff 0) [v5] fun v6 =>
 RdS Try.prog (.ld 1 false) [v6] fun v7 =>
 Pu Try.prog (.bin .eql 9) [v7, (.p (.string { data := #[] }))] fun v8 =>
 CdA v8
 (
 Rt Try.prog H.nx (.p (.int .u8 0)) Q
 ) (
 Pu Try.prog .nilck [a0] fun v10 =>
 Pu Try.prog (.addOff 0) [v10] fun v11 =>
 RdS Try.prog (.ld 1 false) [v11] fun v12 =>
 Pu Try.prog .sidx [v12, (.p (.int .i64 0))] fun v13 =>
 Rg 9 fun b =>
 Pu Try.prog .nilck [a0] fun v16 =>
 Pu Try.prog (.addOff 0) [v16] fun v17 =>
 RdS Try.prog (.ld 1 false) [v17] fun v18 =>
 Pu Try.prog (.ssl true false) [v18, (.p (.int .i64 1))] fun v19 =>
 Pu Try.prog .nilck [a0] fun v20 =>
 Pu Try.prog (.addOff 0) [v20] fun v21 =>
 WrS Try.prog (b + 8) (.st 1) [v21, v19] fun _ =>
 Rt Try.prog H.nx v13 Q
 )
 ) H
theorem eq_reader_next (a0 : AV) (Q : AV → AH → Prop) (H : AH) : FnA Try.prog 23 (regsF Try.f71) ac_reader_next [.tm 2] [a0] H Q = S_reader_next a0 Q H := by kernel_rfl
theorem tri_reader_next {a0 : AV} {H : AH} {Q : AV → AH → Prop} (h : S_reader_next a0 Q H) : Tri Try.prog 71 [a0] H Q :=
  tri_of (Ms := [#[], #[], #[], #[], #[], #[]]) mixed Try.func71 rfl (by kernel_rfl) (by kernel_rfl) rfl (of_decide_eq_true rfl : 1 ≤ 23) (by rw [eq_reader_next a0 Q H]; exact h : FnA Try.prog 23 (regsF Try.f71) ac_reader_next [.tm 2] [a0] H Q)

/-! wordhoard/wordhoardref.PartText -/
def ac_wordhoardref_PartText : AC := (.seq (.reg 0) (.seq (.seq (.reg 1) (.cond (.tmp 6) (.seq (.reg 2) .ret) .skip)) (.seq (.reg 3) (.cut [3] [(13, 16)] (.seq (.reg 4) (.cond (.tmp 15) (.reg 5) .skip)) (.seq (.reg 6) .ret)))))
def S_wordhoardref_PartText_K1 (Q : AV → AH → Prop) (H : AH) (v1 : AV) (vs : List AV) : AH → Prop :=
 Vw fun V =>
 Pu Try.prog (.addOff 2) [v1] fun v16 =>
 Rd Try.prog V (.ld 1 false) [v16] fun v17 =>
 Pu Try.prog (.idx 3) [v17, (.p (.int .i64 0))] fun v18 =>
 Rd Try.prog V (.ld 3 true) [v18] fun v19 =>
 CaV Try.prog V (.fn (.func 22) [] []) [v19] fun v20 =>
 Pu Try.prog (.bin .add 9) [(.p (.string { data := #[40] })), v20] fun v21 =>
 Pu Try.prog (.bin .add 9) [v21, (vs.getD 0 .any)] fun v23 =>
 Pu Try.prog (.addOff 2) [v1] fun v24 =>
 Rd Try.prog V (.ld 1 false) [v24] fun v25 =>
 Pu Try.prog (.idx 3) [v25, (.p (.int .i64 1))] fun v26 =>
 Rd Try.prog V (.ld 3 true) [v26] fun v27 =>
 CaV Try.prog V (.fn (.func 22) [] []) [v27] fun v28 =>
 Pu Try.prog (.bin .add 9) [v23, v28] fun v29 =>
 Pu Try.prog (.bin .add 9) [v29, (.p (.string { data := #[41] }))] fun v30 =>
 Rt Try.prog H.nx v30 Q
def S_wordhoardref_PartText (a0 : AV) (Q : AV → AH → Prop) (H : AH) : Prop := (
 Rg 2 fun b =>
 Al (b + 0) (.bx 24) [a0] fun v1 =>
 Pu Try.prog (.addOff 0) [v1] fun v4 =>
 RdS Try.prog (.ld 1 false) [v4] fun v5 =>
 Pu Try.prog (.bin .eql 3) [v5, (.p (.int .i64 1))] fun v6 =>
 CdA v6
 (
 Rg 7 fun b_6 =>
 Pu Try.prog (.addOff 1) [v1] fun v7 =>
 RdS Try.prog (.ld 1 false) [v7] fun v8 =>
 Pu Try.prog (.bin .add 3) [(.p (.int .i64 97)), v8] fun v9 =>
 Pu Try.prog (.conv .u8) [v9] fun v10 =>
 Al (b_6 + 4) (.bs 5 1 1 [.p (.int .u8 0)] [(0, 1)]) [v10] fun v11 =>
 RdS Try.prog .bstr [v11] fun v12 =>
 Rt Try.prog H.nx v12 Q
 ) (
 CutA Try.prog 1 (fun k =>
 Pu Try.prog (.addOff 0) [v1] fun v13 =>
 RdS Try.prog (.ld 1 false) [v13] fun v14 =>
 Pu Try.prog (.bin .eql 3) [v14, (.p (.int .i64 3))] fun v15 =>
 CdA v15
 (
 k [(.p (.string { data := #[92] }))]
 ) (
 k [(.p (.string { data := #[47] }))]
 )
 ) (S_wordhoardref_PartText_K1 Q H v1)
 )
 ) H
theorem eq_wordhoardref_PartText (a0 : AV) (Q : AV → AH → Prop) (H : AH) : FnA Try.prog 31 (regsF Try.f22) ac_wordhoardref_PartText [.tm 2] [a0] H Q = S_wordhoardref_PartText a0 Q H := by kernel_rfl
theorem tri_wordhoardref_PartText {a0 : AV} {H : AH} {Q : AV → AH → Prop} (h : S_wordhoardref_PartText a0 Q H) : Tri Try.prog 22 [a0] H Q :=
  tri_of (Ms := [#[], #[], #[], #[], #[], #[], #[0, 1, 3, 7, 15, 31, 0, 127, 0, 256, 768, 1792, 3871, 8191, 16383, 32767]]) mixed Try.func22 rfl (by kernel_rfl) (by kernel_rfl) rfl (of_decide_eq_true rfl : 1 ≤ 31) (by rw [eq_wordhoardref_PartText a0 Q H]; exact h : FnA Try.prog 31 (regsF Try.f22) ac_wordhoardref_PartText [.tm 2] [a0] H Q)

/-! wordhoard/wordhoardref.ReadPart -/
def ac_wordhoardref_ReadPart : AC := (.seq (.reg 0) (.seq (.reg 1) (.seq (.seq (.reg 2) (.cond (.tmp 14) (.seq (.reg 3) .ret) .skip)) (.seq (.seq (.reg 4) (.cond (.tmp 18) (.seq (.reg 5) .ret) .skip)) (.seq (.reg 6) .ret)))))
def S_wordhoardref_ReadPart (a0 : AV) (Q : AV → AH → Prop) (H : AH) : Prop := (
 Rg 2 fun b =>
 Al (b + 0) (.nw 24 [.p (.int .i64 0), .p (.int .i64 0), .p (.slice none 0 0)]) [] fun v2 =>
 Rg 8 fun b_3 =>
 Ca Try.prog (.fn (.func 56) [] []) [a0, (.p (.int .i64 0))] fun v8 =>
 Pu Try.prog (.ext 0) [v8] fun v9 =>
 Pu Try.prog (.ext 1) [v8] fun v10 =>
 Al (b_3 + 5) (.nw 24 [.p (.int .i64 0), .p (.int .i64 0), .p (.slice none 0 0)]) [] fun v4 =>
 WrS Try.prog (b_3 + 6) (.st 3) [v4, v9] fun _ =>
 Pu Try.prog .slen [a0] fun v13 =>
 Pu Try.prog (.bin .neq 3) [v10, v13] fun v14 =>
 CdA v14
 (
 Rg 3 fun b_11 =>
 Pu Try.prog (.bld [.p (.int .i64 0), .p (.int .i64 0), .p (.slice none 0 0)] []) [] fun v15 =>
 WrS Try.prog (b_11 + 1) (.st 3) [v2, v15] fun _ =>
 RdS Try.prog (.ld 3 true) [v2] fun r2 =>
 Rt Try.prog H.nx (.tup [r2, (.p (.int .i64 1))]) Q
 ) (
 RdS Try.prog (.ld 3 true) [v4] fun v16 =>
 Ca Try.prog (.fn (.func 50) [] []) [v16, (.p (.int .i64 15))] fun v17 =>
 Pu Try.prog (.bin .gtr 3) [v17, (.p (.int .i64 15))] fun v18 =>
 CdA v18
 (
 Rg 3 fun b_18 =>
 Pu Try.prog (.bld [.p (.int .i64 0), .p (.int .i64 0), .p (.slice none 0 0)] []) [] fun v19 =>
 WrS Try.prog (b_18 + 1) (.st 3) [v2, v19] fun _ =>
 RdS Try.prog (.ld 3 true) [v2] fun r2_21 =>
 Rt Try.prog H.nx (.tup [r2_21, (.p (.int .i64 7))]) Q
 ) (
 Rg 3 fun b_22 =>
 RdS Try.prog (.ld 3 true) [v4] fun v20 =>
 WrS Try.prog (b_22 + 1) (.st 3) [v2, v20] fun _ =>
 RdS Try.prog (.ld 3 true) [v2] fun r2_25 =>
 Rt Try.prog H.nx (.tup [r2_25, (.p (.int .i64 0))]) Q
 )
 )
 ) H
theorem eq_wordhoardref_ReadPart (a0 : AV) (Q : AV → AH → Prop) (H : AH) : FnA Try.prog 21 (regsF Try.f24) ac_wordhoardref_ReadPart [.ce 2 24, .tm 3] [a0] H Q = S_wordhoardref_ReadPart a0 Q H := by kernel_rfl
theorem tri_wordhoardref_ReadPart {a0 : AV} {H : AH} {Q : AV → AH → Prop} (h : S_wordhoardref_ReadPart a0 Q H) : Tri Try.prog 24 [a0] H Q :=
  tri_of (Ms := [#[], #[], #[], #[], #[], #[], #[]]) mixed Try.func24 rfl (by kernel_rfl) (by kernel_rfl) rfl (of_decide_eq_true rfl : 1 ≤ 21) (by rw [eq_wordhoardref_ReadPart a0 Q H]; exact h : FnA Try.prog 21 (regsF Try.f24) ac_wordhoardref_ReadPart [.ce 2 24, .tm 3] [a0] H Q)

/-! wordhoard/wordhoardref.partAt -/
def ac_wordhoardref_partAt : AC := (.seq (.reg 0) (.seq (.seq (.reg 1) (.cond (.tmp 18) (.seq (.reg 2) .ret) .skip)) (.seq (.seq (.reg 3) (.cond (.tmp 29) (.seq (.reg 4) .ret) .skip)) (.seq (.seq (.reg 5) (.cond (.tmp 41) (.seq (.reg 6) .ret) .skip)) (.seq (.reg 7) (.seq (.seq (.reg 8) (.cond (.tmp 69) (.seq (.reg 9) .ret) .skip)) (.seq (.reg 10) (.seq (.seq (.reg 11) (.cond (.tmp 91) (.seq (.reg 12) .ret) .skip)) (.seq (.reg 13) (.seq (.seq (.reg 14) (.cond (.tmp 96) (.reg 15) .skip)) (.seq (.reg 16) .ret)))))))))))
def S_wordhoardref_partAt_C1 (a0 : AV) (Q : AV → AH → Prop) (H : AH) (v4 : AV) (v49 : AV) (v6 : AV) (v77 : AV) (v8 : AV) : AH → Prop :=
 Pu Try.prog .sidx [a0, v49] fun v95 =>
 Pu Try.prog (.bin .eql 5) [v95, (.p (.int .u8 92))] fun v96 =>
 CdA v96
 (
 Rg 9 fun b_116 =>
 RdS Try.prog (.ld 3 true) [v6] fun v98 =>
 RdS Try.prog (.ld 3 true) [v8] fun v99 =>
 Al (b_116 + 3) (.bs 24 3 2 [.p (.int .i64 0), .p (.int .i64 0), .p (.slice none 0 0)] [(0, 3), (3, 3)]) [v98, v99] fun v100 =>
 Pu Try.prog (.bld [.p (.int .i64 0), .p (.int .i64 0), .p (.slice none 0 0)] [(0, 1), (2, 1)]) [(.p (.int .i64 3)), v100] fun v101 =>
 Pu Try.prog (.bin .add 3) [v77, (.p (.int .i64 1))] fun v103 =>
 WrS Try.prog (b_116 + 7) (.st 3) [v4, v101] fun _ =>
 RdS Try.prog (.ld 3 true) [v4] fun r4_123 =>
 Rt Try.prog H.nx (.tup [r4_123, v103]) Q
 ) (
 Rg 9 fun b_124 =>
 RdS Try.prog (.ld 3 true) [v6] fun v98_125 =>
 RdS Try.prog (.ld 3 true) [v8] fun v99_126 =>
 Al (b_124 + 3) (.bs 24 3 2 [.p (.int .i64 0), .p (.int .i64 0), .p (.slice none 0 0)] [(0, 3), (3, 3)]) [v98_125, v99_126] fun v100_127 =>
 Pu Try.prog (.bld [.p (.int .i64 0), .p (.int .i64 0), .p (.slice none 0 0)] [(0, 1), (2, 1)]) [(.p (.int .i64 2)), v100_127] fun v101_128 =>
 Pu Try.prog (.bin .add 3) [v77, (.p (.int .i64 1))] fun v103_129 =>
 WrS Try.prog (b_124 + 7) (.st 3) [v4, v101_128] fun _ =>
 RdS Try.prog (.ld 3 true) [v4] fun r4_131 =>
 Rt Try.prog H.nx (.tup [r4_131, v103_129]) Q
 )
def S_wordhoardref_partAt_C2 (a0 : AV) (Q : AV → AH → Prop) (H : AH) (v4 : AV) (v49 : AV) (v6 : AV) : AH → Prop :=
 Rg 10 fun b_84 =>
 Pu Try.prog (.bin .add 3) [v49, (.p (.int .i64 1))] fun v74 =>
 Ca Try.prog (.fn (.func 56) [] []) [a0, v74] fun v75 =>
 Pu Try.prog (.ext 0) [v75] fun v76 =>
 Pu Try.prog (.ext 1) [v75] fun v77 =>
 Al (b_84 + 7) (.nw 24 [.p (.int .i64 0), .p (.int .i64 0), .p (.slice none 0 0)]) [] fun v8 =>
 WrS Try.prog (b_84 + 8) (.st 3) [v8, v76] fun _ =>
 Pu Try.prog (.bin .lss 3) [v77, (.p (.int .i64 0))] fun v79 =>
 Gd v79 false (fun k_93 => k_93 v77) fun v81 =>
 Gd v79 false (fun k_95 => k_95 a0) fun v82 =>
 Gd v79 false (fun k_97 => Pu Try.prog .slen [v82] k_97) fun v83 =>
 Gd v79 false (fun k_99 => Pu Try.prog (.bin .geq 3) [v81, v83] k_99) fun v84 =>
 Pu Try.prog .pick [v79, (.p (.bool true)), v84] fun v85 =>
 Gd v85 false (fun k_102 => k_102 a0) fun v87 =>
 Gd v85 false (fun k_104 => k_104 v77) fun v88 =>
 Gd v85 false (fun k_106 => Pu Try.prog .sidx [v87, v88] k_106) fun v89 =>
 Gd v85 false (fun k_108 => Pu Try.prog (.bin .neq 5) [v89, (.p (.int .u8 41))] k_108) fun v90 =>
 Pu Try.prog .pick [v85, (.p (.bool true)), v90] fun v91 =>
 CdA v91
 (
 Rg 3 fun b_110 =>
 Pu Try.prog (.bld [.p (.int .i64 0), .p (.int .i64 0), .p (.slice none 0 0)] []) [] fun v92 =>
 WrS Try.prog (b_110 + 1) (.st 3) [v4, v92] fun _ =>
 RdS Try.prog (.ld 3 true) [v4] fun r4_113 =>
 Rt Try.prog H.nx (.tup [r4_113, (.p (.int .i64 (-1)))]) Q
 ) (S_wordhoardref_partAt_C1 a0 Q H v4 v49 v6 v77 v8)
def S_wordhoardref_partAt_C3 (a0 : AV) (a1 : AV) (Q : AV → AH → Prop) (H : AH) (v4 : AV) : AH → Prop :=
 Rg 10 fun b_42 =>
 Pu Try.prog (.bin .add 3) [a1, (.p (.int .i64 1))] fun v46 =>
 Ca Try.prog (.fn (.func 56) [] []) [a0, v46] fun v47 =>
 Pu Try.prog (.ext 0) [v47] fun v48 =>
 Pu Try.prog (.ext 1) [v47] fun v49 =>
 Al (b_42 + 7) (.nw 24 [.p (.int .i64 0), .p (.int .i64 0), .p (.slice none 0 0)]) [] fun v6 =>
 WrS Try.prog (b_42 + 8) (.st 3) [v6, v48] fun _ =>
 Pu Try.prog (.bin .lss 3) [v49, (.p (.int .i64 0))] fun v51 =>
 Gd v51 false (fun k_51 => k_51 v49) fun v53 =>
 Gd v51 false (fun k_53 => k_53 a0) fun v54 =>
 Gd v51 false (fun k_55 => Pu Try.prog .slen [v54] k_55) fun v55 =>
 Gd v51 false (fun k_57 => Pu Try.prog (.bin .geq 3) [v53, v55] k_57) fun v56 =>
 Pu Try.prog .pick [v51, (.p (.bool true)), v56] fun v57 =>
 Gd v57 false (fun k_60 => k_60 a0) fun v59 =>
 Gd v57 false (fun k_62 => k_62 v49) fun v60 =>
 Gd v57 false (fun k_64 => Pu Try.prog .sidx [v59, v60] k_64) fun v61 =>
 Gd v57 false (fun k_66 => Pu Try.prog (.bin .neq 5) [v61, (.p (.int .u8 47))] k_66) fun v62 =>
 Gd v57 false (fun k_68 => k_68 v62) fun v63 =>
 Gd v63 true (fun k_70 => k_70 a0) fun v64 =>
 Gd v63 true (fun k_72 => k_72 v49) fun v65 =>
 Gd v63 true (fun k_74 => Pu Try.prog .sidx [v64, v65] k_74) fun v66 =>
 Gd v63 true (fun k_76 => Pu Try.prog (.bin .neq 5) [v66, (.p (.int .u8 92))] k_76) fun v67 =>
 Gd v57 false (fun k_78 => Pu Try.prog .pick [v63, v67, (.p (.bool false))] k_78) fun v68 =>
 Pu Try.prog .pick [v57, (.p (.bool true)), v68] fun v69 =>
 CdA v69
 (
 Rg 3 fun b_80 =>
 Pu Try.prog (.bld [.p (.int .i64 0), .p (.int .i64 0), .p (.slice none 0 0)] []) [] fun v70 =>
 WrS Try.prog (b_80 + 1) (.st 3) [v4, v70] fun _ =>
 RdS Try.prog (.ld 3 true) [v4] fun r4_83 =>
 Rt Try.prog H.nx (.tup [r4_83, (.p (.int .i64 (-1)))]) Q
 ) (S_wordhoardref_partAt_C2 a0 Q H v4 v49 v6)
def S_wordhoardref_partAt_C4 (a0 : AV) (a1 : AV) (Q : AV → AH → Prop) (H : AH) (v4 : AV) : AH → Prop :=
 Pu Try.prog .sidx [a0, a1] fun v22 =>
 Pu Try.prog (.bin .geq 5) [v22, (.p (.int .u8 97))] fun v23 =>
 Gd v23 true (fun k_20 => k_20 a0) fun v25 =>
 Gd v23 true (fun k_22 => k_22 a1) fun v26 =>
 Gd v23 true (fun k_24 => Pu Try.prog .sidx [v25, v26] k_24) fun v27 =>
 Gd v23 true (fun k_26 => Pu Try.prog (.bin .leq 5) [v27, (.p (.int .u8 106))] k_26) fun v28 =>
 Pu Try.prog .pick [v23, v28, (.p (.bool false))] fun v29 =>
 CdA v29
 (
 Rg 10 fun b_28 =>
 Pu Try.prog .sidx [a0, a1] fun v32 =>
 Pu Try.prog (.conv .i64) [v32] fun v33 =>
 Pu Try.prog (.bin .sub 3) [v33, (.p (.int .i64 97))] fun v34 =>
 Pu Try.prog (.bld [.p (.int .i64 0), .p (.int .i64 0), .p (.slice none 0 0)] [(0, 1), (1, 1)]) [(.p (.int .i64 1)), v34] fun v35 =>
 Pu Try.prog (.bin .add 3) [a1, (.p (.int .i64 1))] fun v37 =>
 WrS Try.prog (b_28 + 8) (.st 3) [v4, v35] fun _ =>
 RdS Try.prog (.ld 3 true) [v4] fun r4_35 =>
 Rt Try.prog H.nx (.tup [r4_35, v37]) Q
 ) (
 Pu Try.prog .sidx [a0, a1] fun v40 =>
 Pu Try.prog (.bin .neq 5) [v40, (.p (.int .u8 40))] fun v41 =>
 CdA v41
 (
 Rg 3 fun b_38 =>
 Pu Try.prog (.bld [.p (.int .i64 0), .p (.int .i64 0), .p (.slice none 0 0)] []) [] fun v42 =>
 WrS Try.prog (b_38 + 1) (.st 3) [v4, v42] fun _ =>
 RdS Try.prog (.ld 3 true) [v4] fun r4_41 =>
 Rt Try.prog H.nx (.tup [r4_41, (.p (.int .i64 (-1)))]) Q
 ) (S_wordhoardref_partAt_C3 a0 a1 Q H v4)
 )
def S_wordhoardref_partAt (a0 a1 : AV) (Q : AV → AH → Prop) (H : AH) : Prop := (
 Rg 2 fun b =>
 Al (b + 0) (.nw 24 [.p (.int .i64 0), .p (.int .i64 0), .p (.slice none 0 0)]) [] fun v4 =>
 Pu Try.prog (.bin .lss 3) [a1, (.p (.int .i64 0))] fun v12 =>
 Gd v12 false (fun k => k a1) fun v14 =>
 Gd v12 false (fun k_7 => k_7 a0) fun v15 =>
 Gd v12 false (fun k_9 => Pu Try.prog .slen [v15] k_9) fun v16 =>
 Gd v12 false (fun k_11 => Pu Try.prog (.bin .geq 3) [v14, v16] k_11) fun v17 =>
 Pu Try.prog .pick [v12, (.p (.bool true)), v17] fun v18 =>
 CdA v18
 (
 Rg 3 fun b_13 =>
 Pu Try.prog (.bld [.p (.int .i64 0), .p (.int .i64 0), .p (.slice none 0 0)] []) [] fun v19 =>
 WrS Try.prog (b_13 + 1) (.st 3) [v4, v19] fun _ =>
 RdS Try.prog (.ld 3 true) [v4] fun r4 =>
 Rt Try.prog H.nx (.tup [r4, (.p (.int .i64 (-1)))]) Q
 ) (S_wordhoardref_partAt_C4 a0 a1 Q H v4)
 ) H
theorem eq_wordhoardref_partAt (a0 a1 : AV) (Q : AV → AH → Prop) (H : AH) : FnA Try.prog 104 (regsF Try.f56) ac_wordhoardref_partAt [.ce 4 24, .tm 5] [a0, a1] H Q = S_wordhoardref_partAt a0 a1 Q H := by kernel_rfl
theorem tri_wordhoardref_partAt {a0 a1 : AV} {H : AH} {Q : AV → AH → Prop} (h : S_wordhoardref_partAt a0 a1 Q H) : Tri Try.prog 56 [a0, a1] H Q :=
  tri_of (Ms := [#[], #[], #[], #[], #[], #[], #[], #[], #[], #[], #[], #[], #[], #[], #[], #[], #[]]) mixed Try.func56 rfl (by kernel_rfl) (by kernel_rfl) rfl (of_decide_eq_true rfl : 2 ≤ 104) (by rw [eq_wordhoardref_partAt a0 a1 Q H]; exact h : FnA Try.prog 104 (regsF Try.f56) ac_wordhoardref_partAt [.ce 4 24, .tm 5] [a0, a1] H Q)

/-! wordhoard/wordhoardlaw.SpeechParts -/
def ac_wordhoardlaw_SpeechParts : AC := (.seq (.reg 0) (.seq (.reg 1) (.seq (.reg 2) (.seq (.seq (.reg 3) (.cond (.tmp 47) (.seq (.reg 4) .ret) .skip)) (.seq (.reg 5) (.seq (.reg 6) (.seq (.reg 7) .ret)))))))
def S_wordhoardlaw_SpeechParts (a0 a1 : AV) (Q : AV → AH → Prop) (H : AH) : Prop := (
 Rg 2 fun b =>
 Al (b + 0) (.bx 24) [a0] fun v2 =>
 RdS Try.prog (.ld 3 true) [v2] fun v10 =>
 Ca Try.prog (.fn (.func 19) [] []) [v10] fun v11 =>
 RdS Try.prog (.ld 3 true) [v2] fun v13 =>
 Ca Try.prog (.fn (.func 20) [] []) [v13] fun v14 =>
 Pu Try.prog (.ext 0) [v14] fun v15 =>
 Pu Try.prog (.ext 1) [v14] fun v16 =>
 Ca Try.prog (.fn (.func 11) [] []) [] fun v17 =>
 Pu Try.prog (.un .not) [v17] fun v18 =>
 Gd v18 false (fun k => RdS Try.prog (.ld 3 true) [v2] k) fun v20 =>
 Gd v18 false (fun k_14 => Ca Try.prog (.fn (.func 21) [] []) [v20] k_14) fun v21 =>
 Gd v18 false (fun k_16 => k_16 v11) fun v22 =>
 Gd v18 false (fun k_18 => Pu Try.prog (.bin .neq 28) [v21, v22] k_18) fun v23 =>
 Pu Try.prog .pick [v18, (.p (.bool true)), v23] fun v24 =>
 Gd v24 false (fun k_21 => k_21 v16) fun v26 =>
 Gd v24 false (fun k_23 => k_23 v11) fun v27 =>
 Gd v24 false (fun k_25 => Pu Try.prog (.bin .neq 28) [v26, v27] k_25) fun v28 =>
 Pu Try.prog .pick [v24, (.p (.bool true)), v28] fun v29 =>
 Gd v29 false (fun k_28 => k_28 v11) fun v31 =>
 Gd v29 false (fun k_30 => Pu Try.prog (.bin .eql 28) [v31, (.p (.int .i64 0))] k_30) fun v32 =>
 Gd v29 false (fun k_32 => k_32 v32) fun v33 =>
 Gd v33 true (fun k_34 => k_34 v15) fun v34 =>
 Gd v33 true (fun k_36 => RdS Try.prog (.ld 3 true) [v2] k_36) fun v35 =>
 Gd v33 true (fun k_38 => Ca Try.prog (.fn (.func 22) [] []) [v35] k_38) fun v36 =>
 Gd v33 true (fun k_40 => Pu Try.prog (.bin .neq 9) [v34, v36] k_40) fun v37 =>
 Gd v29 false (fun k_42 => Pu Try.prog .pick [v33, v37, (.p (.bool false))] k_42) fun v38 =>
 Pu Try.prog .pick [v29, (.p (.bool true)), v38] fun v39 =>
 Gd v39 false (fun k_45 => k_45 v11) fun v41 =>
 Gd v39 false (fun k_47 => Pu Try.prog (.bin .neq 28) [v41, (.p (.int .i64 0))] k_47) fun v42 =>
 Gd v39 false (fun k_49 => k_49 v42) fun v43 =>
 Gd v43 true (fun k_51 => k_51 v15) fun v44 =>
 Gd v43 true (fun k_53 => Pu Try.prog (.bin .neq 9) [v44, (.p (.string { data := #[] }))] k_53) fun v45 =>
 Gd v39 false (fun k_55 => Pu Try.prog .pick [v43, v45, (.p (.bool false))] k_55) fun v46 =>
 Pu Try.prog .pick [v39, (.p (.bool true)), v46] fun v47 =>
 CdA v47
 (
 Rt Try.prog H.nx (.p (.bool false)) Q
 ) (
 Rg 8 fun b_57 =>
 Ca Try.prog (.fn (.func 23) [] []) [a1] fun v50 =>
 Pu Try.prog (.ext 0) [v50] fun v51 =>
 Pu Try.prog (.ext 1) [v50] fun v52 =>
 Al (b_57 + 5) (.nw 24 [.p (.int .i64 0), .p (.int .i64 0), .p (.slice none 0 0)]) [] fun v8 =>
 WrS Try.prog (b_57 + 6) (.st 3) [v8, v51] fun _ =>
 Rg 8 fun b_63 =>
 Ca Try.prog (.fn (.func 24) [] []) [a1] fun v55 =>
 Pu Try.prog (.ext 0) [v55] fun v56 =>
 Pu Try.prog (.ext 1) [v55] fun v57 =>
 Al (b_63 + 5) (.nw 24 [.p (.int .i64 0), .p (.int .i64 0), .p (.slice none 0 0)]) [] fun v9 =>
 WrS Try.prog (b_63 + 6) (.st 3) [v9, v56] fun _ =>
 Pu Try.prog (.bin .eql 28) [v52, v57] fun v60 =>
 Gd v60 true (fun k_71 => RdS Try.prog (.ld 3 true) [v8] k_71) fun v62 =>
 Gd v60 true (fun k_73 => RdS Try.prog (.ld 3 true) [v9] k_73) fun v63 =>
 Gd v60 true (fun k_75 => Ca Try.prog (.fn (.func 25) [] []) [v62, v63] k_75) fun v64 =>
 Pu Try.prog .pick [v60, v64, (.p (.bool false))] fun v65 =>
 Rt Try.prog H.nx v65 Q
 )
 ) H
theorem eq_wordhoardlaw_SpeechParts (a0 a1 : AV) (Q : AV → AH → Prop) (H : AH) : FnA Try.prog 66 (regsF Try.f5) ac_wordhoardlaw_SpeechParts [.tm 4] [a0, a1] H Q = S_wordhoardlaw_SpeechParts a0 a1 Q H := by kernel_rfl
theorem tri_wordhoardlaw_SpeechParts {a0 a1 : AV} {H : AH} {Q : AV → AH → Prop} (h : S_wordhoardlaw_SpeechParts a0 a1 Q H) : Tri Try.prog 5 [a0, a1] H Q :=
  tri_of (Ms := [#[], #[], #[], #[], #[], #[], #[], #[]]) mixed Try.func5 rfl (by kernel_rfl) (by kernel_rfl) rfl (of_decide_eq_true rfl : 2 ≤ 66) (by rw [eq_wordhoardlaw_SpeechParts a0 a1 Q H]; exact h : FnA Try.prog 66 (regsF Try.f5) ac_wordhoardlaw_SpeechParts [.tm 4] [a0, a1] H Q)
end Go.Proofs.Ytpmnlikgldacaaa
