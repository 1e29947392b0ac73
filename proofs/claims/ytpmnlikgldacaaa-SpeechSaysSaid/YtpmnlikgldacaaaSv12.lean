/- Texts that the proof rests on, part 12: what each holds stands at its head. -/
import Derived.Test.YtpmnlikgldacaaaSv11
import Derived.Lib.Walk
import Derived.Lib.Builder
import Derived.Laws.Externs
import Derived.WalkKit

/- Parts of speech: copies; what a part gives and wants, weighed: both programs. -/
namespace Go.Proofs.Ytpmnlikgldacaaa
open Go.RowKit Go.Maps
section
variable {H X : AH} {p : Nat}
theorem le_rebase {a b : AO} (h : (H.put p a).le X) : (H.put p b).le (X.put p b) := fun j o hj => by
  by_cases e : j = p
  · subst e; rw [AH.get_put_self] at hj ⊢; exact hj
  · rw [AH.get_put_ne e] at hj ⊢; exact h j o (by rw [AH.get_put_ne e]; exact hj)
theorem le_base {b : AO} (h : H.le X) : (H.put p b).le (X.put p b) := fun j o hj => by
  by_cases e : j = p
  · subst e; rw [AH.get_put_self] at hj ⊢; exact hj
  · rw [AH.get_put_ne e] at hj ⊢; exact h j o hj
end
theorem rt_tupP {P : Program} {H H1 : AH} {p : Nat} {o : AO} {vs : List AV} {Q : AV → AH → Prop} (hw : WF (H.put p o)) (hle : (H.put p o).le H1) (hc : Clo H.nx vs) (hq : Q (.tup vs) (H.put p o)) : Rt P H.nx (.tup vs) Q H1 := rt_tup (H0 := H.put p o) hw hle hc hq
theorem Ty.cl (t : Ty) (B : Nat) : Clo B t.cs := by
  rw [Ty.cs_eq]; exact (by repeat (first | exact Cl.p _ | exact Cl.dsl _ _ | exact Cl.any | refine Cl.tup ?_ | refine Cl.agg ?_ | exact Clo.nil | refine Clo.cons ?_ ?_))
theorem copied_of {t : Ty} (h : ∀ H : AH, Tri Try.prog 65 [tE t.kids] H (fun r H' => H' = H ∧ r = tE t.kids)) (H : AH) : Tri Try.prog 66 [t.av] H (fun r H' => H' = H ∧ r = t.av) := tri_wf fun hw => tri_speech_copied (by
  unfold S_speech_copied
  simp (disch := first | omega | simp) [Ty.av, Ty.cs_g2, put_get_ne]
  refine ca_pure (by kernel_rfl) (h _) ?_
  simp (disch := first | omega | simp) [tE, Ty.cs_len, put_get_ne]
  refine rt_one hw (by repeat (first | with_reducible assumption | with_reducible exact AH.le.refl _ | with_reducible apply AH.le.up | (with_reducible refine AH.le.put hw ?_ ?_; · first | omega | (simp only [up_nx, put_nx, kill_nx]; done) | (simp only [up_nx, put_nx, kill_nx]; omega)) | (with_reducible refine AH.le.kill hw ?_ ?_; · first | omega | (simp only [up_nx, put_nx, kill_nx]; done) | (simp only [up_nx, put_nx, kill_nx]; omega)))) (.agg ?_) ⟨rfl, ?_⟩
  · rw [Ty.cs_eq]; exact (by repeat (first | exact Cl.p _ | exact Cl.dsl _ _ | exact Cl.any | refine Cl.tup ?_ | refine Cl.agg ?_ | exact Clo.nil | refine Clo.cons ?_ ?_))
  · rw [Ty.cs_eq]; rfl)
theorem c_copiedAllN (N : Nat) : ∀ ks : List Ty, Ty.sizes ks ≤ N → N ≤ 1000000 → ∀ H : AH, Tri Try.prog 65 [tE ks] H (fun r H' => H' = H ∧ r = tE ks) := by
  induction N with
  | zero =>
    intro ks hk _ H
    have : ks = [] := by
      cases ks with
      | nil => rfl
      | cons t r => rw [Ty.sizes] at hk; have := t.size_pos; omega
    subst this
    refine tri_wf fun hw => tri_speech_copiedAll ?_
    unfold S_speech_copiedAll tE
    simp (disch := first | omega | simp)
    refine loop_st (fun s : Unit => [.p (.slice none 0 0), iv 0]) (fun _ H' => H = H') (fun _ => 0) () (.refl (Nat.le_refl _)) rfl ?_
    rintro _ _ _ rfl k hk
    unfold S_speech_copiedAll_L1
    simp (disch := first | omega | simp) [iv]
    exact rt_sub hw (.refl _) (Nat.le_refl _) (Sub.nil 3 0 (Nat.zero_le _)) (by repeat (first | exact Cl.p _ | exact Cl.dsl _ _ | exact Cl.any | refine Cl.tup ?_ | refine Cl.agg ?_ | exact Clo.nil | refine Clo.cons ?_ ?_)) ⟨rfl, rfl⟩
  | succ N ih =>
    intro ks hks hN H
    have hlk : ks.length ≤ Ty.sizes ks := Ty.len_sizes ks
    have hml : maxLen = 9223372036854775807 := by decide
    refine tri_wf fun hw => tri_speech_copiedAll ?_
    unfold S_speech_copiedAll tE
    simp (disch := first | omega | simp)
    refine loop_st (fun s : AV × Nat => [s.1, iv s.2]) (fun s H' => H.le H' ∧ H.nx ≤ H'.nx ∧ s.2 ≤ ks.length ∧ Grows 24 3 H H' s.1 ((ks.take s.2).map Ty.cs)) (fun s => ks.length - s.2) (.p (.slice none 0 0), 0) (.refl (Nat.le_refl _)) ⟨.refl _, Nat.le_refl _, Nat.zero_le _, .nil _ _ _ _⟩ ?_
    rintro ⟨v, i⟩ H1 hn1 ⟨hle, hn, hi, hg⟩ k hk
    dsimp only at hi hg hk
    unfold S_speech_copiedAll_L1
    by_cases hil : i < ks.length
    · obtain ⟨x, hx⟩ : ∃ x, ks[i]? = some x := ⟨_, List.getElem?_eq_getElem hil⟩
      have hxg : ∀ h, ks[i]'h = x := fun h => (List.getElem?_eq_some_iff.1 hx).2
      have hiv := ivn (i := i) (by omega)
      have hxs := Ty.sizes_mem (List.mem_of_getElem? hx)
      have hxe := x.size_eq
      simp (disch := first | omega | simp) [iv, hil, hxg, Ty.cs_len, Ty.cs_take]
      refine ca_pure (by kernel_rfl) (copied_of (t := x) (fun H => ih x.kids (by omega) (by omega) H) _) ?_
      simp (disch := first | omega | simp) [Ty.av, Ty.cs_len, Ty.cs_take]
      refine Grows.app (ys := [x.cs]) hw (hg.kp (by repeat (first | with_reducible assumption | with_reducible exact Kp.refl _ | with_reducible apply Kp.up | (with_reducible refine Kp.put ?_ ?_; · first | omega | (simp only [up_nx, put_nx, kill_nx]; done) | (simp only [up_nx, put_nx, kill_nx]; omega)) | (with_reducible refine Kp.kill ?_ ?_; · first | omega | (simp only [up_nx, put_nx, kill_nx]; done) | (simp only [up_nx, put_nx, kill_nx]; omega))))) (by repeat (first | with_reducible assumption | with_reducible exact AH.le.refl _ | with_reducible apply AH.le.up | (with_reducible refine AH.le.put hw ?_ ?_; · first | omega | (simp only [up_nx, put_nx, kill_nx]; done) | (simp only [up_nx, put_nx, kill_nx]; omega)) | (with_reducible refine AH.le.kill hw ?_ ?_; · first | omega | (simp only [up_nx, put_nx, kill_nx]; done) | (simp only [up_nx, put_nx, kill_nx]; omega)))) (by first | omega | (simp only [up_nx, put_nx, kill_nx]; done) | (simp only [up_nx, put_nx, kill_nx]; omega)) (by first | omega | (simp only [up_nx, put_nx]; done) | (simp only [up_nx, put_nx]; omega)) ?_ (dt_ty [x]) ?_ ?_ fun v' H3 g3 l3 n3 k3 _ => ?_
      · simp (disch := first | omega | simp)
      · rw [List.length_map, List.length_take]; simp only [List.length_singleton]; omega
      · rw [List.length_map, List.length_take]; simp only [List.length_singleton]; omega
      · rw [q_add_i, hiv]
        refine hk (v', i + 1) _ _ _ (.refl (by simp only [up_nx, put_nx] at n3; omega)) ⟨l3, by simp only [up_nx, put_nx] at n3; omega, hil, ?_⟩ (by dsimp only; omega)
        dsimp only
        rw [List.take_add_one, hx, Option.toList_some, List.map_append]; exact g3
    · have hie : i = ks.length := by omega
      subst hie
      rw [List.take_length] at hg
      simp (disch := first | omega | simp) [iv]
      exact hg.rt hw hle hn ⟨rfl, rfl⟩
theorem c_copiedAll (ks : List Ty) (h : Ty.sizes ks ≤ 1000000) : PF Try.prog 65 [tE ks] (tE ks) := fun H => c_copiedAllN _ ks (Nat.le_refl _) h H
theorem c_copied (t : Ty) (h : t.size ≤ 1000000) : PF Try.prog 66 [t.av] t.av := fun H => copied_of (c_copiedAll t.kids (by rw [Ty.size_eq] at h; omega)) H
theorem Ty.gives_le : ∀ (N : Nat) (t : Ty), t.size ≤ N → Good t → ∀ c, -(t.size : Int) ≤ t.gives c ∧ t.gives c ≤ t.size
  | 0, t, h, _, _ => by have := t.size_pos; omega
  | N + 1, t, h, hg, c => by
    rcases hg.cases with ⟨n, rfl, _⟩ | ⟨x, y, rfl, hx, hy⟩ | ⟨y, x, rfl, hy, hx⟩
    · rw [Ty.gives_b, Ty.size_mk]; split <;> omega
    · rw [Ty.size_o] at h
      have := Ty.gives_le N x (by omega) hx c
      have := Ty.gives_le N y (by omega) hy c
      rw [Ty.gives_o, Ty.size_o]; omega
    · rw [Ty.size_u] at h
      have := Ty.gives_le N x (by omega) hx c
      have := Ty.gives_le N y (by omega) hy c
      rw [Ty.gives_u, Ty.size_u]; omega
theorem Good.gives {t : Ty} (h : Good t) (c : Int) : -15 ≤ t.gives c ∧ t.gives c ≤ 15 := by
  have := Ty.gives_le _ t (Nat.le_refl _) h c
  have := h.size
  omega
theorem Ty.cs_o (x y : Ty) : (Ty.o x y).cs = [iv 2, iv 0, .dsl 3 [x.cs, y.cs]] := by rw [Ty.cs_eq]; rfl
theorem Ty.cs_u (x y : Ty) : (Ty.u x y).cs = [iv 3, iv 0, .dsl 3 [x.cs, y.cs]] := by rw [Ty.cs_eq]; rfl
theorem Ty.cs_b (n : Int) : Ty.cs ⟨1, n, []⟩ = [iv 1, iv n, .dsl 3 []] := by rw [Ty.cs_eq]; rfl
theorem lput_lput {l : List (Nat × AO)} {k : Nat} {x y : AO} : lput (lput l k x) k y = lput l k y := by
  induction l with
  | nil => grind [lput]
  | cons a r ih =>
    obtain ⟨i, z⟩ := a
    grind [lput]
theorem put_put {H : AH} {k : Nat} {x y : AO} : (H.put k x).put k y = H.put k y := by unfold AH.put; simp only [lput_lput]
/-- ten numbers -/
def wC (W : Int → Int) : List AV := (List.range 10).map fun c => .p (.int .i64 (W (c : Nat)))
theorem wC_len (W : Int → Int) : (wC W).length = 10 := by simp [wC]
theorem wC_get (W : Int → Int) {n : Int} (h0 : 0 ≤ n) (h9 : n ≤ 9) : (wC W)[n.toNat]? = some (.p (.int .i64 (W n))) := by
  obtain ⟨m, rfl⟩ := Int.eq_ofNat_of_zero_le h0
  unfold wC
  rw [Int.toNat_natCast, List.getElem?_map, List.getElem?_range (by omega)]; rfl
theorem wC_set (W : Int → Int) {n : Int} (v : Int) (h0 : 0 ≤ n) (h9 : n ≤ 9) : (wC W).take n.toNat ++ [.p (.int .i64 v)] ++ (wC W).drop (n.toNat + 1) = wC (fun c => if c = n then v else W c) := by
  have : n = 0 ∨ n = 1 ∨ n = 2 ∨ n = 3 ∨ n = 4 ∨ n = 5 ∨ n = 6 ∨ n = 7 ∨ n = 8 ∨ n = 9 := by omega
  rcases this with rfl | rfl | rfl | rfl | rfl | rfl | rfl | rfl | rfl | rfl <;> rfl
theorem wC_cl (W : Int → Int) (B : Nat) : Clo B (wC W) := fun a ha => by
  obtain ⟨c, _, rfl⟩ := List.mem_map.1 ha
  exact Cl.p _
theorem wEq2 {H : AH} (b : Nat) (W g1 g2 g : Int → Int) (h : ∀ c, g c = g1 c - g2 c) (s : Int) : (H.put b (.box 94 (wC fun c => W c + s * g1 c))).put b (.box 94 (wC fun c => W c + s * g1 c + -s * g2 c)) = H.put b (.box 94 (wC fun c => W c + s * g c)) := by
  rw [put_put]
  congr 3
  funext c
  rw [h c, Int.mul_sub, Int.neg_mul]; omega
set_option maxHeartbeats 1000000 in
theorem c_weigh (N : Nat) : ∀ t : Ty, t.size ≤ N → N ≤ 1000 → Good t → ∀ (s : Int) (b : Nat) (W : Int → Int) (H : AH), (s = 1 ∨ s = -1) → (∀ c, -1000000 + (t.size : Int) ≤ W c ∧ W c + (t.size : Int) ≤ 1000000) → H.get b = some (.box 94 (wC W)) →
    Tri Try.prog 73 [t.av, iv s, .ptr b 0] H (fun r H' => H' = H.put b (.box 94 (wC fun c => W c + s * t.gives c)) ∧ r = .tup []) := by
  induction N with
  | zero => intro t ht; have := t.size_pos; omega
  | succ N ih =>
    intro t ht hN hg s b W H hs hW hb
    refine tri_wf fun hw => tri_speech_weigh ?_
    have hml : maxLen = 9223372036854775807 := by decide
    have hp : b < H.nx := (hw _ _ hb).1
    unfold S_speech_weigh
    rcases hg.cases with ⟨n, rfl, h0, h9⟩ | ⟨x, y, rfl, hx, hy⟩ | ⟨y, x, rfl, hy, hx⟩
    · have hn10 : n < 10 := by omega
      have hWn := hW n
      have hws : IntKind.i64.wrap (W n + s) = W n + s := wrapI (by omega) (by omega)
      simp (disch := first | omega | simp) [Ty.av, Ty.cs_b, iv, put_get_ne, hb, h0, hn10, wC_get W h0 h9, wC_len, hws]
      refine ⟨by omega, ?_⟩
      have := wC_set W (W n + s) h0 h9
      simp only [List.append_assoc, List.singleton_append] at this
      rw [this]
      rw [show (fun c => if c = n then W n + s else W c) = (fun c => W c + s * Ty.gives ⟨1, n, []⟩ c) from funext fun c => by
        rw [Ty.gives_b]
        by_cases e : c = n
        · subst e; simp
        · rw [if_neg e, if_neg (fun h => e h.symm)]; simp]
      generalize hX : (H.up 1).put H.nx (.box 24 [.p (.int .i64 1), .p (.int .i64 n), .dsl 3 []]) = X
      have hHX : H.le X := by rw [← hX]; exact (by repeat (first | with_reducible assumption | with_reducible exact AH.le.refl _ | with_reducible apply AH.le.up | (with_reducible refine AH.le.put hw ?_ ?_; · first | omega | (simp only [up_nx, put_nx, kill_nx]; done) | (simp only [up_nx, put_nx, kill_nx]; omega)) | (with_reducible refine AH.le.kill hw ?_ ?_; · first | omega | (simp only [up_nx, put_nx, kill_nx]; done) | (simp only [up_nx, put_nx, kill_nx]; omega))))
      have h2 := le_base (p := b) (b := .box 94 (wC fun c => W c + s * Ty.gives ⟨1, n, []⟩ c)) (H := H) (X := X.up 11) (by repeat (first | with_reducible assumption | with_reducible exact AH.le.refl _ | with_reducible apply AH.le.up | (with_reducible refine AH.le.put hw ?_ ?_; · first | omega | (simp only [up_nx, put_nx, kill_nx]; done) | (simp only [up_nx, put_nx, kill_nx]; omega)) | (with_reducible refine AH.le.kill hw ?_ ?_; · first | omega | (simp only [up_nx, put_nx, kill_nx]; done) | (simp only [up_nx, put_nx, kill_nx]; omega))))
      exact rt_tupP (hw.box hp (wC_cl _ _)) h2 .nil ⟨rfl, rfl⟩
    · have hzo := Ty.size_o x y
      rw [Ty.size_o] at ht
      simp (disch := first | omega | simp) [Ty.av, Ty.cs_o, iv]
      unfold S_speech_weigh_C1
      simp (disch := first | omega | simp) [Ty.cs_take, Ty.cs_len]
      refine ca_of (by kernel_rfl) (ih x (by omega) (by omega) hx s b W _ hs (fun c => by have := hW c; omega) (by simp (disch := first | omega | simp) [put_get_ne, hb])) ?_
      rintro _ _ ⟨rfl, rfl⟩
      have hsn : IntKind.i64.wrap (-s) = -s := by rw [wrapI (by omega) (by omega)]
      simp (disch := first | omega | simp) [put_get_ne, Ty.cs_take, Ty.cs_len, hsn]
      refine ca_of (by kernel_rfl) (ih y (by omega) (by omega) hy (-s) b (fun c => W c + s * x.gives c) _ (by omega) (fun c => ?_) (put_get _ _)) ?_
      · have h1 := hW c
        have h2 := Ty.gives_le _ x (Nat.le_refl _) hx c
        rcases hs with rfl | rfl <;> (simp only [Int.one_mul, Int.neg_mul]; omega)
      rintro _ _ ⟨rfl, rfl⟩
      rw [wEq2 b _ _ _ _ (Ty.gives_o x y) s]
      generalize hX : (H.up 1).put H.nx (.box 24 [.p (.int .i64 2), .p (.int .i64 0), .dsl 3 [x.cs, y.cs]]) = X
      have hHX : H.le X := by rw [← hX]; exact (by repeat (first | with_reducible assumption | with_reducible exact AH.le.refl _ | with_reducible apply AH.le.up | (with_reducible refine AH.le.put hw ?_ ?_; · first | omega | (simp only [up_nx, put_nx, kill_nx]; done) | (simp only [up_nx, put_nx, kill_nx]; omega)) | (with_reducible refine AH.le.kill hw ?_ ?_; · first | omega | (simp only [up_nx, put_nx, kill_nx]; done) | (simp only [up_nx, put_nx, kill_nx]; omega))))
      have h2 := le_base (p := b) (b := .box 94 (wC fun c => W c + s * (Ty.o x y).gives c)) (H := H) (X := X) (by repeat (first | with_reducible assumption | with_reducible exact AH.le.refl _ | with_reducible apply AH.le.up | (with_reducible refine AH.le.put hw ?_ ?_; · first | omega | (simp only [up_nx, put_nx, kill_nx]; done) | (simp only [up_nx, put_nx, kill_nx]; omega)) | (with_reducible refine AH.le.kill hw ?_ ?_; · first | omega | (simp only [up_nx, put_nx, kill_nx]; done) | (simp only [up_nx, put_nx, kill_nx]; omega))))
      exact rt_tupP (hw.box hp (wC_cl _ _)) h2 .nil ⟨rfl, rfl⟩
    · have hzo := Ty.size_u y x
      rw [Ty.size_u] at ht
      simp (disch := first | omega | simp) [Ty.av, Ty.cs_u, iv]
      unfold S_speech_weigh_C1
      simp (disch := first | omega | simp) [Ty.cs_take, Ty.cs_len]
      refine ca_of (by kernel_rfl) (ih x (by omega) (by omega) hx s b W _ hs (fun c => by have := hW c; omega) (by simp (disch := first | omega | simp) [put_get_ne, hb])) ?_
      rintro _ _ ⟨rfl, rfl⟩
      have hsn : IntKind.i64.wrap (-s) = -s := by rw [wrapI (by omega) (by omega)]
      simp (disch := first | omega | simp) [put_get_ne, Ty.cs_take, Ty.cs_len, hsn]
      refine ca_of (by kernel_rfl) (ih y (by omega) (by omega) hy (-s) b (fun c => W c + s * x.gives c) _ (by omega) (fun c => ?_) (put_get _ _)) ?_
      · have h1 := hW c
        have h2 := Ty.gives_le _ x (Nat.le_refl _) hx c
        rcases hs with rfl | rfl <;> (simp only [Int.one_mul, Int.neg_mul]; omega)
      rintro _ _ ⟨rfl, rfl⟩
      rw [wEq2 b _ _ _ _ (Ty.gives_u y x) s]
      generalize hX : (H.up 1).put H.nx (.box 24 [.p (.int .i64 3), .p (.int .i64 0), .dsl 3 [y.cs, x.cs]]) = X
      have hHX : H.le X := by rw [← hX]; exact (by repeat (first | with_reducible assumption | with_reducible exact AH.le.refl _ | with_reducible apply AH.le.up | (with_reducible refine AH.le.put hw ?_ ?_; · first | omega | (simp only [up_nx, put_nx, kill_nx]; done) | (simp only [up_nx, put_nx, kill_nx]; omega)) | (with_reducible refine AH.le.kill hw ?_ ?_; · first | omega | (simp only [up_nx, put_nx, kill_nx]; done) | (simp only [up_nx, put_nx, kill_nx]; omega))))
      have h2 := le_base (p := b) (b := .box 94 (wC fun c => W c + s * (Ty.u y x).gives c)) (H := H) (X := X) (by repeat (first | with_reducible assumption | with_reducible exact AH.le.refl _ | with_reducible apply AH.le.up | (with_reducible refine AH.le.put hw ?_ ?_; · first | omega | (simp only [up_nx, put_nx, kill_nx]; done) | (simp only [up_nx, put_nx, kill_nx]; omega)) | (with_reducible refine AH.le.kill hw ?_ ?_; · first | omega | (simp only [up_nx, put_nx, kill_nx]; done) | (simp only [up_nx, put_nx, kill_nx]; omega))))
      exact rt_tupP (hw.box hp (wC_cl _ _)) h2 .nil ⟨rfl, rfl⟩
def wA (W : Int → Int) : Array Value := ((List.range 10).map fun c => Value.int .i64 (W (c : Nat))).toArray
theorem wA_at (W : Int → Int) {i : Nat} (h : i < 10) : (wA W)[i]? = some (.int .i64 (W (i : Nat))) := by
  unfold wA
  rw [List.getElem?_toArray, List.getElem?_map, List.getElem?_range h]; rfl
theorem plainInt : Try.prog.plainKey 3 = true := by kernel_rfl
theorem underInt : Try.prog.underlying 3 = some (.int .i64) := by kernel_rfl
theorem run_eqNums (W V : Int → Int) (w : World) (d : Nat) : ∀ is : List Nat, (∀ i ∈ is, i < 10) → (Op.eqItems (d + 1) 3 1 (wA W) (wA V) is).run Try.prog w = .ok (is.all fun c => W (c : Nat) == V (c : Nat)) w
  | [], _ => by simp [Op.eqItems]
  | i :: is, h => by
    have hx := run_part_plain (P := Try.prog) (w := w) plainInt (wA_at W (h i (by simp)))
    have hy := run_part_plain (P := Try.prog) (w := w) plainInt (wA_at V (h i (by simp)))
    have ih := run_eqNums W V w d is (fun j hj => h j (by simp [hj]))
    have he : (Op.equalIn (d + 1) 3 (.int .i64 (W (i : Nat))) (.int .i64 (V (i : Nat)))).run Try.prog w = .ok (W (i : Nat) == V (i : Nat)) w := by
      simp [Op.equalIn, run_underlying underInt]
    simp only [Op.eqItems, Nat.mul_one, Sem.run_bind, hx, hy, Result.andThen_ok, he]
    cases hq : W (i : Nat) == V (i : Nat) with
    | true => simp [ih, hq]
    | false => simp [hq]
theorem run_eqArr (W V : Int → Int) (w : World) : (Op.equal 94 (.agg (wA W)) (.agg (wA V))).run Try.prog w = .ok ((List.range 10).all fun c => W (c : Nat) == V (c : Nat)) w := by
  rw [Op.equal, Op.maxDepth, show (10000 : Nat) = 9998 + 1 + 1 from rfl, run_equalIn_array (P := Try.prog) w (9998 + 1) (t := 94) (e := 3) (n := 10) (wA W) (wA V) (by kernel_rfl) (i := (Try.prog.info? 3).get (by kernel_rfl)) (by kernel_rfl)]
  rw [show Try.prog.cellsOf 3 = 1 by kernel_rfl]
  exact run_eqNums W V w 9998 _ (fun i hi => by simpa using hi)
theorem q_eqArr {W V : Int → Int} {k : AV → AH → Prop} {H : AH} (h : k (bv ((List.range 10).all fun c => W (c : Nat) == V (c : Nat))) H) : Pu Try.prog (.bin .eql 94) [.agg (wC W), .agg (wC V)] k H :=
  q_eql_v _ _ _ (wA W) (wA V) _ rfl rfl (by kernel_rfl) (fun w => run_eqArr W V w) h
theorem gsum_take {l : List Ty} {i : Nat} {x : Ty} (h : l[i]? = some x) (c : Int) : gsum (l.take (i + 1)) c = gsum (l.take i) c + x.gives c := by
  rw [List.take_add_one, h, Option.toList_some, gsum_app, gsum_cons, gsum_nil]; omega
theorem gsum_le {l : List Ty} (hl : Goods l) (c : Int) : -(15 * (l.length : Int)) ≤ gsum l c ∧ gsum l c ≤ 15 * l.length := by
  induction l with
  | nil => simp [gsum]
  | cons x r ih =>
    have := ih hl.tail
    have := hl.head.gives c
    rw [gsum_cons, List.length_cons]; omega
theorem Goods.take {l : List Ty} (h : Goods l) (i : Nat) : Goods (l.take i) := fun t ht => h t (List.mem_of_mem_take ht)
theorem Goods.drop {l : List Ty} (h : Goods l) (i : Nat) : Goods (l.drop i) := fun t ht => h t (List.mem_of_mem_drop ht)
theorem Goods.at_ {l : List Ty} (h : Goods l) {i : Nat} {x : Ty} (hx : l[i]? = some x) : Good x := h x (List.mem_of_getElem? hx)
theorem c_balanced {l : List Ty} {g : Ty} (hl : Goods l) (hg : Good g) (hn : l.length ≤ 1000) : PF Try.prog 62 [tE l, g.av] (bv (levelB l g)) := fun H => tri_wf fun hw => tri_speech_balanced (by
  unfold S_speech_balanced tE
  simp (disch := first | omega | simp) [Ty.av]
  generalize hM : ((((H.up 2).put H.nx (.box 24 g.cs)).up 2).put (H.nx + 2) (.box 94 [.p (.int .i64 0), .p (.int .i64 0), .p (.int .i64 0), .p (.int .i64 0), .p (.int .i64 0), .p (.int .i64 0), .p (.int .i64 0), .p (.int .i64 0), .p (.int .i64 0), .p (.int .i64 0)])).put (H.nx + 2 + 1) (.box 94 [.p (.int .i64 0), .p (.int .i64 0), .p (.int .i64 0), .p (.int .i64 0), .p (.int .i64 0), .p (.int .i64 0), .p (.int .i64 0), .p (.int .i64 0), .p (.int .i64 0), .p (.int .i64 0)]) = M
  have hMl : H.le M := by rw [← hM]; exact (by repeat (first | with_reducible assumption | with_reducible exact AH.le.refl _ | with_reducible apply AH.le.up | (with_reducible refine AH.le.put hw ?_ ?_; · first | omega | (simp only [up_nx, put_nx, kill_nx]; done) | (simp only [up_nx, put_nx, kill_nx]; omega)) | (with_reducible refine AH.le.kill hw ?_ ?_; · first | omega | (simp only [up_nx, put_nx, kill_nx]; done) | (simp only [up_nx, put_nx, kill_nx]; omega))))
  have hMn : M.nx = H.nx + 4 := by rw [← hM]; rfl
  have hMg : M.get H.nx = some (.box 24 g.cs) := by rw [← hM]; simp (disch := first | omega | simp) [put_get_ne]
  have hMa : M.get (H.nx + 2) = some (.box 94 (wC fun _ => 0)) := by rw [← hM]; simp (disch := first | omega | simp) [put_get_ne]; rfl
  have hMb : M.get (H.nx + 3) = some (.box 94 (wC fun _ => 0)) := by rw [← hM]; simp (disch := first | omega | simp); rfl
  clear hM
  refine loop_st (fun i : Nat => [iv i]) (fun i H' => H.le H' ∧ H.nx + 4 ≤ H'.nx ∧ i ≤ l.length ∧ H'.get H.nx = some (.box 24 g.cs) ∧ H'.get (H.nx + 2) = some (.box 94 (wC fun c => gsum (l.take i) c)) ∧ H'.get (H.nx + 3) = some (.box 94 (wC fun _ => 0))) (fun i => l.length - i) 0 (.refl (by omega)) ⟨hMl, by omega, Nat.zero_le _, hMg, hMa, hMb⟩ ?_
  rintro i H1 hn1 ⟨hle, hnx, hi, h1, h2, h3⟩ k hk
  unfold S_speech_balanced_L1
  have hgl := gsum_le (hl.take i)
  have htl : (l.take i).length ≤ 1000 := by rw [List.length_take]; omega
  by_cases hil : i < l.length
  · obtain ⟨x, hx⟩ : ∃ x, l[i]? = some x := ⟨_, List.getElem?_eq_getElem hil⟩
    have hxg : ∀ h, l[i]'h = x := fun h => (List.getElem?_eq_some_iff.1 hx).2
    have hiv := ivn (i := i) (by omega)
    have hgx := hl.at_ hx
    have hsx := hgx.size
    simp (disch := first | omega | simp) [iv, hil, hxg, Ty.cs_len, Ty.cs_take]
    refine ca_of (by kernel_rfl) (c_weigh x.size x (Nat.le_refl _) (by omega) hgx 1 (H.nx + 2) (fun c => gsum (l.take i) c) _ (.inl rfl) (fun c => by have := hgl c; omega) (by simp (disch := first | omega | simp) [put_get_ne, h2])) ?_
    rintro _ _ ⟨rfl, rfl⟩
    rw [q_add_i, hiv]
    refine hk (i + 1) _ _ _ (.refl (by first | omega | (simp only [up_nx, put_nx]; done) | (simp only [up_nx, put_nx]; omega))) ⟨(by repeat (first | with_reducible assumption | with_reducible exact AH.le.refl _ | with_reducible apply AH.le.up | (with_reducible refine AH.le.put hw ?_ ?_; · first | omega | (simp only [up_nx, put_nx, kill_nx]; done) | (simp only [up_nx, put_nx, kill_nx]; omega)) | (with_reducible refine AH.le.kill hw ?_ ?_; · first | omega | (simp only [up_nx, put_nx, kill_nx]; done) | (simp only [up_nx, put_nx, kill_nx]; omega)))), (by first | omega | (simp only [up_nx, put_nx]; done) | (simp only [up_nx, put_nx]; omega)), hil, by simp (disch := first | omega | simp) [put_get_ne, h1], ?_, by simp (disch := first | omega | simp) [put_get_ne, h3]⟩ (by omega)
    rw [put_get]
    congr 3
    funext c
    rw [gsum_take hx]; omega
  · have hie : l.take i = l := List.take_of_length_le (by omega)
    rw [hie] at h2
    have hgs := hg.size
    simp (disch := first | omega | simp) [iv, hil, Ty.cs_len, Ty.cs_take, h1]
    refine ca_of (by kernel_rfl) (c_weigh g.size g (Nat.le_refl _) (by omega) hg 1 (H.nx + 3) (fun c => 0) _ (.inl rfl) (fun c => by omega) h3) ?_
    rintro _ _ ⟨rfl, rfl⟩
    have ht : ∀ W, List.take 10 (wC W) = wC W := fun W => List.take_of_length_le (by rw [wC_len]; omega)
    simp (disch := first | omega | simp) [put_get_ne, h2, wC_len, ht]
    refine q_eqArr ?_
    refine rt_one hw (by repeat (first | with_reducible assumption | with_reducible exact AH.le.refl _ | with_reducible apply AH.le.up | (with_reducible refine AH.le.put hw ?_ ?_; · first | omega | (simp only [up_nx, put_nx, kill_nx]; done) | (simp only [up_nx, put_nx, kill_nx]; omega)) | (with_reducible refine AH.le.kill hw ?_ ?_; · first | omega | (simp only [up_nx, put_nx, kill_nx]; done) | (simp only [up_nx, put_nx, kill_nx]; omega)))) (by repeat (first | exact Cl.p _ | exact Cl.dsl _ _ | exact Cl.any | refine Cl.tup ?_ | refine Cl.agg ?_ | exact Clo.nil | refine Clo.cons ?_ ?_)) ⟨rfl, ?_⟩
    unfold levelB
    simp only)
theorem c_RGives (N : Nat) : ∀ t : Ty, t.size ≤ N → N ≤ 1000 → Good t → ∀ (c : Int) (H : AH), Tri Try.prog 61 [t.av, iv c] H (fun r H' => H' = H ∧ r = iv (t.gives c)) := by
  induction N with
  | zero => intro t ht; have := t.size_pos; omega
  | succ N ih =>
    intro t ht hN hg c H
    refine tri_wf fun hw => tri_wordhoardref_Gives ?_
    unfold S_wordhoardref_Gives
    rcases hg.cases with ⟨n, rfl, h0, h9⟩ | ⟨x, y, rfl, hx, hy⟩ | ⟨y, x, rfl, hy, hx⟩
    · by_cases h : n = c
      · simp (disch := first | omega | simp) [Ty.av, Ty.cs_b, iv, h]
        exact rt_one hw (by repeat (first | with_reducible assumption | with_reducible exact AH.le.refl _ | with_reducible apply AH.le.up | (with_reducible refine AH.le.put hw ?_ ?_; · first | omega | (simp only [up_nx, put_nx, kill_nx]; done) | (simp only [up_nx, put_nx, kill_nx]; omega)) | (with_reducible refine AH.le.kill hw ?_ ?_; · first | omega | (simp only [up_nx, put_nx, kill_nx]; done) | (simp only [up_nx, put_nx, kill_nx]; omega)))) (by repeat (first | exact Cl.p _ | exact Cl.dsl _ _ | exact Cl.any | refine Cl.tup ?_ | refine Cl.agg ?_ | exact Clo.nil | refine Clo.cons ?_ ?_)) ⟨rfl, by rw [Ty.gives_b, if_pos rfl]⟩
      · simp (disch := first | omega | simp) [Ty.av, Ty.cs_b, iv, h]
        exact rt_one hw (by repeat (first | with_reducible assumption | with_reducible exact AH.le.refl _ | with_reducible apply AH.le.up | (with_reducible refine AH.le.put hw ?_ ?_; · first | omega | (simp only [up_nx, put_nx, kill_nx]; done) | (simp only [up_nx, put_nx, kill_nx]; omega)) | (with_reducible refine AH.le.kill hw ?_ ?_; · first | omega | (simp only [up_nx, put_nx, kill_nx]; done) | (simp only [up_nx, put_nx, kill_nx]; omega)))) (by repeat (first | exact Cl.p _ | exact Cl.dsl _ _ | exact Cl.any | refine Cl.tup ?_ | refine Cl.agg ?_ | exact Clo.nil | refine Clo.cons ?_ ?_)) ⟨rfl, by rw [Ty.gives_b, if_neg h]⟩
    · rw [Ty.size_o] at ht
      have h1 := Ty.gives_le _ x (Nat.le_refl _) hx c
      have h2 := Ty.gives_le _ y (Nat.le_refl _) hy c
      have hws : IntKind.i64.wrap (x.gives c - y.gives c) = x.gives c - y.gives c := wrapI (by omega) (by omega)
      simp (disch := first | omega | simp) [Ty.av, Ty.cs_o, iv]
      unfold S_wordhoardref_Gives_C1
      simp (disch := first | omega | simp) [Ty.cs_take, Ty.cs_len]
      refine cav_pure (by kernel_rfl) (fun H2 _ => ih x (by omega) (by omega) hx c H2) ?_
      simp (disch := first | omega | simp) [iv, Ty.cs_take, Ty.cs_len]
      refine cav_pure (by kernel_rfl) (fun H2 _ => ih y (by omega) (by omega) hy c H2) ?_
      simp (disch := first | omega | simp) [iv, hws]
      exact rt_one hw (by repeat (first | with_reducible assumption | with_reducible exact AH.le.refl _ | with_reducible apply AH.le.up | (with_reducible refine AH.le.put hw ?_ ?_; · first | omega | (simp only [up_nx, put_nx, kill_nx]; done) | (simp only [up_nx, put_nx, kill_nx]; omega)) | (with_reducible refine AH.le.kill hw ?_ ?_; · first | omega | (simp only [up_nx, put_nx, kill_nx]; done) | (simp only [up_nx, put_nx, kill_nx]; omega)))) (by repeat (first | exact Cl.p _ | exact Cl.dsl _ _ | exact Cl.any | refine Cl.tup ?_ | refine Cl.agg ?_ | exact Clo.nil | refine Clo.cons ?_ ?_)) ⟨rfl, by rw [Ty.gives_o]⟩
    · rw [Ty.size_u] at ht
      have h1 := Ty.gives_le _ x (Nat.le_refl _) hx c
      have h2 := Ty.gives_le _ y (Nat.le_refl _) hy c
      have hws : IntKind.i64.wrap (x.gives c - y.gives c) = x.gives c - y.gives c := wrapI (by omega) (by omega)
      simp (disch := first | omega | simp) [Ty.av, Ty.cs_u, iv]
      unfold S_wordhoardref_Gives_C1
      simp (disch := first | omega | simp) [Ty.cs_take, Ty.cs_len]
      refine cav_pure (by kernel_rfl) (fun H2 _ => ih x (by omega) (by omega) hx c H2) ?_
      simp (disch := first | omega | simp) [iv, Ty.cs_take, Ty.cs_len]
      refine cav_pure (by kernel_rfl) (fun H2 _ => ih y (by omega) (by omega) hy c H2) ?_
      simp (disch := first | omega | simp) [iv, hws]
      exact rt_one hw (by repeat (first | with_reducible assumption | with_reducible exact AH.le.refl _ | with_reducible apply AH.le.up | (with_reducible refine AH.le.put hw ?_ ?_; · first | omega | (simp only [up_nx, put_nx, kill_nx]; done) | (simp only [up_nx, put_nx, kill_nx]; omega)) | (with_reducible refine AH.le.kill hw ?_ ?_; · first | omega | (simp only [up_nx, put_nx, kill_nx]; done) | (simp only [up_nx, put_nx, kill_nx]; omega)))) (by repeat (first | exact Cl.p _ | exact Cl.dsl _ _ | exact Cl.any | refine Cl.tup ?_ | refine Cl.agg ?_ | exact Clo.nil | refine Clo.cons ?_ ?_)) ⟨rfl, by rw [Ty.gives_u]⟩
theorem levelB_iff {l : List Ty} {g : Ty} : levelB l g = true ↔ ∀ c : Nat, c < 10 → gsum l (c : Nat) = g.gives (c : Nat) := by
  unfold levelB
  rw [List.all_eq_true]
  exact ⟨fun h c hc => by simpa using h c (by simpa using hc), fun h c hc => by simpa using h c (by simpa using hc)⟩
theorem c_RLevel {l : List Ty} {g : Ty} (hl : Goods l) (hg : Good g) (hn : l.length ≤ 1000) : PF Try.prog 30 [tE l, g.av] (bv (levelB l g)) := fun H => tri_wf fun hw => tri_wordhoardref_Level (by
  unfold S_wordhoardref_Level tE
  simp (disch := first | omega | simp) [Ty.av]
  generalize hM : (H.up 2).put H.nx (.box 24 g.cs) = M
  have hMl : H.le M := by rw [← hM]; exact (by repeat (first | with_reducible assumption | with_reducible exact AH.le.refl _ | with_reducible apply AH.le.up | (with_reducible refine AH.le.put hw ?_ ?_; · first | omega | (simp only [up_nx, put_nx, kill_nx]; done) | (simp only [up_nx, put_nx, kill_nx]; omega)) | (with_reducible refine AH.le.kill hw ?_ ?_; · first | omega | (simp only [up_nx, put_nx, kill_nx]; done) | (simp only [up_nx, put_nx, kill_nx]; omega))))
  have hMg : M.get H.nx = some (.box 24 g.cs) := by rw [← hM]; simp (disch := first | omega | simp)
  clear hM
  refine loop_st (fun b : Nat => [iv b]) (fun b H' => M = H' ∧ b ≤ 10 ∧ ∀ c : Nat, c < b → gsum l (c : Nat) = g.gives (c : Nat)) (fun b => 10 - b) 0 (.refl (Nat.le_refl _)) ⟨rfl, Nat.zero_le _, fun c hc => by omega⟩ ?_
  rintro b H1 hn1 ⟨rfl, hb, hall⟩ k hk
  unfold S_wordhoardref_Level_L2
  have hgg := hg.gives
  by_cases hb10 : b < 10
  · have hb10' : (b : Int) < 10 := by omega
    simp (disch := first | omega | simp) [iv, hb10']
    refine loop_st (fun s : Nat => [iv (gsum (l.take s) b), iv s]) (fun s H' => M = H' ∧ s ≤ l.length) (fun s => l.length - s) 0 (.refl (Nat.le_refl _)) ⟨rfl, Nat.zero_le _⟩ ?_
    rintro i H2 hn2 ⟨rfl, hi⟩ k2 hk2
    unfold S_wordhoardref_Level_L1
    have hgl := gsum_le (hl.take i) b
    have htl : (l.take i).length ≤ 1000 := by rw [List.length_take]; omega
    by_cases hil : i < l.length
    · obtain ⟨x, hx⟩ : ∃ x, l[i]? = some x := ⟨_, List.getElem?_eq_getElem hil⟩
      have hxg : ∀ h, l[i]'h = x := fun h => (List.getElem?_eq_some_iff.1 hx).2
      have hiv := ivn (i := i) (by omega)
      have hgx := hl.at_ hx
      have hgv := hgx.gives b
      have hws : IntKind.i64.wrap (gsum (l.take i) b + x.gives b) = gsum (l.take (i + 1)) b := by rw [gsum_take hx]; exact wrapI (by omega) (by omega)
      simp (disch := first | omega | simp) [iv, hil, hxg, Ty.cs_len, Ty.cs_take]
      refine ca_pure (by kernel_rfl) (c_RGives x.size x (Nat.le_refl _) (by have := hgx.size; omega) hgx b _) ?_
      simp (disch := first | omega | simp) [iv, hws, hiv]
      exact hk2 (i + 1) _ _ _ (.refl (by first | omega | (simp only [up_nx, put_nx, kill_nx]; done) | (simp only [up_nx, put_nx, kill_nx]; omega))) ⟨rfl, hil⟩ (by omega)
    · have hie : l.take i = l := List.take_of_length_le (by omega)
      rw [hie]
      simp (disch := first | omega | simp) [iv, hil, Ty.cs_len, Ty.cs_take, hMg]
      refine ca_pure (by kernel_rfl) (c_RGives g.size g (Nat.le_refl _) (by have := hg.size; omega) hg b _) ?_
      by_cases he : gsum l b = g.gives b
      · have hbv := ivn (i := b) (by omega)
        simp (disch := first | omega | simp) [iv, he, hbv]
        refine hk (b + 1) _ _ _ (.refl (by first | omega | (simp only [up_nx, put_nx, kill_nx]; done) | (simp only [up_nx, put_nx, kill_nx]; omega))) ⟨rfl, hb10, fun c hc => ?_⟩ (by omega)
        rcases Nat.lt_or_ge c b with h | h
        · exact hall c h
        · have : c = b := by omega
          subst this; exact he
      · simp (disch := first | omega | simp) [iv, he]
        refine rt_one hw hMl (by repeat (first | exact Cl.p _ | exact Cl.dsl _ _ | exact Cl.any | refine Cl.tup ?_ | refine Cl.agg ?_ | exact Clo.nil | refine Clo.cons ?_ ?_)) ⟨rfl, ?_⟩
        cases hL : levelB l g with
        | false => rfl
        | true => exact absurd (levelB_iff.1 hL b hb10) he
  · have hb10' : ¬ (b : Int) < 10 := by omega
    simp (disch := first | omega | simp) [iv, hb10']
    refine rt_one hw hMl (by repeat (first | exact Cl.p _ | exact Cl.dsl _ _ | exact Cl.any | refine Cl.tup ?_ | refine Cl.agg ?_ | exact Clo.nil | refine Clo.cons ?_ ?_)) ⟨rfl, ?_⟩
    rw [levelB_iff.2 (fun c hc => hall c (by omega))]; rfl)
end Go.Proofs.Ytpmnlikgldacaaa

/- The library's Builder at this program: what its methods do to what lies in memory. -/
namespace Go.Proofs.Ytpmnlikgldacaaa
open Go.RowKit Go.Maps
set_option maxHeartbeats 1000000 in
set_option maxRecDepth 100000 in
theorem raw_used (b : Nat) (w : World) (h0 : w.cell? ⟨b, 0, none⟩ = some (.pointer (some ⟨b, 0, none⟩))) :
    Calls Try.prog 79 #[.pointer (some ⟨b, 0, none⟩)] w fun e w' => e = .returned (.tuple #[]) ∧ w' = w := by
  go_enter Try.func79, Try.ntmps79
  go_wp2
  rw [Lib.run_neq_ptr_same w _ Try.underlying97 (j := (Try.prog.info? 99).get (by kernel_rfl)) (by kernel_rfl)]
  go_wp2
  go_end0
  exact ⟨rfl, rfl⟩
set_option maxHeartbeats 1000000 in
set_option maxRecDepth 100000 in
theorem raw_fresh (b : Nat) (w : World) (h0 : w.cell? ⟨b, 0, none⟩ = some (.pointer none)) (hsh : w.shape? b = some (99, 2)) (hfz : w.frozen? ⟨b, 0, none⟩ = false) :
    Calls Try.prog 79 #[.pointer (some ⟨b, 0, none⟩)] w fun e w' => e = .returned (.tuple #[]) ∧ w' = w.setCell ⟨b, 0, none⟩ (.pointer (some ⟨b, 0, none⟩)) := by
  have hj : Try.prog.info? 99 = some ((Try.prog.info? 99).get (by kernel_rfl)) := by kernel_rfl
  have hjs : ((Try.prog.info? 99).get (by kernel_rfl)).size = 2 := by kernel_rfl
  go_enter Try.func79, Try.ntmps79
  go_wp2
  rw [Lib.run_to_unsafe w ⟨b, 0, none⟩ Try.underlying97 Try.underlying108 hj (by rw [hjs]; decide) hsh (Nat.zero_lt_succ 1)]
  simp only [Result.andThen]
  rw [Oper.upon_value]
  go_wp2
  rw [run_callFunc_extern Try.func81 (by kernel_rfl) (by kernel_rfl) (by kernel_rfl) (e := Extern.AbiNoEscape.same) (by kernel_rfl)]
  rw [Lib.run_noEscape]
  simp only [Result.andThen]
  rw [Oper.upon_value]
  go_wp2
  rw [Lib.run_from_unsafe w ⟨b, 0, none⟩ Try.underlying108 Try.underlying97 hj hsh (by kernel_rfl)]
  simp only [Result.andThen]
  rw [Oper.upon_value]
  go_wp2
  go_end0
  exact ⟨rfl, rfl⟩
theorem setCell_other (w : World) (g b : Nat) (v : Value) (h : b ≠ g) : (w.setCell ⟨g, 0, none⟩ v).heap[b]? = w.heap[b]? := by
  simp only [World.setCell, Array.getElem?_modify]
  rw [if_neg (fun e => h e.symm)]
theorem setCell_at (w : World) (g : Nat) (arr : Array Value) (t : TypeId) (v : Value) (h : Blk w g t arr) : Blk (w.setCell ⟨g, 0, none⟩ v) g t (arr.setIfInBounds 0 v) := by
  have h1 : w.heap[g]? = some (.cells arr t (0, 0)) := h
  show (w.setCell ⟨g, 0, none⟩ v).heap[g]? = _
  simp only [World.setCell, Array.getElem?_modify, if_true, h1]
  rfl
theorem pair_arr {w : World} {S : Nat → Prop} {σ : Nat → Option Value} {a x : AV} {arr : Array Value} (h : Rps w S σ [a, x] arr.toList) : ∃ u v, arr = #[u, v] ∧ Rp w S σ a u ∧ Rp w S σ x v := by
  obtain ⟨u, v, e, h1, h2⟩ := h.two_inv
  exact ⟨u, v, Array.toList_inj.1 e, h1, h2⟩
theorem c_used {H : AH} {b : Nat} {x : AV} (hb : H.get b = some (.box 99 [.ptr b 0, x])) : Tri Try.prog 79 [.ptr b 0] H (fun _ H' => H' = H) := by
  intro w S σ us hs hr
  obtain ⟨v, rfl, q⟩ := hr.one_inv
  obtain ⟨g, rfl, hσ⟩ := q.ptr_inv
  obtain ⟨g', arr, m1, m2, m3, m4⟩ := hs.obj b _ hb
  rw [hσ] at m1
  simp only [Option.some.injEq, Value.pointer.injEq, Addr.mk.injEq, and_true] at m1
  subst m1
  obtain ⟨u, v, rfl, k1, k2⟩ := pair_arr m3
  obtain ⟨g2, rfl, hσ2⟩ := k1.ptr_inv
  rw [hσ] at hσ2
  simp only [Option.some.injEq, Value.pointer.injEq, Addr.mk.injEq, and_true] at hσ2
  subst hσ2
  refine (raw_used g w (by rw [m2.cell]; rfl)).mono ?_
  rintro e w' ⟨rfl, rfl⟩
  exact ⟨_, S, σ, .tup [], H, rfl, rfl, hs, Rps.tup .nil, Ext.refl _ _ _ _, Nat.le_refl _, fun _ _ => rfl⟩
theorem c_fresh {H : AH} {b : Nat} {x : AV} (hb : H.get b = some (.box 99 [.p (.pointer none), x])) : Tri Try.prog 79 [.ptr b 0] H (fun _ H' => H' = H.put b (.box 99 [.ptr b 0, x])) := by
  intro w S σ us hs hr
  obtain ⟨v, rfl, q⟩ := hr.one_inv
  obtain ⟨g, rfl, hσ⟩ := q.ptr_inv
  obtain ⟨g', arr, m1, m2, m3, m4⟩ := hs.obj b _ hb
  rw [hσ] at m1
  simp only [Option.some.injEq, Value.pointer.injEq, Addr.mk.injEq, and_true] at m1
  subst m1
  obtain ⟨u, v, rfl, k1, k2⟩ := pair_arr m3
  obtain ⟨rfl, _⟩ := k1.p_inv
  have hm2 : w.heap[g]? = some (.cells #[.pointer none, v] 99 (0, 0)) := m2
  refine (raw_fresh g w (by rw [m2.cell]; rfl) (by simp [World.shape?, hm2]) (by simp [World.frozen?, hm2])).mono ?_
  rintro e w' ⟨rfl, rfl⟩
  have hnone : ∀ x, σ b = some x → x = .pointer (some ⟨g, 0, none⟩) := fun x hx => by rw [hσ] at hx; injection hx with hx; exact hx.symm
  have hsp := sput_id hσ
  have hbk : (σ b).bind blkOf = some g := by rw [hσ]; rfl
  have hsz : (w.setCell ⟨g, 0, none⟩ (.pointer (some ⟨g, 0, none⟩))).heap.size = w.heap.size := by simp [World.setCell]
  have hkeep : ∀ b', b' < w.heap.size → blkOf (.pointer (some ⟨g, 0, none⟩)) ≠ some b' → (w.setCell ⟨g, 0, none⟩ (.pointer (some ⟨g, 0, none⟩))).heap[b']? = w.heap[b']? := fun b' _ hne => setCell_other w g b' _ (fun e => hne (by rw [e]; rfl))
  have hS : ∀ b', S b' → (w.setCell ⟨g, 0, none⟩ (.pointer (some ⟨g, 0, none⟩))).heap[b']? = w.heap[b']? := fun b' hb' => setCell_other w g b' _ (fun e => hs.sep b _ g hb rfl hbk (by rw [← e]; exact hb'))
  have hsat := hs.upd (w' := w.setCell ⟨g, 0, none⟩ (.pointer (some ⟨g, 0, none⟩))) (k := b) (o' := .box 99 [.ptr b 0, x]) (hs.dom _ _ hσ) hnone (by rw [hsz]; exact Nat.le_refl _) hkeep (fun b' hb' => by
      simp only [blkOf, Option.some.injEq] at hb'; subst hb'
      exact ⟨hs.sep b _ g hb rfl hbk, fun k o2 hk h2 h3 h4 => hk (hs.dj k b o2 _ g h2 hb h3 rfl h4 hbk)⟩)
    (by
      rw [hsp]
      refine ⟨g, _, hσ, setCell_at w g _ _ _ m2, ?_, ?_⟩
      · exact .cons (.ptr b 0 g hσ) (.cons (k2.mono (fun _ h => h) hS (fun _ _ h => h)) .nil)
      · intro u hu
        have : u = .pointer (some ⟨g, 0, none⟩) ∨ u = v := by simpa using hu
        rcases this with rfl | rfl
        · rfl
        · exact m4 _ (by simp))
    (fun j o b h1 h2 h3 => hs.lt h1 h2 h3) (fun A n c e => by cases e)
  have hext := Ext.upd (w' := w.setCell ⟨g, 0, none⟩ (.pointer (some ⟨g, 0, none⟩))) (k := b) (o' := .box 99 [.ptr b 0, x]) hs hnone rfl rfl rfl (by rw [hsz]; exact Nat.le_refl _) hkeep (fun b' hb' => by
      simp only [blkOf, Option.some.injEq] at hb'; subst hb'; exact .inl ⟨b, _, hb, rfl, hbk⟩)
  rw [hsp] at hsat hext
  exact ⟨_, S, σ, .tup [], _, rfl, rfl, hsat, Rps.tup .nil, hext, Nat.le_refl _, fun _ _ => rfl⟩
end Go.Proofs.Ytpmnlikgldacaaa

/- The text of a part; the library's Builder: writing and what it gives. -/
namespace Go.Proofs.Ytpmnlikgldacaaa
open Go.RowKit Go.Maps
def mkB (l : List UInt8) : ByteArray := ⟨l.toArray⟩
theorem mkB_app (l m : List UInt8) : mkB l ++ mkB m = mkB (l ++ m) := by
  unfold mkB
  apply ByteArray.ext
  rw [ByteArray.data_append]
  simp
theorem mkB_size (l : List UInt8) : (mkB l).size = l.length := by simp [mkB, ByteArray.size]
theorem mkB_inj {l m : List UInt8} (h : mkB l = mkB m) : l = m := by
  have := congrArg (fun b : ByteArray => b.data.toList) h
  simpa [mkB] using this
theorem strE_mk (l : List UInt8) : strE (mkB l) = l.map fun b => [.p (.int .u8 b.toNat)] := by simp [strE, mkB]
theorem strE_mklen (l : List UInt8) : (strE (mkB l)).length = l.length := by rw [strE_len, mkB_size]
theorem mk_40 : (⟨#[40]⟩ : ByteArray) = mkB [40] := rfl
theorem mk_47 : (⟨#[47]⟩ : ByteArray) = mkB [47] := rfl
theorem mk_92 : (⟨#[92]⟩ : ByteArray) = mkB [92] := rfl
theorem mk_41 : (⟨#[41]⟩ : ByteArray) = mkB [41] := rfl
def Ty.txt : Ty → List UInt8
  | ⟨k, n, ks⟩ => if k = 1 then [(97 + n).toNat.toUInt8] else match ks with
    | [a, b] => 40 :: (Ty.txt a ++ (if k = 2 then 47 else 92) :: (Ty.txt b ++ [41]))
    | _ => []
theorem Ty.txt_b (n : Int) : Ty.txt ⟨1, n, []⟩ = [(97 + n).toNat.toUInt8] := by rw [Ty.txt]; simp; intro a b h; cases h
theorem Ty.txt_o (x y : Ty) : (Ty.o x y).txt = 40 :: (x.txt ++ 47 :: (y.txt ++ [41])) := by rw [Ty.o, Ty.txt]; simp
theorem Ty.txt_u (y x : Ty) : (Ty.u y x).txt = 40 :: (y.txt ++ 92 :: (x.txt ++ [41])) := by rw [Ty.u, Ty.txt]; simp
theorem Ty.txt_len : ∀ (N : Nat) (t : Ty), t.size ≤ N → Good t → t.txt.length ≤ 3 * t.size
  | 0, t, h, _ => by have := t.size_pos; omega
  | N + 1, t, h, hg => by
    rcases hg.cases with ⟨n, rfl, _⟩ | ⟨x, y, rfl, hx, hy⟩ | ⟨y, x, rfl, hy, hx⟩
    · rw [Ty.txt_b, Ty.size_mk]; simp; omega
    · rw [Ty.size_o] at h ⊢
      have := Ty.txt_len N x (by omega) hx
      have := Ty.txt_len N y (by omega) hy
      rw [Ty.txt_o]; simp; omega
    · rw [Ty.size_u] at h ⊢
      have := Ty.txt_len N x (by omega) hx
      have := Ty.txt_len N y (by omega) hy
      rw [Ty.txt_u]; simp; omega
theorem Good.txt_len {t : Ty} (h : Good t) : t.txt.length ≤ 45 := by
  have := Ty.txt_len _ t (Nat.le_refl _) h
  have := h.size
  omega
def sv (l : List UInt8) : AV := .p (.string (mkB l))
theorem c_text (N : Nat) : ∀ t : Ty, t.size ≤ N → Good t → ∀ H : AH, Tri Try.prog 52 [t.av] H (fun r H' => H' = H ∧ r = sv t.txt) := by
  induction N with
  | zero => intro t ht; have := t.size_pos; omega
  | succ N ih =>
    intro t ht hg H
    have hml : maxLen = 9223372036854775807 := by decide
    refine tri_wf fun hw => tri_speech_text ?_
    unfold S_speech_text
    rcases hg.cases with ⟨n, rfl, h0, h9⟩ | ⟨x, y, rfl, hx, hy⟩ | ⟨y, x, rfl, hy, hx⟩
    · have hw1 : IntKind.i64.wrap (97 + n) = 97 + n := wrapI (by omega) (by omega)
      have hw2 : IntKind.u8.wrap (97 + n) = 97 + n := by
        have : n = 0 ∨ n = 1 ∨ n = 2 ∨ n = 3 ∨ n = 4 ∨ n = 5 ∨ n = 6 ∨ n = 7 ∨ n = 8 ∨ n = 9 := by omega
        rcases this with rfl | rfl | rfl | rfl | rfl | rfl | rfl | rfl | rfl | rfl <;> decide
      simp (disch := first | omega | simp) [Ty.av, Ty.cs_b, iv, hw1, hw2]
      refine ⟨mkB [(97 + n).toNat.toUInt8], ?_, ?_⟩
      · rw [strE_mk]
        have : n = 0 ∨ n = 1 ∨ n = 2 ∨ n = 3 ∨ n = 4 ∨ n = 5 ∨ n = 6 ∨ n = 7 ∨ n = 8 ∨ n = 9 := by omega
        rcases this with rfl | rfl | rfl | rfl | rfl | rfl | rfl | rfl | rfl | rfl <;> rfl
      · exact rt_one hw (by repeat (first | with_reducible assumption | with_reducible exact AH.le.refl _ | with_reducible apply AH.le.up | (with_reducible refine AH.le.put hw ?_ ?_; · first | omega | (simp only [up_nx, put_nx, kill_nx]; done) | (simp only [up_nx, put_nx, kill_nx]; omega)) | (with_reducible refine AH.le.kill hw ?_ ?_; · first | omega | (simp only [up_nx, put_nx, kill_nx]; done) | (simp only [up_nx, put_nx, kill_nx]; omega)))) (by repeat (first | exact Cl.p _ | exact Cl.dsl _ _ | exact Cl.any | refine Cl.tup ?_ | refine Cl.agg ?_ | exact Clo.nil | refine Clo.cons ?_ ?_)) ⟨rfl, by rw [Ty.txt_b]; rfl⟩
    · rw [Ty.size_o] at ht
      have l1 := hx.txt_len
      have l2 := hy.txt_len
      simp (disch := first | omega | simp) [Ty.av, Ty.cs_o, iv]
      unfold S_speech_text_C1
      simp (disch := first | omega | simp) [Ty.cs_take, Ty.cs_len]
      refine cav_pure (by kernel_rfl) (fun H2 _ => ih x (by omega) hx H2) ?_
      simp (disch := first | omega | simp) [sv, Ty.cs_take, Ty.cs_len, mk_40, mk_47, mk_41, mkB_app, mkB_size]
      refine ⟨by omega, by omega, cav_pure (by kernel_rfl) (fun H2 _ => ih y (by omega) hy H2) ?_⟩
      simp (disch := first | omega | simp) [sv, mkB_app, mkB_size]
      refine ⟨by omega, by omega, rt_one hw (by repeat (first | with_reducible assumption | with_reducible exact AH.le.refl _ | with_reducible apply AH.le.up | (with_reducible refine AH.le.put hw ?_ ?_; · first | omega | (simp only [up_nx, put_nx, kill_nx]; done) | (simp only [up_nx, put_nx, kill_nx]; omega)) | (with_reducible refine AH.le.kill hw ?_ ?_; · first | omega | (simp only [up_nx, put_nx, kill_nx]; done) | (simp only [up_nx, put_nx, kill_nx]; omega)))) (by repeat (first | exact Cl.p _ | exact Cl.dsl _ _ | exact Cl.any | refine Cl.tup ?_ | refine Cl.agg ?_ | exact Clo.nil | refine Clo.cons ?_ ?_)) ⟨rfl, by rw [Ty.txt_o]⟩⟩
    · rw [Ty.size_u] at ht
      have l1 := hx.txt_len
      have l2 := hy.txt_len
      simp (disch := first | omega | simp) [Ty.av, Ty.cs_u, iv]
      unfold S_speech_text_C1
      simp (disch := first | omega | simp) [Ty.cs_take, Ty.cs_len]
      refine cav_pure (by kernel_rfl) (fun H2 _ => ih y (by omega) hy H2) ?_
      simp (disch := first | omega | simp) [sv, Ty.cs_take, Ty.cs_len, mk_40, mk_92, mk_41, mkB_app, mkB_size]
      refine ⟨by omega, by omega, cav_pure (by kernel_rfl) (fun H2 _ => ih x (by omega) hx H2) ?_⟩
      simp (disch := first | omega | simp) [sv, mkB_app, mkB_size]
      refine ⟨by omega, by omega, rt_one hw (by repeat (first | with_reducible assumption | with_reducible exact AH.le.refl _ | with_reducible apply AH.le.up | (with_reducible refine AH.le.put hw ?_ ?_; · first | omega | (simp only [up_nx, put_nx, kill_nx]; done) | (simp only [up_nx, put_nx, kill_nx]; omega)) | (with_reducible refine AH.le.kill hw ?_ ?_; · first | omega | (simp only [up_nx, put_nx, kill_nx]; done) | (simp only [up_nx, put_nx, kill_nx]; omega)))) (by repeat (first | exact Cl.p _ | exact Cl.dsl _ _ | exact Cl.any | refine Cl.tup ?_ | refine Cl.agg ?_ | exact Clo.nil | refine Clo.cons ?_ ?_)) ⟨rfl, by rw [Ty.txt_u]⟩⟩
/-- a Builder that holds bytes; its row lies at L or behind -/
def BldAt (L : Nat) (H : AH) (b : Nat) (q : List UInt8) : Prop :=
  (H.get b = some (.box 99 [.p (.pointer none), .p (.slice none 0 0)]) ∧ q = []) ∨
  ∃ r, L ≤ r ∧ r ≠ b ∧ q ≠ [] ∧ H.get b = some (.box 99 [.ptr b 0, .osl r 1 0 q.length]) ∧ H.get r = some (.row 5 1 (strE (mkB q)))
theorem c_WriteString {L : Nat} {H : AH} {b : Nat} {q s : List UInt8} (h : BldAt L H b q) (hs0 : s ≠ []) (hl : q.length + s.length ≤ 1000000000) (hL : L ≤ H.nx) (hbL : b < L) :
    Tri Try.prog 74 [.ptr b 0, sv s] H (fun _ H' => BldAt L H' b (q ++ s) ∧ H.nx ≤ H'.nx ∧ ∀ j, j < L → j ≠ b → H'.get j = H.get j) := tri_wf fun hw => tri_Builder_WriteString (by
  have hml : maxLen = 9223372036854775807 := by decide
  unfold S_Builder_WriteString sv
  rcases h with ⟨h1, rfl⟩ | ⟨r, h0, h00, hq, h1, h2⟩
  · refine ca_of (by kernel_rfl) (c_fresh h1) ?_
    rintro _ _ rfl
    simp only [List.length_nil, Nat.zero_add] at hl
    simp (disch := first | omega | simp) [put_get_ne, strE_mklen]
    refine ⟨by omega, by omega, rt_refl ⟨.inr ⟨H.nx + 6, by omega, by omega, by simpa using hs0, by simp (disch := first | omega | simp), by simp (disch := first | omega | simp) [put_get_ne]⟩, (by first | omega | (simp only [up_nx, put_nx]; done) | (simp only [up_nx, put_nx]; omega)), fun j hj hjb => ?_⟩ (by first | omega | (simp only [up_nx, put_nx]; done) | (simp only [up_nx, put_nx]; omega))⟩
    simp (disch := first | omega | simp) [put_get_ne]
  · have hrn := (hw _ _ h2).1
    refine ca_of (by kernel_rfl) (c_used h1) ?_
    rintro _ H1 e
    rw [e]
    clear e
    simp (disch := first | omega | simp) [put_get_ne, strE_mklen, h1, h2, kill_get_ne]
    refine ⟨by omega, by omega, rt_refl ⟨.inr ⟨H.nx + 6, by omega, by omega, by simp [hs0], ?_, ?_⟩, (by first | omega | (simp only [up_nx, put_nx, kill_nx]; done) | (simp only [up_nx, put_nx, kill_nx]; omega)), fun j hj hjb => ?_⟩ (by first | omega | (simp only [up_nx, put_nx, kill_nx]; done) | (simp only [up_nx, put_nx, kill_nx]; omega))⟩
    · simp (disch := first | omega | simp) [List.length_append]
    · simp (disch := first | omega | simp) [put_get_ne, strE_mk]
      exact List.take_of_length_le (by simp)
    · simp (disch := first | omega | simp) [put_get_ne, kill_get_ne])
theorem c_String {L : Nat} {H : AH} {b : Nat} {q : List UInt8} (h : BldAt L H b q) (_hL : L ≤ H.nx) (_hbL : b < L) :
    Tri Try.prog 75 [.ptr b 0] H (fun r H' => r = sv q ∧ H.nx ≤ H'.nx ∧ ∀ j, j < L → j ≠ b → H'.get j = H.get j) := tri_wf fun hw => tri_Builder_String (by
  unfold S_Builder_String sv
  rcases h with ⟨h1, rfl⟩ | ⟨r, h0, h00, hq, h1, h2⟩
  · simp (disch := first | omega | simp) [h1]
    exact rt_refl ⟨rfl, (by first | omega | (simp only [up_nx]; done) | (simp only [up_nx]; omega)), fun j hj hjb => rfl⟩ (by first | omega | (simp only [up_nx]; done) | (simp only [up_nx]; omega))
  · · have hpos : 0 < q.length := List.length_pos_iff.2 hq
      simp (disch := first | omega | simp) [h1, h2, strE_mklen, hpos]
      refine ⟨mkB q, ?_, rt_refl ⟨rfl, (by first | omega | (simp only [up_nx, kill_nx]; done) | (simp only [up_nx, kill_nx]; omega)), fun j hj hjb => ?_⟩ (by first | omega | (simp only [up_nx, kill_nx]; done) | (simp only [up_nx, kill_nx]; omega))⟩
      · rw [List.take_of_length_le (by rw [strE_mklen]; omega)]
      · simp (disch := first | omega | simp) [kill_get_ne])
end Go.Proofs.Ytpmnlikgldacaaa

/- The key of a sequent; what is wrong with one: both programs. -/
namespace Go.Proofs.Ytpmnlikgldacaaa
open Go.RowKit Go.Maps
theorem BldAt.kp {L : Nat} {H H' : AH} {b : Nat} {q : List UInt8} (h : BldAt L H b q) (hw : WF H) (hk : ∀ j, j < H.nx → H'.get j = H.get j) : BldAt L H' b q := by
  rcases h with ⟨h1, h2⟩ | ⟨r, h0, h00, hq, h1, h2⟩
  · exact .inl ⟨by rw [hk b (hw _ _ h1).1]; exact h1, h2⟩
  · exact .inr ⟨r, h0, h00, hq, by rw [hk b (hw _ _ h1).1]; exact h1, by rw [hk r (hw _ _ h2).1]; exact h2⟩
theorem le_but {H H1 H2 : AH} {L b : Nat} (hw : WF H) (hle : H.le H1) (hL : H.nx ≤ L) (hb : H.nx ≤ b) (hk : ∀ j, j < L → j ≠ b → H2.get j = H1.get j) : H.le H2 := fun id o ho => by
  have := (hw _ _ ho).1
  rw [hk id (by omega) (by omega)]; exact hle _ _ ho
def keyL (l : List Ty) (g : Ty) : List UInt8 := ((l ++ [g]).map Ty.txt).flatten
theorem txt_ne {t : Ty} (h : Good t) : t.txt ≠ [] := by
  rcases h.cases with ⟨n, rfl, _⟩ | ⟨x, y, rfl, _⟩ | ⟨y, x, rfl, _⟩
  · rw [Ty.txt_b]; simp
  · rw [Ty.txt_o]; simp
  · rw [Ty.txt_u]; simp
theorem keyTake_len {l : List Ty} (h : Goods l) (i : Nat) : (((l.take i).map Ty.txt).flatten).length ≤ 45 * i := by
  induction i with
  | zero => simp
  | succ i ih =>
    cases hx : l[i]? with
    | none =>
      rw [List.take_add_one, hx]; simp only [Option.toList_none, List.append_nil]; omega
    | some x =>
      rw [List.take_add_one, hx, Option.toList_some, List.map_append, List.flatten_append, List.length_append]
      have := (h.at_ hx).txt_len
      simp only [List.map_cons, List.map_nil, List.flatten_cons, List.flatten_nil, List.append_nil]; omega
set_option maxHeartbeats 1000000 in
theorem c_key {l : List Ty} {g : Ty} (hl : Goods l) (hg : Good g) (hn : l.length ≤ 1000) : PF Try.prog 63 [tE l, g.av] (sv (keyL l g)) := fun H => tri_wf fun hw => tri_speech_key (by
  have hml : maxLen = 9223372036854775807 := by decide
  have hlg : Goods (l ++ [g]) := hl.app (.cons hg .nil)
  have hll : (l ++ [g]).length = l.length + 1 := by simp
  unfold S_speech_key
  simp (disch := first | omega | simp) [Ty.av]
  refine car_of 24 3 (l.map Ty.cs) (by kernel_rfl) (ty_len _) (fun H2 _ => c_CloneP l (by omega)) ?_
  simp (disch := first | omega | simp) [Ty.cs_len, Ty.cs_take, put_get_ne]
  refine wrf_row rfl (by have h : H.get (H.nx + 2 + 1 + 1) = none := wf_none hw (by omega)
                         simp (disch := first | omega | simp) [put_get_ne, h]) (es := l.map Ty.cs) (by simp (disch := first | omega | simp) [put_get_ne]) (by simp) (elF_whole (t := 24) (es := [g.cs]) rfl (by simp (disch := first | omega | simp)) rfl) (by simp; omega) (by simp; omega) ?_
  have hes : ((l.map Ty.cs).drop 0).take l.length ++ [g.cs] = (l ++ [g]).map Ty.cs := by rw [List.drop_zero, List.take_of_length_le (by simp), List.map_append]; rfl
  have hm1 : l.length + [g.cs].length = (l ++ [g]).length := by simp
  rw [hm1, hes]
  unfold keyL
  generalize l ++ [g] = m at *
  generalize hM : AH.put _ _ _ = M
  have hMl : H.le M := by rw [← hM]; exact (by repeat (first | with_reducible assumption | with_reducible exact AH.le.refl _ | with_reducible apply AH.le.up | (with_reducible refine AH.le.put hw ?_ ?_; · first | omega | (simp only [up_nx, put_nx, kill_nx]; done) | (simp only [up_nx, put_nx, kill_nx]; omega)) | (with_reducible refine AH.le.kill hw ?_ ?_; · first | omega | (simp only [up_nx, put_nx, kill_nx]; done) | (simp only [up_nx, put_nx, kill_nx]; omega))))
  have hMn : M.nx = H.nx + 10 := by rw [← hM]; rfl
  have hMb : M.get (H.nx + 2) = some (.box 99 [.p (.pointer none), .p (.slice none 0 0)]) := by rw [← hM]; simp (disch := first | omega | simp) [put_get_ne, kill_get_ne]
  have hMr : M.get (H.nx + 2 + 1 + 4) = some (.row 24 3 (m.map Ty.cs)) := by rw [← hM]; simp (disch := first | omega | simp)
  clear hM
  have hmn : m.length ≤ 1001 := by omega
  simp (disch := first | omega | simp) []
  refine loop_wf (fun i : Nat => [iv i]) (fun i H' => i ≤ m.length ∧ H.le H' ∧ H.nx + 10 ≤ H'.nx ∧ BldAt (H.nx + 10) H' (H.nx + 2) (((m.take i).map Ty.txt).flatten) ∧ H'.get (H.nx + 2 + 1 + 4) = some (.row 24 3 (m.map Ty.cs))) (fun i => m.length - i) 0 (.refl (by omega)) ⟨Nat.zero_le _, hMl, by omega, .inl ⟨hMb, rfl⟩, hMr⟩ ?_
  rintro i H1 hn1 hw1 ⟨hi, hle, hnx, hbl, hr⟩ k hk
  unfold S_speech_key_L1
  have hkt := keyTake_len hlg i
  by_cases hil : i < m.length
  · obtain ⟨x, hx⟩ : ∃ x, m[i]? = some x := ⟨_, List.getElem?_eq_getElem hil⟩
    have hxg : ∀ h, m[i]'h = x := fun h => (List.getElem?_eq_some_iff.1 hx).2
    have hiv := ivn (i := i) (by omega)
    have hgx := hlg.at_ hx
    have htx := hgx.txt_len
    simp (disch := first | omega | simp) [iv, hil, hxg, hr, Ty.cs_len, Ty.cs_take]
    refine ca_pure (by kernel_rfl) (c_text x.size x (Nat.le_refl _) hgx _) ?_
    refine ca_of (by kernel_rfl) (c_WriteString (L := H.nx + 10) (b := H.nx + 2) (q := ((m.take i).map Ty.txt).flatten) (s := x.txt) (hbl.kp hw1 fun j hj => by simp (disch := first | omega | simp) [put_get_ne]) (txt_ne hgx) (by omega) (by first | omega | (simp only [up_nx, put_nx]; done) | (simp only [up_nx, put_nx]; omega)) (by omega)) ?_
    rintro _ H2 ⟨b1, b2, b3⟩
    simp only [up_nx, put_nx] at b2
    rw [q_add_i, hiv]
    refine hk (i + 1) _ _ _ (.refl (by omega)) ⟨hil, ?_, by omega, ?_, ?_⟩ (by omega)
    · refine le_but hw ?_ (by omega) (by omega) b3
      exact (by repeat (first | with_reducible assumption | with_reducible exact AH.le.refl _ | with_reducible apply AH.le.up | (with_reducible refine AH.le.put hw ?_ ?_; · first | omega | (simp only [up_nx, put_nx, kill_nx]; done) | (simp only [up_nx, put_nx, kill_nx]; omega)) | (with_reducible refine AH.le.kill hw ?_ ?_; · first | omega | (simp only [up_nx, put_nx, kill_nx]; done) | (simp only [up_nx, put_nx, kill_nx]; omega))))
    · rw [List.take_add_one, hx, Option.toList_some, List.map_append, List.flatten_append]
      simpa using b1
    · rw [b3 _ (by omega) (by omega)]
      simp (disch := first | omega | simp) [put_get_ne, hr]
  · have hie : m.take i = m := List.take_of_length_le (by omega)
    rw [hie] at hbl
    simp (disch := first | omega | simp) [iv, hil]
    refine ca_of (by kernel_rfl) (c_String hbl (by omega) (by omega)) ?_
    rintro _ H2 ⟨rfl, b2, b3⟩
    exact rt_one hw (le_but hw hle (by omega) (by omega) b3) (by repeat (first | exact Cl.p _ | exact Cl.dsl _ _ | exact Cl.any | refine Cl.tup ?_ | refine Cl.agg ?_ | exact Clo.nil | refine Clo.cons ?_ ?_)) ⟨rfl, rfl⟩)
end Go.Proofs.Ytpmnlikgldacaaa

/- What is wrong with a sequent: both programs. -/
namespace Go.Proofs.Ytpmnlikgldacaaa
open Go.RowKit Go.Maps
def chkL : List Ty → Int
  | [] => 0
  | t :: r => if t.check = 0 then chkL r else t.check
def asksV (l : List Ty) (g : Ty) : Int := if l.length = 0 ∨ 6 < l.length then 7 else if chkL (l ++ [g]) ≠ 0 then chkL (l ++ [g]) else if 10 < Ty.sls l + g.sl then 2 else 0
theorem chkL_at {l : List Ty} {i : Nat} {x : Ty} (h : l[i]? = some x) : chkL (l.drop i) = if x.check = 0 then chkL (l.drop (i + 1)) else x.check := by
  obtain ⟨h1, h2⟩ := List.getElem?_eq_some_iff.1 h
  rw [List.drop_eq_getElem_cons h1, chkL, h2]
theorem chkL_goods : ∀ {l : List Ty}, chkL l = 0 → Goods l
  | [], _ => .nil
  | t :: r, h => by
    rw [chkL] at h
    split at h
    · rename_i ht; exact .cons ht (chkL_goods h)
    · exact absurd h ‹_›
theorem Goods.sizes {l : List Ty} (h : Goods l) : Ty.sizes l ≤ 15 * l.length := by
  induction l with
  | nil => rw [Ty.sizes]; omega
  | cons t r ih =>
    have := ih h.tail
    have := h.head.size
    rw [Ty.sizes, List.length_cons]; omega
theorem asksV_ok {l : List Ty} {g : Ty} (h : asksV l g = 0) : Goods l ∧ Good g ∧ 1 ≤ l.length ∧ l.length ≤ 6 ∧ Ty.sls l + g.sl ≤ 10 := by
  unfold asksV at h
  by_cases h1 : l.length = 0 ∨ 6 < l.length
  · rw [if_pos h1] at h; exact absurd h (by decide)
  rw [if_neg h1] at h
  by_cases h2 : chkL (l ++ [g]) ≠ 0
  · rw [if_pos h2] at h; exact absurd h h2
  rw [if_neg h2] at h
  have h2 := Classical.byContradiction fun e => h2 e
  by_cases h3 : 10 < Ty.sls l + g.sl
  · rw [if_pos h3] at h; exact absurd h (by decide)
  have := chkL_goods h2
  exact ⟨this.left, this.right.head, by omega, by omega, by omega⟩
set_option maxHeartbeats 1000000 in
theorem c_asks (l : List Ty) (g : Ty) : PF Try.prog 33 [tE l, g.av] (iv (asksV l g)) := fun H => tri_wf fun hw => tri_speech_asks (by
  have hml : maxLen = 9223372036854775807 := by decide
  unfold S_speech_asks
  by_cases h1 : l.length = 0 ∨ 6 < l.length
  · have hv : asksV l g = 7 := by unfold asksV; rw [if_pos h1]
    rcases h1 with h1 | h1
    · have h2 : l.length < 1 := by omega
      simp (disch := first | omega | simp) [iv, tE, Ty.av, h1]
      exact rt_one hw (by repeat (first | with_reducible assumption | with_reducible exact AH.le.refl _ | with_reducible apply AH.le.up | (with_reducible refine AH.le.put hw ?_ ?_; · first | omega | (simp only [up_nx, put_nx, kill_nx]; done) | (simp only [up_nx, put_nx, kill_nx]; omega)) | (with_reducible refine AH.le.kill hw ?_ ?_; · first | omega | (simp only [up_nx, put_nx, kill_nx]; done) | (simp only [up_nx, put_nx, kill_nx]; omega)))) (by repeat (first | exact Cl.p _ | exact Cl.dsl _ _ | exact Cl.any | refine Cl.tup ?_ | refine Cl.agg ?_ | exact Clo.nil | refine Clo.cons ?_ ?_)) ⟨rfl, by rw [hv]⟩
    · have h2 : ¬ l.length < 1 := by omega
      have h3 : ¬ (l.length : Int) < 1 := by omega
      have h4 : (6 : Int) < l.length := by omega
      simp (disch := first | omega | simp) [iv, tE, Ty.av, h3, h4]
      exact rt_one hw (by repeat (first | with_reducible assumption | with_reducible exact AH.le.refl _ | with_reducible apply AH.le.up | (with_reducible refine AH.le.put hw ?_ ?_; · first | omega | (simp only [up_nx, put_nx, kill_nx]; done) | (simp only [up_nx, put_nx, kill_nx]; omega)) | (with_reducible refine AH.le.kill hw ?_ ?_; · first | omega | (simp only [up_nx, put_nx, kill_nx]; done) | (simp only [up_nx, put_nx, kill_nx]; omega)))) (by repeat (first | exact Cl.p _ | exact Cl.dsl _ _ | exact Cl.any | refine Cl.tup ?_ | refine Cl.agg ?_ | exact Clo.nil | refine Clo.cons ?_ ?_)) ⟨rfl, by rw [hv]⟩
  have h3 : ¬ (l.length : Int) < 1 := by omega
  have h4 : ¬ (6 : Int) < l.length := by omega
  have h5 : ¬ (l.length : Int) = 0 := by omega
  unfold tE
  simp (disch := first | omega | simp) [iv, Ty.av, h3, h4]
  refine car_of 24 3 (l.map Ty.cs) (by kernel_rfl) (ty_len _) (fun H2 _ => c_CloneP l (by omega)) ?_
  simp (disch := first | omega | simp) [Ty.cs_len, Ty.cs_take]
  refine wrf_row rfl (by have h : H.get (H.nx + 2 + 1) = none := wf_none hw (by omega)
                         simp (disch := first | omega | simp) [put_get_ne, h]) (es := l.map Ty.cs) (by simp (disch := first | omega | simp) [put_get_ne]) (by simp) (elF_whole (t := 24) (es := [g.cs]) rfl (by simp (disch := first | omega | simp)) rfl) (by simp; omega) (by simp; omega) ?_
  have hes : ((l.map Ty.cs).drop 0).take l.length ++ [g.cs] = (l ++ [g]).map Ty.cs := by rw [List.drop_zero, List.take_of_length_le (by simp), List.map_append]; rfl
  have hm1 : l.length + [g.cs].length = (l ++ [g]).length := by simp
  rw [hm1, hes]
  have hmn : (l ++ [g]).length ≤ 7 := by rw [List.length_append]; simp only [List.length_singleton]; omega
  have hav : asksV l g = if chkL (l ++ [g]) ≠ 0 then chkL (l ++ [g]) else if 10 < Ty.sls l + g.sl then 2 else 0 := by unfold asksV; rw [if_neg h1]
  have hgoods : chkL (l ++ [g]) = 0 → Goods l ∧ Good g := fun h => ⟨(chkL_goods h).left, (chkL_goods h).right.head⟩
  generalize l ++ [g] = m at *
  generalize hM : AH.put _ _ _ = M
  have hMl : H.le M := by rw [← hM]; exact (by repeat (first | with_reducible assumption | with_reducible exact AH.le.refl _ | with_reducible apply AH.le.up | (with_reducible refine AH.le.put hw ?_ ?_; · first | omega | (simp only [up_nx, put_nx, kill_nx]; done) | (simp only [up_nx, put_nx, kill_nx]; omega)) | (with_reducible refine AH.le.kill hw ?_ ?_; · first | omega | (simp only [up_nx, put_nx, kill_nx]; done) | (simp only [up_nx, put_nx, kill_nx]; omega))))
  have hMn : M.nx = H.nx + 9 := by rw [← hM]; rfl
  have hMg : M.get H.nx = some (.box 24 g.cs) := by rw [← hM]; simp (disch := first | omega | simp) [put_get_ne, kill_get_ne]
  have hMr : M.get (H.nx + 2 + 4) = some (.row 24 3 (m.map Ty.cs)) := by rw [← hM]; simp (disch := first | omega | simp)
  clear hM
  simp (disch := first | omega | simp) []
  refine loop_wf (fun i : Nat => [iv i]) (fun i H' => i ≤ m.length ∧ M.le H' ∧ M.nx ≤ H'.nx ∧ chkL m = chkL (m.drop i)) (fun i => m.length - i) 0 (.refl (by omega)) ⟨Nat.zero_le _, .refl _, Nat.le_refl _, by rw [List.drop_zero]⟩ ?_
  rintro i H1 hn1 hw1 ⟨hi, hle, hnx, hc⟩ k hk
  unfold S_speech_asks_L1
  have hr := hle _ _ hMr
  have hgg := hle _ _ hMg
  by_cases hil : i < m.length
  · obtain ⟨x, hx⟩ : ∃ x, m[i]? = some x := ⟨_, List.getElem?_eq_getElem hil⟩
    have hxg : ∀ h, m[i]'h = x := fun h => (List.getElem?_eq_some_iff.1 hx).2
    have hiv := ivn (i := i) (by omega)
    rw [chkL_at hx] at hc
    simp (disch := first | omega | simp) [iv, hil, hxg, hr, Ty.cs_len, Ty.cs_take]
    refine ca_pure (by kernel_rfl) (c_Check x _) ?_
    by_cases hx0 : x.check = 0
    · rw [if_pos hx0] at hc
      simp (disch := first | omega | simp) [iv, hx0, hiv]
      refine hk (i + 1) _ _ _ (.refl (by first | omega | (simp only [up_nx, put_nx]; done) | (simp only [up_nx, put_nx]; omega))) ⟨hil, ?_, (by first | omega | (simp only [up_nx, put_nx]; done) | (simp only [up_nx, put_nx]; omega)), hc⟩ (by omega)
      have hw := hw1
      exact hle.trans (by repeat (first | with_reducible assumption | with_reducible exact AH.le.refl _ | with_reducible apply AH.le.up | (with_reducible refine AH.le.put hw ?_ ?_; · first | omega | (simp only [up_nx, put_nx, kill_nx]; done) | (simp only [up_nx, put_nx, kill_nx]; omega)) | (with_reducible refine AH.le.kill hw ?_ ?_; · first | omega | (simp only [up_nx, put_nx, kill_nx]; done) | (simp only [up_nx, put_nx, kill_nx]; omega))))
    · rw [if_neg hx0] at hc
      simp (disch := first | omega | simp) [iv, hx0]
      refine rt_one hw ?_ (by repeat (first | exact Cl.p _ | exact Cl.dsl _ _ | exact Cl.any | refine Cl.tup ?_ | refine Cl.agg ?_ | exact Clo.nil | refine Clo.cons ?_ ?_)) ⟨rfl, by rw [hav, hc, if_pos hx0]⟩
      have hle2 := hMl.trans hle
      exact (by repeat (first | with_reducible assumption | with_reducible exact AH.le.refl _ | with_reducible apply AH.le.up | (with_reducible refine AH.le.put hw ?_ ?_; · first | omega | (simp only [up_nx, put_nx, kill_nx]; done) | (simp only [up_nx, put_nx, kill_nx]; omega)) | (with_reducible refine AH.le.kill hw ?_ ?_; · first | omega | (simp only [up_nx, put_nx, kill_nx]; done) | (simp only [up_nx, put_nx, kill_nx]; omega))))
  · have hcz : chkL m = 0 := by rw [hc, List.drop_eq_nil_iff.2 (by omega), chkL]
    obtain ⟨gl, gg⟩ := hgoods hcz
    have hsz := gl.sizes
    have hgs := gg.size
    simp (disch := first | omega | simp) [iv, hil]
    refine cav_pure (by kernel_rfl) (fun H2 _ => c_slashes l (by omega) H2) ?_
    simp (disch := first | omega | simp) [iv, hgg, Ty.cs_len, Ty.cs_take]
    refine can_frz (i := H1.nx + 3) (t := 24) (sz := 3) (es := [g.cs]) (r := iv (Ty.sls [g])) (by kernel_rfl) (by simp) (wf_none hw1 (by first | omega | (simp only [up_nx, put_nx, kill_nx]; done) | (simp only [up_nx, put_nx, kill_nx]; omega))) (by simp) (dt_ty [g]) (fun H4 hle4 => ?_) ?_
    · have hf : H4.get (H1.nx + 3) = some (.frz 3 [g.cs]) := hle4 _ _ (by simp (disch := first | omega | simp))
      exact Tri.args (.cons (Sub.frz hf (by simp)) .nil) (c_slashes [g] (by rw [Ty.sizes, Ty.sizes]; omega) H4)
    have hs1 : Ty.sls l ≤ Ty.sizes l := Ty.sls_len l
    have hs2 : Ty.sls [g] ≤ Ty.sizes [g] := Ty.sls_len [g]
    have hs3 : Ty.sizes [g] = g.size := by rw [Ty.sizes, Ty.sizes]; omega
    have hs4 : Ty.sls [g] = g.sl := by rw [Ty.sls_cons, Ty.sls_nil]; omega
    have hws : IntKind.i64.wrap ((Ty.sls l : Int) + (Ty.sls [g] : Int)) = (Ty.sls l : Int) + (Ty.sls [g] : Int) := wrapI (by omega) (by omega)
    have hle2 := hMl.trans hle
    by_cases h10 : 10 < Ty.sls l + g.sl
    · have h10' : (10 : Int) < (Ty.sls l : Int) + (Ty.sls [g] : Int) := by omega
      simp (disch := first | omega | simp) [iv, hws, h10']
      exact rt_one hw (by repeat (first | with_reducible assumption | with_reducible exact AH.le.refl _ | with_reducible apply AH.le.up | (with_reducible refine AH.le.put hw ?_ ?_; · first | omega | (simp only [up_nx, put_nx, kill_nx]; done) | (simp only [up_nx, put_nx, kill_nx]; omega)) | (with_reducible refine AH.le.kill hw ?_ ?_; · first | omega | (simp only [up_nx, put_nx, kill_nx]; done) | (simp only [up_nx, put_nx, kill_nx]; omega)))) (by repeat (first | exact Cl.p _ | exact Cl.dsl _ _ | exact Cl.any | refine Cl.tup ?_ | refine Cl.agg ?_ | exact Clo.nil | refine Clo.cons ?_ ?_)) ⟨rfl, by rw [hav, if_neg (by simp [hcz]), if_pos h10]⟩
    · have h10' : ¬ (10 : Int) < (Ty.sls l : Int) + (Ty.sls [g] : Int) := by omega
      simp (disch := first | omega | simp) [iv, hws, h10']
      exact rt_one hw (by repeat (first | with_reducible assumption | with_reducible exact AH.le.refl _ | with_reducible apply AH.le.up | (with_reducible refine AH.le.put hw ?_ ?_; · first | omega | (simp only [up_nx, put_nx, kill_nx]; done) | (simp only [up_nx, put_nx, kill_nx]; omega)) | (with_reducible refine AH.le.kill hw ?_ ?_; · first | omega | (simp only [up_nx, put_nx, kill_nx]; done) | (simp only [up_nx, put_nx, kill_nx]; omega)))) (by repeat (first | exact Cl.p _ | exact Cl.dsl _ _ | exact Cl.any | refine Cl.tup ?_ | refine Cl.agg ?_ | exact Clo.nil | refine Clo.cons ?_ ?_)) ⟨rfl, by rw [hav, if_neg (by simp [hcz]), if_neg h10]⟩)
end Go.Proofs.Ytpmnlikgldacaaa

/- No two sequents have the same key. Plain. -/
namespace Go.Proofs.Ytpmnlikgldacaaa
theorem txt_base {n : Int} (h0 : 0 ≤ n) (h9 : n ≤ 9) : (97 + n).toNat.toUInt8 ≠ 40 ∧ ∀ m : Int, 0 ≤ m → m ≤ 9 → (97 + n).toNat.toUInt8 = (97 + m).toNat.toUInt8 → n = m := by
  have hn : n = 0 ∨ n = 1 ∨ n = 2 ∨ n = 3 ∨ n = 4 ∨ n = 5 ∨ n = 6 ∨ n = 7 ∨ n = 8 ∨ n = 9 := by omega
  refine ⟨by rcases hn with rfl | rfl | rfl | rfl | rfl | rfl | rfl | rfl | rfl | rfl <;> decide, fun m m0 m9 h => ?_⟩
  have hm : m = 0 ∨ m = 1 ∨ m = 2 ∨ m = 3 ∨ m = 4 ∨ m = 5 ∨ m = 6 ∨ m = 7 ∨ m = 8 ∨ m = 9 := by omega
  rcases hn with rfl | rfl | rfl | rfl | rfl | rfl | rfl | rfl | rfl | rfl <;> rcases hm with rfl | rfl | rfl | rfl | rfl | rfl | rfl | rfl | rfl | rfl <;> first | rfl | exact absurd h (by decide)
/-- no part's text begins another one's -/
theorem txt_inj : ∀ (N : Nat) (a b : Ty) (r s : List UInt8), a.size ≤ N → Good a → Good b → a.txt ++ r = b.txt ++ s → a = b ∧ r = s
  | 0, a, _, _, _, h, _, _, _ => by have := a.size_pos; omega
  | N + 1, a, b, r, s, h, ha, hb, e => by
    rcases ha.cases with ⟨n, rfl, n0, n9⟩ | ⟨x, y, rfl, hx, hy⟩ | ⟨y, x, rfl, hy, hx⟩ <;> rcases hb.cases with ⟨m, rfl, m0, m9⟩ | ⟨x', y', rfl, hx', hy'⟩ | ⟨y', x', rfl, hy', hx'⟩
    · rw [Ty.txt_b, Ty.txt_b] at e
      simp only [List.singleton_append, List.cons.injEq] at e
      have := (txt_base n0 n9).2 m m0 m9 e.1
      subst this
      exact ⟨rfl, e.2⟩
    · rw [Ty.txt_b, Ty.txt_o] at e
      simp only [List.cons_append, List.cons.injEq] at e
      exact absurd e.1 (txt_base n0 n9).1
    · rw [Ty.txt_b, Ty.txt_u] at e
      simp only [List.cons_append, List.cons.injEq] at e
      exact absurd e.1 (txt_base n0 n9).1
    · rw [Ty.txt_b, Ty.txt_o] at e
      simp only [List.cons_append, List.cons.injEq] at e
      exact absurd e.1.symm (txt_base m0 m9).1
    · rw [Ty.size_o] at h
      rw [Ty.txt_o, Ty.txt_o] at e
      simp only [List.cons_append, List.append_assoc, List.cons.injEq, true_and] at e
      have q := txt_inj N x x' _ _ (by omega) hx hx' e
      clear e
      obtain ⟨q1, e⟩ := q
      subst q1
      simp only [List.cons.injEq, true_and] at e
      have q := txt_inj N y y' _ _ (by omega) hy hy' e
      clear e
      obtain ⟨q1, e⟩ := q
      subst q1
      simp only [List.nil_append, List.cons.injEq, true_and] at e
      exact ⟨rfl, e⟩
    · rw [Ty.size_o] at h
      rw [Ty.txt_o, Ty.txt_u] at e
      simp only [List.cons_append, List.append_assoc, List.cons.injEq, true_and] at e
      have q := txt_inj N x y' _ _ (by omega) hx hy' e
      clear e
      obtain ⟨q1, e⟩ := q
      subst q1
      simp only [List.cons.injEq] at e
      exact absurd e.1 (by decide)
    · rw [Ty.txt_b, Ty.txt_u] at e
      simp only [List.cons_append, List.cons.injEq] at e
      exact absurd e.1.symm (txt_base m0 m9).1
    · rw [Ty.size_u] at h
      rw [Ty.txt_u, Ty.txt_o] at e
      simp only [List.cons_append, List.append_assoc, List.cons.injEq, true_and] at e
      have q := txt_inj N y x' _ _ (by omega) hy hx' e
      clear e
      obtain ⟨q1, e⟩ := q
      subst q1
      simp only [List.cons.injEq] at e
      exact absurd e.1 (by decide)
    · rw [Ty.size_u] at h
      rw [Ty.txt_u, Ty.txt_u] at e
      simp only [List.cons_append, List.append_assoc, List.cons.injEq, true_and] at e
      have q := txt_inj N y y' _ _ (by omega) hy hy' e
      clear e
      obtain ⟨q1, e⟩ := q
      subst q1
      simp only [List.cons.injEq, true_and] at e
      have q := txt_inj N x x' _ _ (by omega) hx hx' e
      clear e
      obtain ⟨q1, e⟩ := q
      subst q1
      simp only [List.nil_append, List.cons.injEq, true_and] at e
      exact ⟨rfl, e⟩
theorem txt_cons {t : Ty} (h : Good t) : ∃ b r, t.txt = b :: r := by
  rcases h.cases with ⟨n, rfl, _⟩ | ⟨x, y, rfl, _⟩ | ⟨y, x, rfl, _⟩
  · exact ⟨_, _, Ty.txt_b n⟩
  · exact ⟨_, _, Ty.txt_o x y⟩
  · exact ⟨_, _, Ty.txt_u y x⟩
theorem txts_inj : ∀ {l m : List Ty}, Goods l → Goods m → (l.map Ty.txt).flatten = (m.map Ty.txt).flatten → l = m
  | [], [], _, _, _ => rfl
  | [], b :: m, _, hm, h => by
    obtain ⟨x, r, e⟩ := txt_cons hm.head
    simp [e] at h
  | a :: l, [], hl, _, h => by
    obtain ⟨x, r, e⟩ := txt_cons hl.head
    simp [e] at h
  | a :: l, b :: m, hl, hm, h => by
    rw [List.map_cons, List.map_cons, List.flatten_cons, List.flatten_cons] at h
    have q := txt_inj _ a b _ _ (Nat.le_refl _) hl.head hm.head h
    clear h
    obtain ⟨q1, h⟩ := q
    subst q1
    rw [txts_inj hl.tail hm.tail h]
theorem keyL_inj {l m : List Ty} {g z : Ty} (hl : Goods l) (hm : Goods m) (hg : Good g) (hz : Good z) (h : keyL l g = keyL m z) : l = m ∧ g = z := by
  have := txts_inj (hl.app (.cons hg .nil)) (hm.app (.cons hz .nil)) h
  have h2 := List.append_inj' this rfl
  exact ⟨h2.1, by simpa using h2.2⟩
end Go.Proofs.Ytpmnlikgldacaaa

/- The prover: what it keeps in memory; a step's two proofs. -/
namespace Go.Proofs.Ytpmnlikgldacaaa
open Go.RowKit Go.Maps
mutual
def Pf.cs : Pf → List AV
  | ⟨st, l, g, a, n, ks⟩ => [iv st, tE l, iv g.kind, iv g.num, .dsl 3 (g.kids.map Ty.cs), iv a, iv n, .dsl 8 (Pf.css ks)]
def Pf.css : List Pf → List (List AV)
  | [] => []
  | p :: r => Pf.cs p :: Pf.css r
end
theorem Pf.css_map : ∀ ks : List Pf, Pf.css ks = ks.map Pf.cs
  | [] => by rw [Pf.css]; rfl
  | p :: r => by rw [Pf.css, Pf.css_map r]; rfl
theorem Pf.cs_eq (p : Pf) : p.cs = [iv p.step, tE p.left, iv p.goal.kind, iv p.goal.num, .dsl 3 (p.goal.kids.map Ty.cs), iv p.at_, iv p.num, .dsl 8 (p.kids.map Pf.cs)] := by cases p; rw [Pf.cs, Pf.css_map]
theorem Pf.cs_len (p : Pf) : p.cs.length = 8 := by rw [Pf.cs_eq]; rfl
theorem Pf.cs_take (p : Pf) : p.cs.take 8 = p.cs := List.take_of_length_le (by rw [Pf.cs_len]; omega)
theorem Pf.cs_goal (p : Pf) : (p.cs.drop 2).take 3 = p.goal.cs := by rw [Pf.cs_eq, Ty.cs_eq]; rfl
def Pf.av (p : Pf) : AV := .agg p.cs
theorem Pf.cl (p : Pf) (B : Nat) : Clo B p.cs := by
  rw [Pf.cs_eq]; unfold tE; exact (by repeat (first | exact Cl.p _ | exact Cl.dsl _ _ | exact Cl.any | refine Cl.tup ?_ | refine Cl.agg ?_ | exact Clo.nil | refine Clo.cons ?_ ?_))
theorem dt_pf (l : List Pf) : DtR (l.map Pf.cs) := by
  intro e he a ha
  obtain ⟨c, _, rfl⟩ := List.mem_map.1 he
  rw [Pf.cs_eq] at ha
  simp only [List.mem_cons, List.not_mem_nil, or_false] at ha
  rcases ha with rfl | rfl | rfl | rfl | rfl | rfl | rfl | rfl
  · exact Dt.p _
  · exact Dt.dsl _ _
  · exact Dt.p _
  · exact Dt.p _
  · exact Dt.dsl _ _
  · exact Dt.p _
  · exact Dt.p _
  · exact Dt.dsl _ _
open Classical in
noncomputable def fD (s : Ded) : Value → Option AV := fun v => if ∃ x ∈ s, v = .string (mkB (keyL x.1 x.2)) then some (iv 1) else none
noncomputable def MO (s : Ded) : AO := .map 9 s.length (fD s)
theorem fD_cons (s : Ded) (l : List Ty) (g : Ty) : putA (fD s) (.string (mkB (keyL l g))) (iv 1) = fD ((l, g) :: s) := by
  funext v
  unfold putA
  by_cases h : v = .string (mkB (keyL l g))
  · rw [if_pos h]
    unfold fD
    rw [if_pos ⟨(l, g), by simp, h⟩]
  · rw [if_neg h]
    unfold fD
    by_cases h2 : ∃ x ∈ s, v = .string (mkB (keyL x.1 x.2))
    · rw [if_pos h2, if_pos (by obtain ⟨x, hx, e⟩ := h2; exact ⟨x, by simp [hx], e⟩)]
    · rw [if_neg h2, if_neg (fun ⟨x, hx, e⟩ => by
        rcases List.mem_cons.1 hx with rfl | hx
        · exact h e
        · exact h2 ⟨x, hx, e⟩)]
open Classical in
theorem fD_at {s : Ded} (hs : Snd s) {l : List Ty} {g : Ty} (hl : Goods l) (hg : Good g) : fD s (.string (mkB (keyL l g))) = if (l, g) ∈ s then some (iv 1) else none := by
  unfold fD
  by_cases h : (l, g) ∈ s
  · rw [if_pos h, if_pos ⟨_, h, rfl⟩]
  · rw [if_neg h, if_neg (fun ⟨x, hx, e⟩ => by
      injection e with e
      obtain ⟨_, h1, h2⟩ := hs x hx
      obtain ⟨e1, e2⟩ := keyL_inj hl h1 hg h2 (mkB_inj e)
      exact h (by rw [e1, e2]; exact hx))]
theorem MO_cl (s : Ded) (B : Nat) : ClO B (MO s) := fun k a h => by
  unfold fD at h
  split at h
  · injection h with h; subst h; exact Cl.p _
  · cases h
theorem key_some (l : List Ty) (g : Ty) (h : (keyL l g).length ≤ 9223372036854775807) : (keyOf Try.prog 9 (.string (mkB (keyL l g)))).isSome = true := by
  have hu := Try.underlying9
  have hs : (mkB (keyL l g)).size ≤ 9223372036854775807 := by rw [mkB_size]; exact h
  have hml : maxLen = 9223372036854775807 := by decide
  simp [keyOf, mapKey]
  omega
theorem keyedS : Keyed Try.prog 9 := string_keyed Try.underlying9
/-- what a proof's steps are made of is told as data; it is given back with all else as it was, but for the map -/
theorem rt_kids {H H1 : AH} {m : Nat} {o : AO} {r n : Nat} {es : List Pf} {xs : List AV} {ok : AV} {Q : AV → AH → Prop} (hw : WF (H.put m o)) (hle : (H.put m o).le H1) (hn : H.nx ≤ H1.nx) (hr : H.nx ≤ r) (hrow : H1.get r = some (.row 27 8 (es.map Pf.cs))) (hne : n = es.length)
    (hc : Clo H.nx xs) (hok : Cl H.nx ok) (hq : Q (.tup [.agg (xs ++ [.dsl 8 (es.map Pf.cs)]), ok]) (H.put m o)) : Rt Try.prog H.nx (.tup [.agg (xs ++ [.osl r 8 0 n]), ok]) Q H1 := by
  subst hne
  have hs : Sub Try.prog (H1.put r (.frz 8 (es.map Pf.cs))) (.osl r 8 0 es.length) (.dsl 8 (es.map Pf.cs)) := by
    have := Sub.frz (P := Try.prog) (H := H1.put r (.frz 8 (es.map Pf.cs))) (r := r) (off := 0) (n := es.length) (put_get _ _) (by simp)
    rw [List.drop_zero, List.take_of_length_le (by simp)] at this
    exact this
  have hxs : ∀ ys : List AV, Subs Try.prog (H1.put r (.frz 8 (es.map Pf.cs))) (ys ++ [.osl r 8 0 es.length]) (ys ++ [.dsl 8 (es.map Pf.cs)]) := fun ys => by
    induction ys with
    | nil => exact .cons hs .nil
    | cons y ys ih => exact .cons (.refl _) ih
  refine rt_row (n := 0) (H0 := H.put m o) hw hn hr hle hrow (dt_pf es) (.tup (.cons (.agg (hxs xs)) (.cons (.refl _) .nil))) (.tup (.cons (.agg fun a ha => ?_) (.cons hok .nil))) hq
  rcases List.mem_append.1 ha with ha | ha
  · exact hc a ha
  · simp at ha; subst ha; exact Cl.dsl _ _
theorem take7_set {cs : List AV} (h : cs.length = 8) (x : AV) : List.take 8 (List.take 7 cs ++ x :: List.drop 8 cs) = List.take 7 cs ++ [x] := by
  rw [List.drop_of_length_le (by omega)]
  exact List.take_of_length_le (by rw [List.length_append, List.length_take]; simp; omega)
theorem take8_app {cs : List AV} (h : cs.length = 8) (z : List AV) : List.take 8 (cs ++ z) = cs := by
  rw [List.take_append_of_le_length (by omega), List.take_of_length_le (by omega)]
theorem take8_7 {cs : List AV} (h : cs.length = 8) (x : AV) (z : List AV) : List.take 8 (List.take 7 cs ++ [x] ++ z) = List.take 7 cs ++ [x] := take8_app (by rw [List.length_append, List.length_take]; simp; omega) z
def PrAt (H : AH) (pr m : Nat) (s : Ded) : Prop := H.get pr = some (.box 63 [.mp m]) ∧ H.get m = some (MO s)
/-- what a look for a proof does in memory -/
def PrC (N : Nat) : Prop := ∀ (l : List Ty) (g : Ty) (s : Ded) (pr m : Nat) (H : AH), Goods l → Good g → Ty.sls l + g.sl < N → l.length + (Ty.sls l + g.sl) ≤ 16 → Snd s → s.length + cost (Ty.sls l + g.sl) ≤ 9000000000000000000 → PrAt H pr m s →
  Tri Try.prog 34 [.ptr pr 0, tE l, g.av] H (fun r H' => H' = H.put m (MO (proofF N l g s).2.2) ∧ r = .tup [(proofF N l g s).1.av, bv (proofF N l g s).2.1])
set_option maxHeartbeats 2000000 in
theorem c_both {N : Nat} (hP : PrC N) (p : Pf) (d : List Ty) (x : Ty) (rest : List Ty) (s : Ded) (pr m : Nat) (H : AH) (hd : Goods d) (hx : Good x) (hr : Goods rest) (hg : Good p.goal) (h1 : Ty.sls d + x.sl < N) (h2 : Ty.sls rest + p.goal.sl < N) (h3 : d.length + (Ty.sls d + x.sl) ≤ 16) (h4 : rest.length + (Ty.sls rest + p.goal.sl) ≤ 16)
    (hs : Snd s) (hc : s.length + cost (Ty.sls d + x.sl) + cost (Ty.sls rest + p.goal.sl) ≤ 9000000000000000000) (ha : PrAt H pr m s) :
    Tri Try.prog 77 [.ptr pr 0, p.av, tE d, x.av, tE rest] H (fun r H' => H' = H.put m (MO (both (proofF N) p d x rest s).2.2) ∧ r = .tup [(both (proofF N) p d x rest s).1.av, bv (both (proofF N) p d x rest s).2.1]) := tri_wf fun hw => tri_prover_both (by
  have hml : maxLen = 9223372036854775807 := by decide
  obtain ⟨ha1, ha2⟩ := ha
  have hpn := (hw _ _ ha1).1
  have hmn := (hw _ _ ha2).1
  have hpm : pr ≠ m := fun e => by subst e; rw [ha1] at ha2; cases ha2
  have hwM : ∀ s, WF (H.put m (MO s)) := fun s => hw.put hmn (MO_cl s _)
  obtain ⟨t1, t2, t3, t4⟩ := proofF_spec N d x s hd hx h1 h3 hs
  unfold S_prover_both both
  simp (disch := first | omega | simp) [Pf.av, put_get_ne, Ty.av, Ty.cs_len, Ty.cs_take]
  refine ca_of (by kernel_rfl) (hP d x s pr m _ hd hx h1 h3 hs (by omega) ⟨by simp (disch := first | omega | simp) [put_get_ne, ha1], by simp (disch := first | omega | simp) [put_get_ne, ha2]⟩) ?_
  rintro _ _ ⟨rfl, rfl⟩
  generalize proofF N d x s = a at *
  obtain ⟨a1, aok, sa⟩ := a
  dsimp only at t1 t2 t3 t4 ⊢
  simp (disch := first | omega | simp) [Pf.av, bv, Pf.cs_len, Pf.cs_take, put_get_ne]
  cases aok with
  | false =>
    simp (disch := first | omega | simp)
    exact rt_tupP (hwM sa) (by repeat (first | with_reducible assumption | with_reducible apply AH.le.up | (with_reducible refine AH.le.put (hwM _) ?_ ?_; · first | omega | (simp only [put_nx]; done) | (simp only [put_nx]; omega)) | (with_reducible refine AH.le.kill (hwM _) ?_ ?_; · first | omega | (simp only [up_nx, put_nx, kill_nx]; done) | (simp only [up_nx, put_nx, kill_nx]; omega)) | with_reducible refine le_base ?_ | (with_reducible refine AH.le.put hw ?_ ?_; · first | omega | (simp only [up_nx, put_nx, kill_nx]; done) | (simp only [up_nx, put_nx, kill_nx]; omega)) | with_reducible exact AH.le.refl _)) (.cons (.agg (Pf.cl _ _)) (.cons (Cl.p _) .nil)) ⟨rfl, rfl⟩
  | true =>
    simp (disch := first | omega | simp) [Pf.cs_goal]
    generalize hM : AH.up _ 11 = M
    have hMl : (H.put m (MO sa)).le M := by rw [← hM]; exact (by repeat (first | with_reducible assumption | with_reducible apply AH.le.up | (with_reducible refine AH.le.put (hwM _) ?_ ?_; · first | omega | (simp only [put_nx]; done) | (simp only [put_nx]; omega)) | (with_reducible refine AH.le.kill (hwM _) ?_ ?_; · first | omega | (simp only [up_nx, put_nx, kill_nx]; done) | (simp only [up_nx, put_nx, kill_nx]; omega)) | with_reducible refine le_base ?_ | (with_reducible refine AH.le.put hw ?_ ?_; · first | omega | (simp only [up_nx, put_nx, kill_nx]; done) | (simp only [up_nx, put_nx, kill_nx]; omega)) | with_reducible exact AH.le.refl _))
    have hMn : M.nx = H.nx + 25 := by rw [← hM]; rfl
    have hM0 : M.get H.nx = some (.box 27 p.cs) := by rw [← hM]; simp (disch := first | omega | simp) [put_get_ne]
    have hM2 : ∃ cs, M.get (H.nx + 2) = some (.box 27 cs) ∧ cs.length = 8 := by rw [← hM]; exact ⟨_, by simp (disch := first | omega | simp) [put_get_ne]; rfl, rfl⟩
    have hM7 : M.get (H.nx + 4 + 7) = some (.box 27 a1.cs) := by rw [← hM]; simp (disch := first | omega | simp)
    have hMp : M.get pr = some (.box 63 [.mp m]) := hMl _ _ (by rw [AH.get_put_ne hpm]; exact ha1)
    have hMm : M.get m = some (MO sa) := hMl _ _ (put_get _ _)
    clear hM
    obtain ⟨cs2, hM2, hc2⟩ := hM2
    obtain ⟨u1, u2, u3, u4⟩ := proofF_spec N rest p.goal sa hr hg h2 h4 t2
    refine ca_of (by kernel_rfl) (hP rest p.goal sa pr m _ hr hg h2 h4 t2 (by omega) ⟨hMp, hMm⟩) ?_
    rintro _ _ ⟨rfl, rfl⟩
    generalize proofF N rest p.goal sa = b at *
    obtain ⟨b1, bok, sb⟩ := b
    dsimp only at u1 u2 u3 u4 ⊢
    simp (disch := first | omega | simp) [Pf.av, bv, Pf.cs_len, Pf.cs_take, put_get_ne, hM0, hM2, hM7, hc2]
    rw [take7_set (Pf.cs_len p), take8_7 (Pf.cs_len p), take8_app (Pf.cs_len a1), take8_app (Pf.cs_len b1)]
    refine rt_kids (es := [a1, b1]) (hwM sb) ?_ (by first | omega | (simp only [up_nx, put_nx]; done) | (simp only [up_nx, put_nx]; omega)) (by omega) (by simp (disch := first | omega | simp) [put_get_ne]) rfl (fun a ha => Pf.cl p _ a (List.mem_of_mem_take ha)) (Cl.p _) ⟨rfl, ?_⟩
    · have h5 : (H.put m (MO sb)).le (M.put m (MO sb)) := le_rebase hMl
      exact (by repeat (first | with_reducible assumption | with_reducible apply AH.le.up | (with_reducible refine AH.le.put (hwM _) ?_ ?_; · first | omega | (simp only [put_nx]; done) | (simp only [put_nx]; omega)) | (with_reducible refine AH.le.kill (hwM _) ?_ ?_; · first | omega | (simp only [up_nx, put_nx, kill_nx]; done) | (simp only [up_nx, put_nx, kill_nx]; omega)) | with_reducible refine le_base ?_ | (with_reducible refine AH.le.put hw ?_ ?_; · first | omega | (simp only [up_nx, put_nx, kill_nx]; done) | (simp only [up_nx, put_nx, kill_nx]; omega)) | with_reducible exact AH.le.refl _))
    · rw [Pf.cs_eq, Pf.cs_eq]; rfl)
end Go.Proofs.Ytpmnlikgldacaaa

/- The prover: a proof, by a search and what is known. -/
namespace Go.Proofs.Ytpmnlikgldacaaa
open Go.RowKit Go.Maps
/-- what a search does in memory -/
def SrC (N : Nat) : Prop := ∀ (l : List Ty) (g : Ty) (s : Ded) (pr m : Nat) (H : AH), Goods l → Good g → l ≠ [] → Ty.sls l + g.sl ≤ N → l.length + (Ty.sls l + g.sl) ≤ 16 → Snd s → s.length + cost (Ty.sls l + g.sl) ≤ 9000000000000000000 → PrAt H pr m s →
  Tri Try.prog 64 [.ptr pr 0, tE l, g.av] H (fun r H' => H' = H.put m (MO (searchF (proofF N) l g s).2.2) ∧ r = .tup [(searchF (proofF N) l g s).1.av, bv (searchF (proofF N) l g s).2.1])
theorem zero_cs : zeroP.cs = [iv 0, .dsl 3 [], iv 0, iv 0, .dsl 3 [], iv 0, iv 0, .dsl 8 []] := by rw [Pf.cs_eq]; rfl
theorem sub_zero {H : AH} {ok : AV} : Sub Try.prog H (.tup [.agg [.p (.int .i64 0), .p (.slice none 0 0), .p (.int .i64 0), .p (.int .i64 0), .p (.slice none 0 0), .p (.int .i64 0), .p (.int .i64 0), .p (.slice none 0 0)], ok]) (.tup [zeroP.av, ok]) := by
  unfold Pf.av
  rw [zero_cs]
  exact .tup (.cons (.agg (.cons (.refl _) (.cons (Sub.nil 3 0 (Nat.zero_le _)) (.cons (.refl _) (.cons (.refl _) (.cons (Sub.nil 3 0 (Nat.zero_le _)) (.cons (.refl _) (.cons (.refl _) (.cons (Sub.nil 8 0 (Nat.zero_le _)) .nil))))))))) (.cons (.refl _) .nil))
theorem rt_zero {H H1 : AH} {Q : AV → AH → Prop} {b : Bool} (hw : WF H) (hle : H.le H1) (hn : H.nx ≤ H1.nx) (hq : Q (.tup [zeroP.av, bv b]) H) : Rt Try.prog H.nx (.tup [.agg [.p (.int .i64 0), .p (.slice none 0 0), .p (.int .i64 0), .p (.int .i64 0), .p (.slice none 0 0), .p (.int .i64 0), .p (.int .i64 0), .p (.slice none 0 0)], .p (.bool b)]) Q H1 :=
  rt_sub hw hle hn sub_zero (.tup (.cons (.agg (Pf.cl _ _)) (.cons (Cl.p _) .nil))) hq
theorem le_same {H H1 : AH} {m : Nat} {o : AO} (hle : H.le H1) (h : H1.get m = some o) : (H.put m o).le H1 := fun j o' hj => by
  by_cases e : j = m
  · subst e; rw [AH.get_put_self] at hj; injection hj with hj; subst hj; exact h
  · rw [AH.get_put_ne e] at hj; exact hle j o' hj
theorem rt_zeroP {H H1 : AH} {m : Nat} {o : AO} {Q : AV → AH → Prop} {b : Bool} (hw : WF (H.put m o)) (hle : (H.put m o).le H1) (hn : H.nx ≤ H1.nx) (hq : Q (.tup [zeroP.av, bv b]) (H.put m o)) : Rt Try.prog H.nx (.tup [.agg [.p (.int .i64 0), .p (.slice none 0 0), .p (.int .i64 0), .p (.int .i64 0), .p (.slice none 0 0), .p (.int .i64 0), .p (.int .i64 0), .p (.slice none 0 0)], .p (.bool b)]) Q H1 :=
  rt_zero (H := H.put m o) hw hle hn hq
theorem mset_MO {P : Program} {i : Nat} {key a : AV} {H : AH} {k : AH → Prop} {s : Ded} : msetF P 9 i key a H k (some (MO s)) = (9 = 9 ∧ Keyed P 9 ∧ onSome key.val (fun u => (keyOf P 9 u).isSome = true ∧ s.length < maxLen ∧ k (H.put i (.map 9 (s.length + 1) (putA (fD s) u a))))) := rfl
set_option maxHeartbeats 2000000 in
theorem proof_of {N : Nat} (hS : SrC N) : PrC (N + 1) := by
  intro l g s pr m H hl hg hN hK hs hc ha
  refine tri_wf fun hw => tri_prover_proof ?_
  have hml : maxLen = 9223372036854775807 := by decide
  obtain ⟨ha1, ha2⟩ := ha
  have hpn := (hw _ _ ha1).1
  have hmn := (hw _ _ ha2).1
  have hpm : pr ≠ m := fun e => by subst e; rw [ha1] at ha2; cases ha2
  have hwM : ∀ s, WF (H.put m (MO s)) := fun s => hw.put hmn (MO_cl s _)
  unfold S_prover_proof
  rw [proofF]
  by_cases h0 : l = []
  · subst h0
    rw [if_pos (.inl rfl)]
    simp (disch := first | omega | simp) [tE, Ty.av]
    exact rt_zeroP (hwM s) (le_same (by repeat (first | with_reducible assumption | with_reducible exact AH.le.refl _ | with_reducible apply AH.le.up | (with_reducible refine AH.le.put hw ?_ ?_; · first | omega | (simp only [up_nx, put_nx, kill_nx]; done) | (simp only [up_nx, put_nx, kill_nx]; omega)) | (with_reducible refine AH.le.kill hw ?_ ?_; · first | omega | (simp only [up_nx, put_nx, kill_nx]; done) | (simp only [up_nx, put_nx, kill_nx]; omega)))) (by simp (disch := first | omega | simp) [put_get_ne, ha2])) (by first | omega | (simp only [up_nx, put_nx]; done) | (simp only [up_nx, put_nx]; omega)) ⟨rfl, rfl⟩
  have hpos : 0 < l.length := List.length_pos_iff.2 h0
  have h0' : ¬ l.length = 0 := by omega
  have h0'' : ¬ (l.length : Int) = 0 := by omega
  cases hlev : levelB l g with
  | false =>
    rw [if_pos (.inr rfl)]
    unfold tE
    simp (disch := first | omega | simp) [h0', Ty.av, Ty.cs_len, Ty.cs_take, put_get_ne]
    refine ca_pure (by kernel_rfl) (c_balanced hl hg (by omega) _) ?_
    rw [hlev]
    simp (disch := first | omega | simp) [bv]
    exact rt_zeroP (hwM s) (le_same (by repeat (first | with_reducible assumption | with_reducible exact AH.le.refl _ | with_reducible apply AH.le.up | (with_reducible refine AH.le.put hw ?_ ?_; · first | omega | (simp only [up_nx, put_nx, kill_nx]; done) | (simp only [up_nx, put_nx, kill_nx]; omega)) | (with_reducible refine AH.le.kill hw ?_ ?_; · first | omega | (simp only [up_nx, put_nx, kill_nx]; done) | (simp only [up_nx, put_nx, kill_nx]; omega)))) (by simp (disch := first | omega | simp) [put_get_ne, ha2])) (by first | omega | (simp only [up_nx, put_nx]; done) | (simp only [up_nx, put_nx]; omega)) ⟨rfl, rfl⟩
  | true =>
    rw [if_neg (by simp [h0])]
    unfold tE
    simp (disch := first | omega | simp) [h0', Ty.av, Ty.cs_len, Ty.cs_take, put_get_ne]
    refine ca_pure (by kernel_rfl) (c_balanced hl hg (by omega) _) ?_
    rw [hlev]
    simp (disch := first | omega | simp) [bv, Ty.cs_len, Ty.cs_take, put_get_ne]
    refine ca_pure (by kernel_rfl) (c_key hl hg (by omega) _) ?_
    have hkl : (keyL l g).length ≤ 45 * (l.length + 1) := by
      have := keyTake_len (hl.app (.cons hg .nil)) (l ++ [g]).length
      rw [List.take_length] at this
      unfold keyL; simpa using this
    have hks := key_some l g (by omega)
    have ha2' : H.get m = some (.map 9 s.length (fD s)) := ha2
    simp (disch := first | omega | simp) [put_get_ne, ha1, ha2', sv, keyedS, hks]
    rw [fD_at hs hl hg]
    by_cases hin : (l, g) ∈ s
    · rw [if_pos hin, if_pos hin]
      simp (disch := first | omega | simp) [iv]
      exact rt_zeroP (hwM s) (le_same (by repeat (first | with_reducible assumption | with_reducible exact AH.le.refl _ | with_reducible apply AH.le.up | (with_reducible refine AH.le.put hw ?_ ?_; · first | omega | (simp only [up_nx, put_nx, kill_nx]; done) | (simp only [up_nx, put_nx, kill_nx]; omega)) | (with_reducible refine AH.le.kill hw ?_ ?_; · first | omega | (simp only [up_nx, put_nx, kill_nx]; done) | (simp only [up_nx, put_nx, kill_nx]; omega)))) (by simp (disch := first | omega | simp) [put_get_ne, ha2])) (by first | omega | (simp only [up_nx, put_nx]; done) | (simp only [up_nx, put_nx]; omega)) ⟨rfl, rfl⟩
    · rw [if_neg hin, if_neg hin]
      simp (disch := first | omega | simp)
      unfold S_prover_proof_C1
      simp (disch := first | omega | simp) [Ty.cs_len, Ty.cs_take, put_get_ne]
      refine ca_of (by kernel_rfl) (hS l g s pr m _ hl hg h0 (by omega) hK hs hc ⟨by simp (disch := first | omega | simp) [put_get_ne, ha1], by simp (disch := first | omega | simp) [put_get_ne, ha2]⟩) ?_
      obtain ⟨u1, u2, u3, u4⟩ := searchF_spec (T := Ty.sls l + g.sl) (fun l' g' s' b1 b2 b3 b4 b5 => proofF_spec N l' g' s' b1 b2 (by omega) b4 b5) hl hg rfl hK h0 s hs
      rintro _ _ ⟨rfl, rfl⟩
      generalize searchF (proofF N) l g s = a at *
      obtain ⟨a1, aok, sa⟩ := a
      dsimp only at u1 u2 u3 u4 ⊢
      cases aok with
      | true =>
        simp (disch := first | omega | simp) [Pf.av, bv, Pf.cs_len, Pf.cs_take, put_get_ne]
        exact rt_tupP (hwM sa) (by repeat (first | with_reducible assumption | with_reducible apply AH.le.up | (with_reducible refine AH.le.put (hwM _) ?_ ?_; · first | omega | (simp only [put_nx]; done) | (simp only [put_nx]; omega)) | (with_reducible refine AH.le.kill (hwM _) ?_ ?_; · first | omega | (simp only [up_nx, put_nx, kill_nx]; done) | (simp only [up_nx, put_nx, kill_nx]; omega)) | with_reducible refine le_base ?_ | (with_reducible refine AH.le.put hw ?_ ?_; · first | omega | (simp only [up_nx, put_nx, kill_nx]; done) | (simp only [up_nx, put_nx, kill_nx]; omega)) | with_reducible exact AH.le.refl _)) (.cons (.agg (Pf.cl _ _)) (.cons (Cl.p _) .nil)) ⟨rfl, rfl⟩
      | false =>
        simp (disch := first | omega | simp) [Pf.av, bv, Pf.cs_len, Pf.cs_take, put_get_ne, ha1, keyedS, hks]
        show (9 = 9 ∧ sa.length < maxLen ∧ _)
        refine ⟨rfl, by omega, ?_⟩
        have hput : putA (fD sa) (.string (mkB (keyL l g))) (.p (.int .i64 1)) = fD ((l, g) :: sa) := fD_cons sa l g
        rw [hput, show AO.map 9 (sa.length + 1) (fD ((l, g) :: sa)) = MO ((l, g) :: sa) from rfl]
        generalize hX : AH.up _ 6 = X
        have hXl : (H.put m (MO sa)).le X := by rw [← hX]; exact (by repeat (first | with_reducible assumption | with_reducible apply AH.le.up | (with_reducible refine AH.le.put (hwM _) ?_ ?_; · first | omega | (simp only [put_nx]; done) | (simp only [put_nx]; omega)) | (with_reducible refine AH.le.kill (hwM _) ?_ ?_; · first | omega | (simp only [up_nx, put_nx, kill_nx]; done) | (simp only [up_nx, put_nx, kill_nx]; omega)) | with_reducible refine le_base ?_ | (with_reducible refine AH.le.put hw ?_ ?_; · first | omega | (simp only [up_nx, put_nx, kill_nx]; done) | (simp only [up_nx, put_nx, kill_nx]; omega)) | with_reducible exact AH.le.refl _))
        have hXn : X.nx = H.nx + 19 := by rw [← hX]; rfl
        clear hX
        have h5 : (H.put m (MO ((l, g) :: sa))).le (X.put m (MO ((l, g) :: sa))) := le_rebase hXl
        exact rt_tupP (hwM _) (by repeat (first | with_reducible assumption | with_reducible apply AH.le.up | (with_reducible refine AH.le.put (hwM _) ?_ ?_; · first | omega | (simp only [put_nx]; done) | (simp only [put_nx]; omega)) | (with_reducible refine AH.le.kill (hwM _) ?_ ?_; · first | omega | (simp only [up_nx, put_nx, kill_nx]; done) | (simp only [up_nx, put_nx, kill_nx]; omega)) | with_reducible refine le_base ?_ | (with_reducible refine AH.le.put hw ?_ ?_; · first | omega | (simp only [up_nx, put_nx, kill_nx]; done) | (simp only [up_nx, put_nx, kill_nx]; omega)) | with_reducible exact AH.le.refl _)) (.cons (.agg (Pf.cl _ _)) (.cons (Cl.p _) .nil)) ⟨rfl, rfl⟩
end Go.Proofs.Ytpmnlikgldacaaa
