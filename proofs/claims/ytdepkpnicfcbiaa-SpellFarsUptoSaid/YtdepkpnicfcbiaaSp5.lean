/- Spelling, plainly: the way from a text to another one, what edits make of a text: what a way makes is the other text, and it costs what Far says. No program in sight. -/
import Derived.Test.YtdepkpnicfcbiaaSp4
import Derived.Test.YtdepkpnicfcbiaaP2
namespace Go.Proofs.Ytdepkpnicfcbiaa
open Go.RowKit

theorem dp_up1 (p q : List ByteArray) (i j : Nat) : dpI p q (i + 1) j ≤ dpI p q i j + 1 := by
  cases j with
  | zero => rw [dpI_left, dpI_left]; omega
  | succ j => rw [dpI_succ]; omega
theorem dp_up2 (p q : List ByteArray) (i j : Nat) : dpI p q i (j + 1) ≤ dpI p q i j + 1 := by
  cases i with
  | zero => rw [dpI_zero, dpI_zero]; omega
  | succ i => rw [dpI_succ]; omega
theorem dp_lo1 (p q : List ByteArray) (i : Nat) : ∀ j, dpI p q i j ≤ dpI p q (i + 1) j + 1
  | 0 => by rw [dpI_left, dpI_left]; omega
  | j + 1 => by
    have h1 := dp_up2 p q i j; have ih := dp_lo1 p q i j
    rw [dpI_succ]; omega
theorem dp_lo2 (p q : List ByteArray) (j : Nat) : ∀ i, dpI p q i j ≤ dpI p q i (j + 1) + 1
  | 0 => by rw [dpI_zero, dpI_zero]; omega
  | i + 1 => by
    have h1 := dp_up1 p q i j; have ih := dp_lo2 p q j i
    rw [dpI_succ]; omega
theorem dp_same (p q : List ByteArray) {i j : Nat} (h : p[i]? = q[j]?) : dpI p q (i + 1) (j + 1) = dpI p q i j := by
  have h1 := dp_lo1 p q i j; have h2 := dp_lo2 p q j i
  rw [dpI_succ, if_pos h]; omega
theorem dp_other (p q : List ByteArray) {i j : Nat} (h : ¬ p[i]? = q[j]?) : dpI p q (i + 1) (j + 1) = min (min (dpI p q i j + 1) (dpI p q i (j + 1) + 1)) (dpI p q (i + 1) j + 1) := by
  rw [dpI_succ, if_neg h]

abbrev Ed := Int × ByteArray
def none_ : ByteArray := ⟨#[]⟩
/-- the way, from its end -/
def wayI (p q : List ByteArray) : Nat → Nat → List Ed
  | 0, 0 => []
  | 0, j + 1 => (4, q.getD j none_) :: wayI p q 0 j
  | i + 1, 0 => (3, none_) :: wayI p q i 0
  | i + 1, j + 1 =>
    if p[i]? = q[j]? then (1, none_) :: wayI p q i j
    else if dpI p q (i + 1) (j + 1) = dpI p q i j + 1 then (2, q.getD j none_) :: wayI p q i j
    else if dpI p q (i + 1) (j + 1) = dpI p q i (j + 1) + 1 then (3, none_) :: wayI p q i (j + 1)
    else (4, q.getD j none_) :: wayI p q (i + 1) j
termination_by i j => i + j
theorem way_0 (p q : List ByteArray) : wayI p q 0 0 = [] := by rw [wayI]
theorem way_r (p q : List ByteArray) (j : Nat) : wayI p q 0 (j + 1) = (4, q.getD j none_) :: wayI p q 0 j := by rw [wayI]
theorem way_l (p q : List ByteArray) (i : Nat) : wayI p q (i + 1) 0 = (3, none_) :: wayI p q i 0 := by rw [wayI]
theorem way_keep (p q : List ByteArray) {i j : Nat} (h : p[i]? = q[j]?) : wayI p q (i + 1) (j + 1) = (1, none_) :: wayI p q i j := by rw [wayI, if_pos h]
theorem way_turn (p q : List ByteArray) {i j : Nat} (h : ¬ p[i]? = q[j]?) (h2 : dpI p q (i + 1) (j + 1) = dpI p q i j + 1) : wayI p q (i + 1) (j + 1) = (2, q.getD j none_) :: wayI p q i j := by rw [wayI, if_neg h, if_pos h2]
theorem way_drop (p q : List ByteArray) {i j : Nat} (h : ¬ p[i]? = q[j]?) (h2 : ¬ dpI p q (i + 1) (j + 1) = dpI p q i j + 1) (h3 : dpI p q (i + 1) (j + 1) = dpI p q i (j + 1) + 1) : wayI p q (i + 1) (j + 1) = (3, none_) :: wayI p q i (j + 1) := by rw [wayI, if_neg h, if_neg h2, if_pos h3]
theorem way_put (p q : List ByteArray) {i j : Nat} (h : ¬ p[i]? = q[j]?) (h2 : ¬ dpI p q (i + 1) (j + 1) = dpI p q i j + 1) (h3 : ¬ dpI p q (i + 1) (j + 1) = dpI p q i (j + 1) + 1) : wayI p q (i + 1) (j + 1) = (4, q.getD j none_) :: wayI p q (i + 1) j := by rw [wayI, if_neg h, if_neg h2, if_neg h3]
theorem way_len (p q : List ByteArray) (i j : Nat) : (wayI p q i j).length ≤ i + j := by
  fun_induction wayI p q i j <;> simp only [List.length_nil, List.length_cons] <;> omega
/-- what it costs -/
def costI : List Ed → Nat
  | [] => 0
  | e :: l => costI l + if e.1 = 1 then 0 else 1
theorem cost_app (l m : List Ed) : costI (l ++ m) = costI l + costI m := by
  induction l with
  | nil => simp [costI]
  | cons e l ih => simp only [List.cons_append, costI, ih]; omega
theorem cost_rev (l : List Ed) : costI l.reverse = costI l := by
  induction l with
  | nil => rfl
  | cons e l ih => rw [List.reverse_cons, cost_app, ih]; simp [costI]
theorem way_cost (p q : List ByteArray) (i j : Nat) : costI (wayI p q i j) = dpI p q i j := by
  fun_induction wayI p q i j with
  | case1 => rw [dpI_zero]; rfl
  | case2 j ih => simp [costI, ih, dpI_zero]
  | case3 i ih => simp [costI, ih, dpI_left]
  | case4 i j h ih => simp [costI, ih, dp_same p q h]
  | case5 i j h h2 ih => simp [costI, ih]; omega
  | case6 i j h h2 h3 ih => simp [costI, ih]; omega
  | case7 i j h h2 h3 ih =>
    have := dp_other p q h
    simp [costI, ih]; omega

/-- an edit that cannot be made -/
def badE (p : List ByteArray) (e : Ed) (a : Nat) : Prop := e.1 < 1 ∨ 4 < e.1 ∨ ((e.1 = 2 ∨ e.1 = 4) ∧ (txts e.2).length ≠ 1) ∨ ((e.1 = 1 ∨ e.1 = 3) ∧ e.2 ≠ none_) ∨ (e.1 ≠ 4 ∧ a = p.length)
instance (p : List ByteArray) (e : Ed) (a : Nat) : Decidable (badE p e a) := by unfold badE; infer_instance
/-- what edits make: a of the units are taken, n put, text so far -/
def doI (p : List ByteArray) : List Ed → Nat → Nat → ByteArray → ByteArray × Int
  | [], a, n, out => if a < p.length then (none_, 1) else if 200 < n then (none_, 2) else (out, 0)
  | e :: l, a, n, out => if badE p e a then (none_, 1) else if e.1 = 1 then doI p l (a + 1) (n + 1) (out ++ p.getD a none_) else if e.1 = 2 then doI p l (a + 1) (n + 1) (out ++ e.2) else if e.1 = 3 then doI p l (a + 1) n out else doI p l a (n + 1) (out ++ e.2)
def doA (s : ByteArray) (l : List Ed) : ByteArray × Int := if 200 < (txts s).length then (none_, 2) else doI (txts s) l 0 0 none_
section
variable {p : List ByteArray} {e : Ed} {l : List Ed} {a n : Nat} {out : ByteArray}
theorem do_bad (h : badE p e a) : doI p (e :: l) a n out = (none_, 1) := by rw [doI, if_pos h]
theorem do_keep (h1 : e.1 = 1) (h2 : e.2 = none_) (ha : a < p.length) : doI p (e :: l) a n out = doI p l (a + 1) (n + 1) (out ++ p.getD a none_) := by
  rw [doI, if_neg (by unfold badE; rw [h1, h2]; simp; omega), if_pos h1]
theorem do_turn (h1 : e.1 = 2) (h2 : (txts e.2).length = 1) (ha : a < p.length) : doI p (e :: l) a n out = doI p l (a + 1) (n + 1) (out ++ e.2) := by
  rw [doI, if_neg (by unfold badE; rw [h1, h2]; simp; omega), if_neg (by rw [h1]; decide), if_pos h1]
theorem do_drop (h1 : e.1 = 3) (h2 : e.2 = none_) (ha : a < p.length) : doI p (e :: l) a n out = doI p l (a + 1) n out := by
  rw [doI, if_neg (by unfold badE; rw [h1, h2]; simp; omega), if_neg (by rw [h1]; decide), if_neg (by rw [h1]; decide), if_pos h1]
theorem do_put (h1 : e.1 = 4) (h2 : (txts e.2).length = 1) : doI p (e :: l) a n out = doI p l a (n + 1) (out ++ e.2) := by
  rw [doI, if_neg (by unfold badE; rw [h1, h2]; simp), if_neg (by rw [h1]; decide), if_neg (by rw [h1]; decide), if_neg (by rw [h1]; decide)]
end

theorem byteI_ext (s : ByteArray) {a n i : Nat} (h : i < n) : byteI (s.extract a (a + n)) i = byteI s (a + i) := by
  unfold byteI
  rw [extract_toList]
  simp only [List.getD_eq_getElem?_getD, List.getElem?_take, h, if_true, List.getElem?_drop]
theorem contOk_ext (s : ByteArray) {a n : Nat} : ∀ j, j < n → contOk (s.extract a (a + n)) 0 j = contOk s a j
  | 0, _ => rfl
  | j + 1, h => by rw [contOk, contOk, contOk_ext s j (by omega), Nat.zero_add, byteI_ext s (by omega)]
theorem contC_ext (s : ByteArray) {a n : Nat} (c : Int) : ∀ j, j < n → contC (s.extract a (a + n)) 0 c j = contC s a c j
  | 0, _ => rfl
  | j + 1, h => by rw [contC, contC, contC_ext s c j (by omega), Nat.zero_add, byteI_ext s (by omega)]
theorem ext_size (s : ByteArray) {a n : Nat} (h : a + n ≤ s.size) : (s.extract a (a + n)).size = n := by rw [ByteArray.size_extract]; omega
/-- a unit alone is as long as it was in the text -/
theorem atR_ext (s : ByteArray) (a : Nat) (ha : a < s.size) : (atR (s.extract a (a + (atR s a).2.toNat)) 0).2 = (atR s a).2 := by
  have h1 := atR_2 s a
  have h2 := atR_end s a ha
  have hs := ext_size s (a := a) (n := (atR s a).2.toNat) (by omega)
  by_cases h : (atR s a).2 = 1
  · have g1 := atR_2 (s.extract a (a + (atR s a).2.toNat)) 0
    have g2 := atR_end (s.extract a (a + (atR s a).2.toNat)) 0 (by rw [hs]; omega)
    rw [hs] at g2
    omega
  · by_cases c0 : leadN (byteI s a) = 0 ∨ (s.size : Int) < a + leadN (byteI s a)
    · rw [atR_bad1 c0] at h; exact absurd rfl h
    · cases c1 : contOk s a ((leadN (byteI s a)).toNat - 1) with
      | false => rw [atR_bad2 c1] at h; exact absurd rfl h
      | true =>
        by_cases c2 : contC s a (leadC (byteI s a)) ((leadN (byteI s a)).toNat - 1) < leadL (byteI s a) ∨ isLetterB (contC s a (leadC (byteI s a)) ((leadN (byteI s a)).toNat - 1)) = false
        · rw [atR_bad3 c2] at h; exact absurd rfl h
        · have hl : (atR s a).2 = leadN (byteI s a) := by rw [atR_good c0 c1 c2]
          rw [hl] at hs h1 ⊢
          obtain ⟨n, hn⟩ : ∃ n : Nat, (leadN (byteI s a)).toNat = n := ⟨_, rfl⟩
          rw [hn] at hs c1 c2 ⊢
          have e0 : byteI (s.extract a (a + n)) 0 = byteI s a := byteI_ext s (by omega)
          have g := atR_good (s := s.extract a (a + n)) (a := 0) (by rw [e0, hs]; omega) (by rw [e0, hn, contOk_ext s _ (by omega)]; exact c1) (by rw [e0, hn, contC_ext s _ _ (by omega)]; exact c2)
          rw [g, e0]
theorem units_one (s : ByteArray) (h0 : 0 < s.size) (h : (atR s 0).2 = s.size) : unitsFrom s s.size 0 = [(0, (atR s 0).2, (atR s 0).1)] := by
  obtain ⟨m, hm⟩ : ∃ m, s.size = m + 1 := ⟨s.size - 1, by omega⟩
  have e : unitsFrom s m (0 + ((s.size : Int)).toNat) = [] := by
    cases m with
    | zero => rfl
    | succ m => rw [unitsFrom, if_neg (by omega)]
  rw [hm, unitsFrom, if_pos (by omega), h, e]
  rfl
theorem txts_at (s : ByteArray) : ∀ x ∈ txts s, ∃ a : Nat, a < s.size ∧ x = s.extract a (a + (atR s a).2.toNat) := by
  intro x hx
  unfold txts at hx
  obtain ⟨u, hu, rfl⟩ := List.mem_map.1 hx
  obtain ⟨b, hb, rfl⟩ := unit_mem s _ _ u hu
  have := atR_2 s b
  refine ⟨b, hb, ?_⟩
  unfold txt1
  simp only [Int.toNat_natCast]
  rw [show ((b : Int) + (atR s b).2).toNat = b + (atR s b).2.toNat by omega]
theorem txts_one (s : ByteArray) : ∀ x ∈ txts s, (txts x).length = 1 := by
  intro x hx
  obtain ⟨a, ha, rfl⟩ := txts_at s x hx
  have h1 := atR_2 s a
  have h2 := atR_end s a ha
  have hs := ext_size s (a := a) (n := (atR s a).2.toNat) (by omega)
  have := units_one (s.extract a (a + (atR s a).2.toNat)) (by omega) (by rw [atR_ext s a ha, hs]; omega)
  unfold txts
  rw [this]; rfl
theorem txts_small (s : ByteArray) : ∀ x ∈ txts s, x.size ≤ 4 := by
  intro x hx
  obtain ⟨a, ha, rfl⟩ := txts_at s x hx
  have h1 := atR_2 s a
  have h2 := atR_end s a ha
  have hs := ext_size s (a := a) (n := (atR s a).2.toNat) (by omega)
  omega
theorem one_small (s : ByteArray) (h : (txts s).length = 1) : s.size ≤ 4 := by
  have hc := units_contig s s.size 0 (by omega) (by omega)
  have hm := unit_mem s s.size 0
  unfold txts at h
  rw [List.length_map] at h
  match hl : unitsFrom s s.size 0, h with
  | [u], _ =>
    rw [hl] at hc hm
    obtain ⟨b, hb, rfl⟩ := hm u (by simp)
    have := atR_2 s b
    simp only [contig] at hc
    omega
def catB : List ByteArray → ByteArray
  | [] => none_
  | x :: l => x ++ catB l
theorem cat_snoc (l : List ByteArray) (x : ByteArray) : catB (l ++ [x]) = catB l ++ x := by
  induction l with
  | nil => simp only [List.nil_append, catB]; apply ByteArray.ext; simp [none_]
  | cons y l ih => simp only [List.cons_append, catB, ih, ByteArray.append_assoc]
theorem cat_ext (s : ByteArray) : ∀ (l : List Tri) (a : Nat), (∀ u ∈ l, 0 ≤ u.2.1) → contig l (a : Int) (s.size : Int) → catB (l.map (txt1 s)) = s.extract a s.size
  | [], a, _, h => by
    simp only [contig] at h
    have : a = s.size := by omega
    subst this
    apply ByteArray.ext; simp [catB, none_]
  | u :: l, a, h0, h => by
    simp only [contig] at h
    have hu := h0 u (by simp)
    have ih := cat_ext s l (a + u.2.1.toNat) (fun v hv => h0 v (by simp [hv])) (by rw [Int.natCast_add, Int.toNat_of_nonneg hu]; exact h.2)
    rw [List.map_cons, catB, ih]
    unfold txt1
    rw [h.1, show ((a : Int) + u.2.1).toNat = a + u.2.1.toNat by omega, Int.toNat_natCast]
    have hz : a + u.2.1.toNat ≤ s.size := by
      have : ∀ (l : List Tri) (a z : Int), (∀ v ∈ l, 0 ≤ v.2.1) → contig l a z → a ≤ z := by
        intro l
        induction l with
        | nil => intro a z _ h; simp only [contig] at h; omega
        | cons v l ih => intro a z h0 h; simp only [contig] at h; have := ih _ _ (fun v hv => h0 v (by simp [hv])) h.2; have := h0 v (by simp); omega
      have := this _ _ _ (fun v hv => h0 v (by simp [hv])) h.2
      omega
    apply ByteArray.ext
    simp only [ByteArray.data_append, ByteArray.data_extract]
    rw [Array.extract_append_extract]
    congr 1 <;> omega
theorem cat_txts (s : ByteArray) : catB (txts s) = s := by
  have hc := units_contig s s.size 0 (by omega) (by omega)
  have := cat_ext s (unitsFrom s s.size 0) 0 (fun u hu => by obtain ⟨b, hb, rfl⟩ := unit_mem s _ _ u hu; have := atR_2 s b; simp; omega) hc
  unfold txts
  rw [this]
  apply ByteArray.ext
  simp [ByteArray.data_extract]
theorem cat_take_succ (q : List ByteArray) {j : Nat} (hj : j < q.length) : catB (q.take (j + 1)) = catB (q.take j) ++ q.getD j none_ := by
  rw [List.take_succ_eq_append_getElem hj, cat_snoc, List.getD_eq_getElem?_getD, List.getElem?_eq_getElem hj]; rfl
/-- what a way makes -/
theorem way_do (p q : List ByteArray) (h1 : ∀ x ∈ q, (txts x).length = 1) (i j : Nat) (hi : i ≤ p.length) (hj : j ≤ q.length) (l : List Ed) :
    doI p ((wayI p q i j).reverse ++ l) 0 0 none_ = doI p l i j (catB (q.take j)) := by
  have hq : ∀ j, j < q.length → (txts (q.getD j none_)).length = 1 := fun j hj => by
    rw [List.getD_eq_getElem?_getD, List.getElem?_eq_getElem hj]; exact h1 _ (List.getElem_mem hj)
  fun_induction wayI p q i j generalizing l with
  | case1 => simp [catB]
  | case2 j ih => rw [List.reverse_cons, List.append_assoc, ih (by omega) (by omega)]; rw [List.singleton_append]; rw [do_put (e := (4, q.getD j none_)) rfl (hq j (by omega)), cat_take_succ q (by omega)]
  | case3 i ih => rw [List.reverse_cons, List.append_assoc, ih (by omega) (by omega)]; rw [List.singleton_append]; rw [do_drop (e := (3, none_)) rfl rfl (by omega)]
  | case4 i j h ih =>
    rw [List.reverse_cons, List.append_assoc, ih (by omega) (by omega)]; rw [List.singleton_append]
    rw [do_keep (e := (1, none_)) rfl rfl (by omega), cat_take_succ q (by omega)]
    simp only [List.getD_eq_getElem?_getD, h]
  | case5 i j h h2 ih => rw [List.reverse_cons, List.append_assoc, ih (by omega) (by omega)]; rw [List.singleton_append]; rw [do_turn (e := (2, q.getD j none_)) rfl (hq j (by omega)) (by omega), cat_take_succ q (by omega)]
  | case6 i j h h2 h3 ih => rw [List.reverse_cons, List.append_assoc, ih (by omega) (by omega)]; rw [List.singleton_append]; rw [do_drop (e := (3, none_)) rfl rfl (by omega)]
  | case7 i j h h2 h3 ih => rw [List.reverse_cons, List.append_assoc, ih (by omega) (by omega)]; rw [List.singleton_append]; rw [do_put (e := (4, q.getD j none_)) rfl (hq j (by omega)), cat_take_succ q (by omega)]
def wayOf (s t : ByteArray) : List Ed := (wayI (txts s) (txts t) (txts s).length (txts t).length).reverse
theorem way_whole (s t : ByteArray) (hs : ¬ 200 < (txts s).length) (ht : ¬ 200 < (txts t).length) : doA s (wayOf s t) = (t, 0) := by
  have h := way_do (txts s) (txts t) (txts_one t) _ _ (Nat.le_refl _) (Nat.le_refl _) []
  rw [List.append_nil, List.take_length, cat_txts] at h
  unfold doA wayOf
  rw [if_neg hs, h, doI, if_neg (by omega), if_neg ht]
theorem wayOf_cost (s t : ByteArray) : costI (wayOf s t) = dpI (txts s) (txts t) (txts s).length (txts t).length := by unfold wayOf; rw [cost_rev, way_cost]
end Go.Proofs.Ytdepkpnicfcbiaa
