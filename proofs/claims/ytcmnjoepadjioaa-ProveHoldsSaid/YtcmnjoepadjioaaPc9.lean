/- The arguer's lines, plainly: each is right, no claim stands twice; all has come of all. No walk in sight. -/
import Derived.Test.YtcmnjoepadjioaaPc8
namespace Go.Proofs.Ytcmnjoepadjioaa
open Go.RowKit Go.Maps
def cl (l : List Lin) : List Clm := l.map (·.c)
theorem idxC_some {l : List Lin} {c : Clm} {i : Nat} (h : idxC l c = some i) : ∃ x, l[i]? = some x ∧ x.c = c := by
  unfold idxC at h
  rw [List.findIdx?_eq_some_iff_getElem] at h
  obtain ⟨h1, h2, _⟩ := h
  exact ⟨l[i], List.getElem?_eq_getElem h1, by simpa using h2⟩
theorem idxC_none {l : List Lin} {c : Clm} : idxC l c = none ↔ c ∉ cl l := by
  unfold idxC cl
  rw [List.findIdx?_eq_none_iff]
  simp
theorem idxC_mem {l : List Lin} {c : Clm} (h : c ∈ cl l) : ∃ i, idxC l c = some i := by
  cases hi : idxC l c with
  | none => exact absurd h (idxC_none.1 hi)
  | some i => exact ⟨i, rfl⟩
/-- the one goes on as the other -/
def pre (l l' : List Lin) : Prop := ∃ t, l' = l ++ t
theorem pre.refl (l : List Lin) : pre l l := ⟨[], by simp⟩
theorem pre.trans {a b c : List Lin} (h : pre a b) (k : pre b c) : pre a c := by
  obtain ⟨t, rfl⟩ := h; obtain ⟨u, rfl⟩ := k; exact ⟨t ++ u, by simp⟩
theorem pre.at_ {l l' : List Lin} (h : pre l l') {i : Nat} {x : Lin} (hx : l[i]? = some x) : l'[i]? = some x := by
  obtain ⟨t, rfl⟩ := h
  rw [List.getElem?_append_left (List.getElem?_eq_some_iff.1 hx).1]; exact hx
theorem pre.mem {l l' : List Lin} (h : pre l l') {c : Clm} (hc : c ∈ cl l) : c ∈ cl l' := by
  obtain ⟨t, rfl⟩ := h
  unfold cl at hc ⊢
  rw [List.map_append]; exact List.mem_append_left _ hc
theorem pre.len {l l' : List Lin} (h : pre l l') : l.length ≤ l'.length := by
  obtain ⟨t, rfl⟩ := h
  rw [List.length_append]; omega
theorem pre.back {l l' : List Lin} (h : pre l l') {i : Nat} {x : Lin} (hi : i < l.length) (hx : l'[i]? = some x) : l[i]? = some x := by
  obtain ⟨t, rfl⟩ := h
  rwa [List.getElem?_append_left hi] at hx
theorem putL_pre (l : List Lin) (x : Lin) : pre l (putL l x) := by
  cases h : idxC l x.c with
  | none => rw [putL_new h]; exact ⟨_, rfl⟩
  | some i => rw [putL_old h]; exact .refl l
theorem putL_mem (l : List Lin) (x : Lin) : x.c ∈ cl (putL l x) := by
  cases h : idxC l x.c with
  | none => rw [putL_new h]; simp [cl]
  | some i =>
    rw [putL_old h]
    obtain ⟨y, hy, e⟩ := idxC_some h
    rw [← e]
    exact List.mem_map.2 ⟨y, List.mem_of_getElem? hy, rfl⟩
theorem pickC_append {l t : List Clm} {n : Nat} (hn : n ≤ l.length) : ∀ src, pickC (l ++ t) n src = pickC l n src
  | [] => rfl
  | k :: r => by
    rw [pickC, pickC]
    by_cases h : 0 ≤ k ∧ k < (n : Int)
    · rw [if_pos h, if_pos h, pickC_append hn r, List.getElem?_append_left (by omega)]
    · rw [if_neg h, if_neg h]
structure LI (p : List Clm) (l : List Lin) : Prop where
  right : allRight p l
  ok : ∀ x ∈ l, x.c.ok
  nd : (cl l).Nodup
  src : ∀ x ∈ l, x.src.length ≤ 2
theorem LI.nil (p : List Clm) : LI p [] := ⟨fun n x h => by simp at h, by simp, by simp [cl], by simp⟩
theorem right_append {p : List Clm} {l t : List Lin} {n : Nat} {x : Lin} (hn : n ≤ l.length) : rightB p ((l ++ t).map (·.c)) n x = rightB p (l.map (·.c)) n x := by
  unfold rightB
  rw [List.map_append, pickC_append (by rw [List.length_map]; exact hn)]
theorem LI.put {p : List Clm} {l : List Lin} (h : LI p l) {x : Lin} (hc : x.c.ok) (hs : x.src.length ≤ 2) (hr : rightB p (l.map (·.c)) l.length x = true) : LI p (putL l x) := by
  cases hi : idxC l x.c with
  | some i => rw [putL_old hi]; exact h
  | none =>
    rw [putL_new hi]
    refine ⟨fun n y hy => ?_, fun y hy => ?_, ?_, fun y hy => ?_⟩
    · by_cases hn : n < l.length
      · rw [List.getElem?_append_left hn] at hy
        rw [right_append (by omega)]; exact h.right n y hy
      · rw [List.getElem?_append_right (by omega)] at hy
        have h0 : n - l.length = 0 := by have := (List.getElem?_eq_some_iff.1 hy).1; simp at this; omega
        rw [h0] at hy
        simp at hy; subst hy
        rw [show n = l.length by omega, right_append (Nat.le_refl _)]; exact hr
    · rcases List.mem_append.1 hy with hy | hy
      · exact h.ok y hy
      · simp at hy; subst hy; exact hc
    · have := idxC_none.1 hi
      unfold cl at this ⊢
      rw [List.map_append]
      exact List.nodup_append.2 ⟨h.nd, by simp, fun a ha b hb e => by simp at hb; subst hb; subst e; exact this ha⟩
    · rcases List.mem_append.1 hy with hy | hy
      · exact h.src y hy
      · simp at hy; subst hy; exact hs
theorem nat_bound : ∀ (n : Nat) (l : List Nat), l.Nodup → (∀ x ∈ l, x < n) → l.length ≤ n
  | 0, l, _, h => by
    cases l with
    | nil => simp
    | cons a r => exact absurd (h a (by simp)) (Nat.not_lt_zero _)
  | n + 1, l, hd, h => by
    have ih := nat_bound n (l.erase n) (hd.erase n) (fun x hx => by
      have := (List.Nodup.mem_erase_iff hd).1 hx
      have := h x this.2
      omega)
    have := List.length_erase (a := n) (l := l)
    split at this <;> omega
def litN (x : Int) : Nat := if x < 0 then (x + 6).toNat else (x + 5).toNat
def clmN (c : Clm) : Nat := (if c.so then 144 else 0) + litN c.a * 12 + litN c.b
theorem litN_lt {x : Int} (h : litOk x) : litN x < 12 := by unfold litOk at h; unfold litN; split <;> omega
theorem litN_inj {x y : Int} (h : litOk x) (k : litOk y) (e : litN x = litN y) : x = y := by
  unfold litOk at h k; unfold litN at e
  split at e <;> split at e <;> omega
theorem clmN_lt {c : Clm} (h : c.ok) : clmN c < 288 := by
  have h1 := litN_lt h.1; have h2 := litN_lt h.2
  unfold clmN; split <;> omega
theorem clmN_inj {c d : Clm} (h : c.ok) (k : d.ok) (e : clmN c = clmN d) : c = d := by
  have h1 := litN_lt h.1; have h2 := litN_lt h.2; have k1 := litN_lt k.1; have k2 := litN_lt k.2
  unfold clmN at e
  refine clm_ext ?_ (litN_inj h.1 k.1 ?_) (litN_inj h.2 k.2 ?_)
  · cases hc : c.so <;> cases hd : d.so <;> simp [hc, hd] at e <;> first | rfl | omega
  · split at e <;> split at e <;> omega
  · split at e <;> split at e <;> omega
theorem LI.len {p : List Clm} {l : List Lin} (h : LI p l) : l.length ≤ 288 := by
  have hok : ∀ c ∈ cl l, c.ok := fun c hc => by obtain ⟨x, hx, rfl⟩ := List.mem_map.1 hc; exact h.ok x hx
  have := nat_bound 288 ((cl l).map clmN) (by
    rw [List.Nodup, List.pairwise_map]
    exact List.Pairwise.imp_of_mem (fun {a b} ha hb hne e => hne (clmN_inj (hok a ha) (hok b hb) e)) h.nd) (fun x hx => by
    obtain ⟨c, hc, rfl⟩ := List.mem_map.1 hx
    exact clmN_lt (hok c hc))
  simpa [cl] using this
def oneC (l : List Lin) (c : Clm) : Prop :=
  (c.so = true → (⟨true, c.b, c.a⟩ : Clm) ∈ cl l ∧ (⟨true, c.a, c.a⟩ : Clm) ∈ cl l) ∧ (c.so = false → (⟨false, -c.b, -c.a⟩ : Clm) ∈ cl l ∧ (c.b = -c.a → ∀ y, litOk y → (⟨false, c.a, y⟩ : Clm) ∈ cl l))
def twoC (l : List Lin) (c d : Clm) : Prop := d.so = false → c.b = d.a → (⟨c.so, c.a, d.b⟩ : Clm) ∈ cl l
theorem oneC.pre {l l' : List Lin} (h : pre l l') {c : Clm} (k : oneC l c) : oneC l' c :=
  ⟨fun e => ⟨h.mem (k.1 e).1, h.mem (k.1 e).2⟩, fun e => ⟨h.mem (k.2 e).1, fun e2 y hy => h.mem ((k.2 e).2 e2 y hy)⟩⟩
theorem twoC.pre {l l' : List Lin} (h : pre l l') {c d : Clm} (k : twoC l c d) : twoC l' c d := fun e1 e2 => h.mem (k e1 e2)
theorem pick_one {l : List Clm} {n i : Nat} {c : Clm} (h : l[i]? = some c) (hi : i < n) : pickC l n [(i : Int)] = some [c] := by
  rw [pickC, if_pos ⟨by omega, by omega⟩, Int.toNat_natCast, h]; rfl
theorem pick_two {l : List Clm} {n i k : Nat} {c d : Clm} (h : l[i]? = some c) (hi : i < n) (h2 : l[k]? = some d) (hk : k < n) : pickC l n [(i : Int), (k : Int)] = some [c, d] := by
  rw [pickC, if_pos ⟨by omega, by omega⟩, Int.toNat_natCast, h, pick_one h2 hk]
theorem right_one {p : List Clm} {l : List Lin} {i : Nat} {x y : Lin} (hx : l[i]? = some x) (hs : y.src = [(i : Int)]) (h1 : y.rule ≠ 1) (hr : ruleB y.rule y.c [x.c] = true) : rightB p (l.map (·.c)) l.length y = true := by
  have hi := (List.getElem?_eq_some_iff.1 hx).1
  unfold rightB
  rw [if_neg h1, hs, pick_one (c := x.c) (by rw [List.getElem?_map, hx]; rfl) hi]; exact hr
theorem right_two {p : List Clm} {l : List Lin} {i k : Nat} {x y z : Lin} (hx : l[i]? = some x) (hz : l[k]? = some z) (hs : y.src = [(i : Int), (k : Int)]) (h1 : y.rule ≠ 1) (hr : ruleB y.rule y.c [x.c, z.c] = true) : rightB p (l.map (·.c)) l.length y = true := by
  have hi := (List.getElem?_eq_some_iff.1 hx).1
  have hk := (List.getElem?_eq_some_iff.1 hz).1
  unfold rightB
  rw [if_neg h1, hs, pick_two (c := x.c) (d := z.c) (by rw [List.getElem?_map, hx]; rfl) hi (by rw [List.getElem?_map, hz]; rfl) hk]; exact hr
theorem litOk_nouns {y : Int} : y ∈ nouns ↔ litOk y := by
  constructor
  · intro h; simp [nouns] at h; rcases h with rfl | rfl | rfl | rfl | rfl | rfl | rfl | rfl | rfl | rfl | rfl | rfl <;> decide
  · intro h; unfold litOk at h; simp [nouns]; omega
theorem LI.void {p : List Clm} {i : Nat} {x : Lin} (hok : x.c.ok) (hso : x.c.so = false) (hb : x.c.b = -x.c.a) : ∀ (ns : List Int) (l : List Lin), LI p l → l[i]? = some x → (∀ n ∈ ns, litOk n) →
    LI p (voidL x.c i l ns) ∧ pre l (voidL x.c i l ns) ∧ ∀ n ∈ ns, (⟨false, x.c.a, n⟩ : Clm) ∈ cl (voidL x.c i l ns)
  | [], l, h, _, _ => ⟨h, .refl l, by simp⟩
  | n :: r, l, h, hx, hn => by
    have h1 := h.put (x := ⟨5, ⟨false, x.c.a, n⟩, [(i : Int)]⟩) ⟨hok.1, hn n (by simp)⟩ (by simp) (right_one hx rfl (by show (5 : Int) ≠ 1; decide) (by simp [ruleB, hso, hb]))
    have p1 := putL_pre l ⟨5, ⟨false, x.c.a, n⟩, [(i : Int)]⟩
    obtain ⟨h2, p2, q⟩ := LI.void hok hso hb r _ h1 (p1.at_ hx) (fun n hn' => hn n (by simp [hn']))
    refine ⟨h2, p1.trans p2, fun m hm => ?_⟩
    rcases List.mem_cons.1 hm with rfl | hm
    · exact p2.mem (putL_mem l ⟨5, ⟨false, x.c.a, m⟩, [(i : Int)]⟩)
    · exact q m hm
theorem LI.one {p : List Clm} {l : List Lin} (h : LI p l) {i : Nat} {x : Lin} (hx : l[i]? = some x) : LI p (oneL l x.c i) ∧ pre l (oneL l x.c i) ∧ oneC (oneL l x.c i) x.c := by
  have hok := h.ok x (List.mem_of_getElem? hx)
  unfold oneL
  cases hso : x.c.so with
  | true =>
    rw [if_pos rfl]
    have h1 := h.put (x := ⟨7, ⟨true, x.c.b, x.c.a⟩, [(i : Int)]⟩) ⟨hok.2, hok.1⟩ (by simp) (right_one hx rfl (by show (7 : Int) ≠ 1; decide) (by simp [ruleB, hso]))
    have p1 := putL_pre l ⟨7, ⟨true, x.c.b, x.c.a⟩, [(i : Int)]⟩
    have h2 := h1.put (x := ⟨8, ⟨true, x.c.a, x.c.a⟩, [(i : Int)]⟩) ⟨hok.1, hok.1⟩ (by simp) (right_one (p1.at_ hx) rfl (by show (8 : Int) ≠ 1; decide) (by simp [ruleB, hso]))
    have p2 := putL_pre (putL l ⟨7, ⟨true, x.c.b, x.c.a⟩, [(i : Int)]⟩) ⟨8, ⟨true, x.c.a, x.c.a⟩, [(i : Int)]⟩
    exact ⟨h2, p1.trans p2, fun _ => ⟨p2.mem (putL_mem l ⟨7, ⟨true, x.c.b, x.c.a⟩, [(i : Int)]⟩), putL_mem _ ⟨8, ⟨true, x.c.a, x.c.a⟩, [(i : Int)]⟩⟩, fun e => by rw [hso] at e; cases e⟩
  | false =>
    rw [if_neg (by decide)]
    have h1 := h.put (x := ⟨4, ⟨false, -x.c.b, -x.c.a⟩, [(i : Int)]⟩) ⟨lit_neg hok.2, lit_neg hok.1⟩ (by simp) (right_one hx rfl (by show (4 : Int) ≠ 1; decide) (by simp [ruleB, hso]))
    have p1 := putL_pre l ⟨4, ⟨false, -x.c.b, -x.c.a⟩, [(i : Int)]⟩
    have m1 := putL_mem l ⟨4, ⟨false, -x.c.b, -x.c.a⟩, [(i : Int)]⟩
    by_cases hb : x.c.b = -x.c.a
    · rw [if_pos hb]
      obtain ⟨h2, p2, q⟩ := LI.void hok hso hb nouns _ h1 (p1.at_ hx) (fun n hn => litOk_nouns.1 hn)
      exact ⟨h2, p1.trans p2, ⟨fun e => (by rw [hso] at e; cases e), fun _ => ⟨p2.mem m1, fun _ y hy => q y (litOk_nouns.2 hy)⟩⟩⟩
    · rw [if_neg hb]
      exact ⟨h1, p1, ⟨fun e => (by rw [hso] at e; cases e), fun _ => ⟨m1, fun e => absurd e hb⟩⟩⟩
theorem LI.two {p : List Clm} {l : List Lin} (h : LI p l) {i k : Nat} {x y : Lin} (hx : l[i]? = some x) (hy : l[k]? = some y) : LI p (twoL l x.c y.c i k) ∧ pre l (twoL l x.c y.c i k) ∧ twoC (twoL l x.c y.c i k) x.c y.c := by
  have hok := h.ok x (List.mem_of_getElem? hx)
  have hok2 := h.ok y (List.mem_of_getElem? hy)
  unfold twoL
  cases hso : y.c.so with
  | true => exact ⟨by simpa using h, by simpa using pre.refl l, fun e => by rw [hso] at e; cases e⟩
  | false =>
    rw [if_neg (by decide)]
    by_cases hb : x.c.b = y.c.a
    · rw [if_pos hb]
      refine ⟨h.put ⟨hok.1, hok2.2⟩ (by simp) (right_two hx hy rfl (by show (if x.c.so then (9 : Int) else 3) ≠ 1; split <;> decide) ?_), putL_pre _ _, fun _ _ => putL_mem l ⟨_, ⟨x.c.so, x.c.a, y.c.b⟩, _⟩⟩
      cases hxs : x.c.so <;> simp [ruleB, hso, hxs, hb]
    · rw [if_neg hb]
      exact ⟨h, .refl l, fun _ e => absurd e hb⟩
def DoneL (l : List Lin) (d : Nat) : Prop := ∀ (i : Nat) (x : Lin), i < d → l[i]? = some x → oneC l x.c ∧ ∀ (j : Nat) (y : Lin), j < d → l[j]? = some y → twoC l x.c y.c
theorem DoneL.pre {l l' : List Lin} {d : Nat} (h : DoneL l d) (k : pre l l') (hd : d ≤ l.length) : DoneL l' d := fun i x hi hx => by
  obtain ⟨q1, q2⟩ := h i x hi (k.back (by omega) hx)
  exact ⟨q1.pre k, fun j y hj hy => (q2 j y hj (k.back (by omega) hy)).pre k⟩
def MidL (l : List Lin) (d k : Nat) : Prop := ∀ x, l[d]? = some x → oneC l x.c ∧ ∀ (j : Nat) (y : Lin), j < k → l[j]? = some y → twoC l x.c y.c ∧ twoC l y.c x.c
theorem MidL.pre {l l' : List Lin} {d k : Nat} (h : MidL l d k) (q : pre l l') (hd : d < l.length) (hk : k ≤ l.length) : MidL l' d k := fun x hx => by
  obtain ⟨q1, q2⟩ := h x (q.back hd hx)
  exact ⟨q1.pre q, fun j y hj hy => by
    obtain ⟨r1, r2⟩ := q2 j y hj (q.back (by omega) hy)
    exact ⟨r1.pre q, r2.pre q⟩⟩
theorem DoneL.next {l : List Lin} {d : Nat} (h : DoneL l d) (k : MidL l d (d + 1)) : DoneL l (d + 1) := fun i x hi hx => by
  by_cases e : i = d
  · subst e
    obtain ⟨q1, q2⟩ := k x hx
    exact ⟨q1, fun j y hj hy => (q2 j y hj hy).1⟩
  · obtain ⟨q1, q2⟩ := h i x (by omega) hx
    refine ⟨q1, fun j y hj hy => ?_⟩
    by_cases e2 : j = d
    · subst e2; exact ((k y hy).2 i x hi hx).2
    · exact q2 j y (by omega) hy
theorem DoneL.closed {p : List Clm} {l : List Lin} (h : LI p l) (d : DoneL l l.length) (hp : ∀ c ∈ p, c ∈ cl l) (hs : ∀ x, litOk x → (⟨false, x, x⟩ : Clm) ∈ cl l) : Closed p (cl l) := by
  have at_ : ∀ {c : Clm}, c ∈ cl l → ∃ i x, i < l.length ∧ l[i]? = some x ∧ x.c = c := fun {c} hc => by
    obtain ⟨x, hx, rfl⟩ := List.mem_map.1 hc
    obtain ⟨i, hi⟩ := List.getElem?_of_mem hx
    exact ⟨i, x, (List.getElem?_eq_some_iff.1 hi).1, hi, rfl⟩
  have one : ∀ {c : Clm}, c ∈ cl l → oneC l c := fun {c} hc => by
    obtain ⟨i, x, hi, hx, rfl⟩ := at_ hc; exact (d i x hi hx).1
  have two : ∀ {c e : Clm}, c ∈ cl l → e ∈ cl l → twoC l c e := fun {c e} hc he => by
    obtain ⟨i, x, hi, hx, rfl⟩ := at_ hc
    obtain ⟨j, y, hj, hy, rfl⟩ := at_ he
    exact (d i x hi hx).2 j y hj hy
  refine ⟨fun c hc => ?_, hp, hs, fun a b c h1 h2 => two h1 h2 rfl rfl, fun a b h1 => ((one h1).2 rfl).1, fun a y h1 hy => ((one h1).2 rfl).2 rfl y hy, fun a b h1 => ((one h1).1 rfl).1, fun a b h1 => ((one h1).1 rfl).2, fun a b c h1 h2 => two h1 h2 rfl rfl⟩
  obtain ⟨i, x, hi, hx, rfl⟩ := at_ hc
  exact h.ok x (List.mem_of_getElem? hx)
theorem no_clash {l : List Lin} (h : ∀ x ∈ l, x.c.so = false → idxC l (opp x.c) = none) : ¬ clashed (cl l) := by
  rintro ⟨a, b, h1, h2⟩
  obtain ⟨x, hx, e⟩ := List.mem_map.1 h1
  have := idxC_none.1 (h x hx (by rw [e]))
  unfold opp at this
  rw [e] at this
  exact this h2
theorem LI.out {p : List Clm} {l : List Lin} (h : LI p l) {last : Nat} {x : Lin} (hx : l[last]? = some x) :
    allRight p (outL (theN l last) l (last + 1)) ∧ (∀ y ∈ outL (theN l last) l (last + 1), y.c.ok) ∧ (outL (theN l last) l (last + 1)).length ≤ 288 ∧ ∃ init y, outL (theN l last) l (last + 1) = init ++ [y] ∧ y.c = x.c := by
  have hl := (List.getElem?_eq_some_iff.1 hx).1
  have hle := h.len
  have hN := need_the (last := last) fun i y hy h1 => right_src h.right hy h1
  refine ⟨out_right h.right (fun i y hy hi h1 => hN.shut i y hy (Nat.zero_le _) hi h1) (by omega), out_ok h.ok (by omega), ?_, outL (theN l last) l last, mapS (theN l last) x, ?_, mapS_c _ _⟩
  · rw [outL_len _ _ _ (by omega)]; have := rank_le (theN l last) (last + 1); omega
  · rw [outL_yes hl hN.top, (List.getElem?_eq_some_iff.1 hx).2]
end Go.Proofs.Ytcmnjoepadjioaa
