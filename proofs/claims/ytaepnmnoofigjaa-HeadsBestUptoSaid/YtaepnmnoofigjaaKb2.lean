/- Texts that the proof rests on, part 2: what each holds stands at its head. -/
import Derived.Test.YtaepnmnoofigjaaKb1
import Derived.Lib.OthersKept
import Derived.Maps.OwnOps
import Derived.Maps.Views
import Derived.Maps.RangeWalk
import Derived.DeepKeys4

/- The best tree of words; with just one root; what is added to all. -/
namespace Go.Proofs.Ytaepnmnoofigjaa
/-- all edges to a word -/
def rowE (n : Nat) (s : Nat → Nat → Int) (w : Nat) : Nat → List Ed
  | 0 => []
  | h + 1 => rowE n s w h ++ (if h = w then [] else [⟨h, w, s h w, ((h * n + w : Nat) : Int)⟩])
/-- all edges to so many words -/
def fulE (n : Nat) (s : Nat → Nat → Int) : Nat → List Ed
  | 0 => []
  | k + 1 => fulE n s k ++ rowE n s (k + 1) n
theorem rowE_len (n : Nat) (s : Nat → Nat → Int) (w : Nat) : ∀ h, (rowE n s w h).length ≤ h
  | 0 => Nat.le_refl _
  | h + 1 => by have := rowE_len n s w h; rw [rowE, List.length_append]; split <;> simp <;> omega
theorem fulE_len (n : Nat) (s : Nat → Nat → Int) : ∀ k, (fulE n s k).length ≤ k * n
  | 0 => Nat.zero_le _
  | k + 1 => by have := fulE_len n s k; have := rowE_len n s (k + 1) n; rw [fulE, List.length_append, Nat.succ_mul]; omega
theorem rowE_mem {n : Nat} {s : Nat → Nat → Int} {w : Nat} {e : Ed} : ∀ {h}, e ∈ rowE n s w h ↔ ∃ g, g < h ∧ g ≠ w ∧ e = ⟨g, w, s g w, ((g * n + w : Nat) : Int)⟩
  | 0 => by simp [rowE]
  | h + 1 => by
    rw [rowE, List.mem_append, rowE_mem]
    constructor
    · rintro (⟨g, h1, h2, h3⟩ | h1)
      · exact ⟨g, by omega, h2, h3⟩
      · split at h1
        · cases h1
        · rename_i hne
          rw [List.mem_singleton] at h1
          exact ⟨h, by omega, hne, h1⟩
    · rintro ⟨g, h1, h2, h3⟩
      by_cases e : g = h
      · subst e; right; rw [if_neg h2, List.mem_singleton]; exact h3
      · exact .inl ⟨g, by omega, h2, h3⟩
theorem fulE_mem {n : Nat} {s : Nat → Nat → Int} {e : Ed} : ∀ {k}, e ∈ fulE n s k ↔ ∃ w g, 0 < w ∧ w ≤ k ∧ g < n ∧ g ≠ w ∧ e = ⟨g, w, s g w, ((g * n + w : Nat) : Int)⟩
  | 0 => by simp only [fulE, List.not_mem_nil, false_iff]; rintro ⟨w, g, h1, h2, _⟩; omega
  | k + 1 => by
    rw [fulE, List.mem_append, fulE_mem, rowE_mem]
    constructor
    · rintro (⟨w, g, h1, h2, h3⟩ | ⟨g, h1, h2⟩)
      · exact ⟨w, g, h1, by omega, h3⟩
      · exact ⟨k + 1, g, by omega, by omega, h1, h2⟩
    · rintro ⟨w, g, h1, h2, h3, h4⟩
      by_cases e : w = k + 1
      · subst e; exact .inr ⟨g, h3, h4⟩
      · exact .inl ⟨w, g, h1, by omega, h3, h4⟩
theorem fulE_hasZ (n : Nat) (s : Nat → Nat → Int) : HasZ n (fulE n s (n - 1)) := by
  refine ⟨fun v v0 vn => ⟨⟨0, v, s 0 v, ((0 * n + v : Nat) : Int)⟩, fulE_mem.2 ⟨v, 0, v0, by omega, by omega, by omega, rfl⟩, rfl, rfl⟩, fun e he => ?_⟩
  obtain ⟨w, g, h1, h2, h3, h4, rfl⟩ := fulE_mem.1 he
  exact ⟨h3, by dsimp only; omega⟩
/-- what a tree is worth -/
def Wt (n : Nat) (s : Nat → Nat → Int) (u : Nat → Nat) : Int := sumL (List.range' 1 (n - 1)) fun v => s (u v) v
theorem nodes_mem {n v : Nat} : v ∈ List.range' 1 (n - 1) ↔ 0 < v ∧ v < n := by rw [List.mem_range'_1]; omega
theorem best_of {n : Nat} {s : Nat → Nat → Int} {ids : List Int} (h : Grown n (fulE n s (n - 1)) ids) : ∃ (u : Nat → Nat) (os : List Nat), TreeF n u ∧ (∀ v, v ∈ os ↔ 0 < v ∧ v < n) ∧ ids = os.map (fun v => ((u v * n + v : Nat) : Int)) ∧ ∀ u', TreeF n u' → Wt n s u' ≤ Wt n s u := by
  obtain ⟨T, os, ⟨hT, r, hr⟩, hd, hm, hi, hb⟩ := h
  have hform : ∀ v, 0 < v → v < n → (T v).fr < n ∧ T v = ⟨(T v).fr, v, s (T v).fr v, (((T v).fr * n + v : Nat) : Int)⟩ := fun v v0 vn => by
    obtain ⟨h1, h2⟩ := hT v v0 vn
    obtain ⟨w, g, _, _, h3, _, h5⟩ := fulE_mem.1 h1
    rw [h5] at h2
    dsimp only at h2
    subst h2
    rw [h5]
    exact ⟨h3, rfl⟩
  refine ⟨fun v => (T v).fr, os, ⟨fun v v0 vn => (hform v v0 vn).1, r, hr⟩, hm, ?_, fun u' hu' => ?_⟩
  · rw [hi]
    refine List.map_congr_left fun v hv => ?_
    obtain ⟨v0, vn⟩ := (hm v).1 hv
    rw [(hform v v0 vn).2]
  · obtain ⟨h1, r', hr'⟩ := hu'
    have := hb (fun v => ⟨u' v, v, s (u' v) v, ((u' v * n + v : Nat) : Int)⟩) ⟨fun v v0 vn => ⟨fulE_mem.2 ⟨v, u' v, v0, by omega, h1 v v0 vn, fun e => by have := hr' v v0 vn; rw [e] at this; omega, rfl⟩, rfl⟩, r', hr'⟩
    have hs : ∀ f : Nat → Int, sumL (List.range' 1 (n - 1)) f = sumL os f := fun f => sumL_same List.nodup_range' hd (fun v => by rw [nodes_mem, hm]) f
    rw [Wt, Wt, hs, hs]
    have e2 : sumL os (fun v => (T v).w) = sumL os (fun v => s (T v).fr v) := sumL_congr fun v hv => by
      obtain ⟨v0, vn⟩ := (hm v).1 hv
      rw [(hform v v0 vn).2]
    rw [e2] at this
    exact this
theorem lst_ext {n : Nat} {u : Nat → Nat} {x : List Int} (h : x.length = n - 1) (hx : ∀ v, 0 < v → v < n → x[v - 1]? = some (u v : Int)) : x = lst n u := by
  refine List.ext_getElem? fun i => ?_
  by_cases hi : i < n - 1
  · have := hx (i + 1) (by omega) (by omega)
    rw [show i + 1 - 1 = i by omega] at this
    rw [this, lst, List.getElem?_map, List.getElem?_range hi]; rfl
  · rw [List.getElem?_eq_none (by omega), List.getElem?_eq_none (by rw [lst_len]; omega)]
theorem lst_at {n : Nat} {u : Nat → Nat} {i : Nat} (hi : i < n - 1) : (lst n u)[i]? = some (u (i + 1) : Int) := by
  rw [lst, List.getElem?_map, List.getElem?_range hi]; rfl
/-- the worth of a list, word by word -/
def wtK (s : Nat → Nat → Int) (u : Nat → Nat) (k : Nat) : Int := sumL (List.range' 1 k) fun v => s (u v) v
theorem wtK_succ (s : Nat → Nat → Int) (u : Nat → Nat) (k : Nat) : wtK s u (k + 1) = wtK s u k + s (u (k + 1)) (k + 1) := by
  rw [wtK, wtK, List.range'_concat, sumL_app]
  simp only [sumL, Nat.mul_one, Int.add_zero, Nat.one_mul]
  rw [Nat.add_comm 1 k]
theorem sumL_abs {M : Int} {f : Nat → Int} : ∀ {a : List Nat}, (∀ v ∈ a, -M ≤ f v ∧ f v ≤ M) → -(M * a.length) ≤ sumL a f ∧ sumL a f ≤ M * a.length
  | [], _ => by simp [sumL]
  | x :: r, h => by
    have h1 := h x (by simp)
    have h2 := sumL_abs (a := r) fun v hv => h v (by simp [hv])
    simp only [sumL, List.length_cons, Int.natCast_add, Int.mul_add]
    omega
theorem wtK_abs {M : Int} {s : Nat → Nat → Int} {u : Nat → Nat} {n : Nat} (hu : ∀ v, 0 < v → v < n → u v < n) (hs : ∀ h w, h < n → 0 < w → w < n → -M ≤ s h w ∧ s h w ≤ M) (k : Nat) (hk : k ≤ n - 1) : -(M * k) ≤ wtK s u k ∧ wtK s u k ≤ M * k := by
  have := sumL_abs (M := M) (f := fun v => s (u v) v) (a := List.range' 1 k) fun v hv => by
    rw [List.mem_range'_1] at hv
    exact hs _ _ (hu v (by omega) (by omega)) (by omega) (by omega)
  rw [List.length_range'] at this
  exact this
/-- the worth of one word changed -/
theorem sumL_point {a : List Nat} (hd : a.Nodup) {x : Nat} (hx : x ∈ a) (f : Nat → Int) (d : Int) : sumL a (fun v => f v + if v = x then d else 0) = sumL a f + d := by
  rw [sumL_out hd hx, sumL_out hd hx f, if_pos rfl]
  have : sumL (a.filter (· != x)) (fun v => f v + if v = x then d else 0) = sumL (a.filter (· != x)) f := sumL_congr fun v hv => by
    have := (List.mem_filter.1 hv).2
    rw [if_neg (by simpa using this)]; omega
  rw [this]; omega
theorem Wt_sub {n : Nat} {s s' : Nat → Nat → Int} {u : Nat → Nat} {x : Nat} {d : Int} (hx : 0 < x ∧ x < n) (hu : ∀ v, 0 < v → v < n → u v < n) (h : ∀ h w, h < n → 0 < w → w < n → s' h w = s h w - if w = x then d else 0) : Wt n s' u = Wt n s u - d := by
  have := sumL_point List.nodup_range' (nodes_mem.2 hx) (fun v => s (u v) v) (-d)
  rw [Wt, Wt, show sumL (List.range' 1 (n - 1)) (fun v => s (u v) v) - d = sumL (List.range' 1 (n - 1)) (fun v => s (u v) v) + -d by omega, ← this]
  refine sumL_congr fun v hv => ?_
  obtain ⟨v0, vn⟩ := nodes_mem.1 hv
  rw [h _ _ (hu v v0 vn) v0 vn]
  split <;> omega
theorem Wt_add {n : Nat} {s s' : Nat → Nat → Int} {u : Nat → Nat} {x y : Nat} {d : Int} (hx : 0 < x ∧ x < n) (hu : ∀ v, 0 < v → v < n → u v < n) (h : ∀ h w, h < n → 0 < w → w < n → s' h w = s h w + if h = y ∧ w = x then d else 0) : Wt n s' u = Wt n s u + if u x = y then d else 0 := by
  have := sumL_point List.nodup_range' (nodes_mem.2 hx) (fun v => s (u v) v) (if u x = y then d else 0)
  rw [Wt, Wt, ← this]
  refine sumL_congr fun v hv => ?_
  obtain ⟨v0, vn⟩ := nodes_mem.1 hv
  rw [h _ _ (hu v v0 vn) v0 vn]
  by_cases e : v = x
  · subst e; simp
  · rw [if_neg (fun c => e c.2), if_neg e]
/-- what is added to all that hang on anything changes no best tree, by so much -/
theorem more_sub {n : Nat} {s s' : Nat → Nat → Int} {u u' : Nat → Nat} {x : Nat} {d : Int} (hx : 0 < x ∧ x < n) (hu : TreeF n u) (hu' : TreeF n u') (hb : ∀ v, TreeF n v → Wt n s v ≤ Wt n s u) (hb' : ∀ v, TreeF n v → Wt n s' v ≤ Wt n s' u') (h : ∀ h w, h < n → 0 < w → w < n → s' h w = s h w - if w = x then d else 0) : Wt n s' u' = Wt n s u - d ∧ Wt n s u' = Wt n s u := by
  have h1 := Wt_sub hx hu.1 h
  have h2 := Wt_sub hx hu'.1 h
  have h3 := hb u' hu'
  have h4 := hb' u hu
  omega
theorem more_add {n : Nat} {s s' s2 : Nat → Nat → Int} {u u' u2 : Nat → Nat} {x : Nat} {d : Int} (hd : 0 ≤ d) (hx : 0 < x ∧ x < n) (hu : TreeF n u) (hu' : TreeF n u') (hu2 : TreeF n u2) (hb : ∀ v, TreeF n v → Wt n s v ≤ Wt n s u) (hb' : ∀ v, TreeF n v → Wt n s' v ≤ Wt n s' u') (hb2 : ∀ v, TreeF n v → Wt n s2 v ≤ Wt n s2 u2) (h : ∀ h w, h < n → 0 < w → w < n → s' h w = s h w - if w = x then d else 0) (h2 : ∀ h w, h < n → 0 < w → w < n → s2 h w = s' h w + if h = u x ∧ w = x then d else 0) : Wt n s2 u2 = Wt n s u := by
  obtain ⟨a1, a2⟩ := more_sub hx hu hu' hb hb' h
  have b1 := Wt_add hx hu2.1 h2
  have b2 := Wt_add hx hu.1 h2
  rw [if_pos rfl] at b2
  have b3 := hb2 u hu
  have b4 := hb' u2 hu2
  have b5 := Wt_sub hx hu.1 h
  split at b1 <;> omega
/-- just one word hangs on 0 -/
def OneR (n : Nat) (u : Nat → Nat) (r : Nat) : Prop := ∀ v, 0 < v → v < n → (u v = 0 ↔ v = r)
def star (r v : Nat) : Nat := if v = r then 0 else r
theorem star_tree {n r : Nat} (hr : 0 < r ∧ r < n) : TreeF n (star r) := by
  refine ⟨fun v v0 vn => by unfold star; split <;> omega, fun v => if v = 0 then 0 else if v = r then 1 else 2, fun v v0 vn => ?_⟩
  unfold star
  by_cases e : v = r
  · subst e; simp [show v ≠ 0 by omega]
  · rw [if_neg e]
    dsimp only
    rw [if_neg (show ¬ r = 0 by omega), if_pos rfl, if_neg (show ¬ v = 0 by omega), if_neg e]; omega
theorem has_root {n : Nat} {u : Nat → Nat} (h : TreeF n u) (hn : 1 < n) : ∃ v, 0 < v ∧ v < n ∧ u v = 0 := by
  obtain ⟨h1, r, hr⟩ := h
  have hne : List.range' 1 (n - 1) ≠ [] := fun e => by have := congrArg List.length e; simp at this; omega
  obtain ⟨x, hx, hm⟩ := exists_min r hne
  obtain ⟨x0, xn⟩ := nodes_mem.1 hx
  refine ⟨x, x0, xn, ?_⟩
  rcases Nat.eq_zero_or_pos (u x) with e | e
  · exact e
  · have := hm _ (nodes_mem.2 ⟨e, h1 x x0 xn⟩)
    have := hr x x0 xn; omega
theorem Wt_out {n x : Nat} (s : Nat → Nat → Int) (u : Nat → Nat) (hx : 0 < x ∧ x < n) : Wt n s u = s (u x) x + sumL ((List.range' 1 (n - 1)).filter (· != x)) fun v => s (u v) v := sumL_out List.nodup_range' (nodes_mem.2 hx) _
/-- the scores when just one word may hang on 0 -/
def onlyR (r : Nat) (s : Nat → Nat → Int) (h w : Nat) : Int := if h = 0 ∧ w ≠ r then -1099511627776 else s h w
theorem Wt_only {n r : Nat} {s : Nat → Nat → Int} {u : Nat → Nat} (h : OneR n u r) : Wt n (onlyR r s) u = Wt n s u := sumL_congr fun v hv => by
  obtain ⟨v0, vn⟩ := nodes_mem.1 hv
  unfold onlyR
  rw [if_neg (fun c => c.2 ((h v v0 vn).1 c.1))]
theorem one_of {n r : Nat} {s : Nat → Nat → Int} {u : Nat → Nat} (hn : n ≤ 13) (hr : 0 < r ∧ r < n) (hs : ∀ h w, h < n → 0 < w → w < n → -1000000 ≤ s h w ∧ s h w ≤ 1000000) (hu : TreeF n u) (hb : ∀ v, TreeF n v → Wt n (onlyR r s) v ≤ Wt n (onlyR r s) u) : OneR n u r ∧ ∀ v, TreeF n v → OneR n v r → Wt n s v ≤ Wt n s u := by
  have hst : OneR n (star r) r := fun v v0 vn => by unfold star; split <;> omega
  have h1 := hb _ (star_tree hr)
  rw [Wt_only hst] at h1
  have h2 := wtK_abs (M := 1000000) (star_tree hr).1 hs (n - 1) (Nat.le_refl _)
  have hw : Wt n s (star r) = wtK s (star r) (n - 1) := rfl
  have hno : ∀ v, 0 < v → v < n → u v = 0 → v = r := fun v v0 vn e => by
    rcases Nat.decEq v r with hne | he
    · exfalso
      rw [Wt_out (onlyR r s) u ⟨v0, vn⟩] at h1
      have e1 : onlyR r s (u v) v = -1099511627776 := by unfold onlyR; rw [if_pos ⟨e, hne⟩]
      rw [e1] at h1
      have h3 : sumL ((List.range' 1 (n - 1)).filter (· != v)) (fun v => onlyR r s (u v) v) ≤ sumL ((List.range' 1 (n - 1)).filter (· != v)) (fun _ => 1000000) := sumL_le fun x hx => by
        obtain ⟨x0, xn⟩ := nodes_mem.1 (List.mem_filter.1 hx).1
        unfold onlyR
        split
        · omega
        · exact (hs _ _ (hu.1 x x0 xn) x0 xn).2
      have h4 := (sumL_abs (M := 1000000) (f := fun _ => 1000000) (a := (List.range' 1 (n - 1)).filter (· != v)) (fun _ _ => by omega)).2
      have h5 := List.length_filter_le (· != v) (List.range' 1 (n - 1))
      rw [List.length_range'] at h5
      omega
    · exact he
  have hone : OneR n u r := fun v v0 vn => ⟨hno v v0 vn, fun e => by
    obtain ⟨x, x0, xn, hx⟩ := has_root hu (by omega)
    rw [e, ← hno x x0 xn hx]; exact hx⟩
  refine ⟨hone, fun v hv hv1 => ?_⟩
  have := hb v hv
  rw [Wt_only hv1, Wt_only hone] at this
  exact this
/-- how many hang on 0 -/
def rts (u : Nat → Nat) : Nat → Nat
  | 0 => 0
  | k + 1 => rts u k + if u (k + 1) = 0 then 1 else 0
theorem rts_zero {u : Nat → Nat} : ∀ {k}, rts u k = 0 ↔ ∀ v, 0 < v → v ≤ k → u v ≠ 0
  | 0 => ⟨fun _ v h1 h2 => by omega, fun _ => rfl⟩
  | k + 1 => by
    rw [rts]
    constructor
    · intro h v v0 vk
      have hk : rts u k = 0 := by omega
      by_cases e : v = k + 1
      · subst e; intro c; rw [if_pos c] at h; omega
      · exact rts_zero.1 hk v v0 (by omega)
    · intro h
      rw [rts_zero.2 fun v v0 vk => h v v0 (by omega), if_neg (h (k + 1) (by omega) (Nat.le_refl _))]
theorem rts_one {u : Nat → Nat} : ∀ {k}, rts u k = 1 ↔ ∃ r, 0 < r ∧ r ≤ k ∧ ∀ v, 0 < v → v ≤ k → (u v = 0 ↔ v = r)
  | 0 => ⟨fun h => by simp [rts] at h, fun ⟨r, h1, h2, _⟩ => by omega⟩
  | k + 1 => by
    rw [rts]
    constructor
    · intro h
      by_cases c : u (k + 1) = 0
      · rw [if_pos c] at h
        have h0 := rts_zero.1 (show rts u k = 0 by omega)
        refine ⟨k + 1, by omega, Nat.le_refl _, fun v v0 vk => ⟨fun e => ?_, fun e => e ▸ c⟩⟩
        by_cases q : v = k + 1
        · exact q
        · exact absurd e (h0 v v0 (by omega))
      · rw [if_neg c] at h
        obtain ⟨r, r0, rk, hr⟩ := rts_one.1 (show rts u k = 1 by omega)
        refine ⟨r, r0, by omega, fun v v0 vk => ?_⟩
        by_cases q : v = k + 1
        · subst q; exact ⟨fun e => absurd e c, fun e => by omega⟩
        · exact hr v v0 (by omega)
    · rintro ⟨r, r0, rk, hr⟩
      by_cases q : r = k + 1
      · subst q
        rw [rts_zero.2 fun v v0 vk e => by have := (hr v v0 (by omega)).1 e; omega, if_pos ((hr (k + 1) r0 rk).2 rfl)]
      · rw [rts_one.2 ⟨r, r0, by omega, fun v v0 vk => hr v v0 (by omega)⟩, if_neg fun e => q ((hr (k + 1) (by omega) (Nat.le_refl _)).1 e).symm]
theorem rts_OneR {n : Nat} {u : Nat → Nat} : rts u (n - 1) = 1 ↔ ∃ r, 0 < r ∧ r < n ∧ OneR n u r := by
  rw [rts_one]
  constructor
  · rintro ⟨r, r0, rk, hr⟩; exact ⟨r, r0, by omega, fun v v0 vn => hr v v0 (by omega)⟩
  · rintro ⟨r, r0, rk, hr⟩; exact ⟨r, r0, by omega, fun v v0 vn => hr v v0 (by omega)⟩
end Go.Proofs.Ytaepnmnoofigjaa

/- Abstract values and abstract memory: what values and blocks of the model's memory stand for. Nothing of the program is named here. -/
namespace Go.Proofs.Ytaepnmnoofigjaa
open Go.RowKit

/-- what a value stands for -/
inductive AV where
  | any
  | p (v : Value)
  | agg (cs : List AV)
  | tup (cs : List AV)
  | dsl (sz : Nat) (xs : List (List AV))
  | dptr (sz : Nat) (xs : List (List AV)) (i j : Nat)
  | ptr (id off : Nat)
  | eptr (id sz i j : Nat)
  | osl (id sz off n : Nat)
  | mp (id : Nat)
  | fn (f : Fn) (first captured : List AV)
/-- what a block stands for -/
inductive AO where
  | box (t : TypeId) (cs : List AV)
  | row (t : TypeId) (sz : Nat) (es : List (List AV))
  | frz (sz : Nat) (es : List (List AV))
  | map (kt : TypeId) (n : Nat) (f : Value → Option AV)
  | siter (s : ByteArray) (pos : Nat)
  | crow (t : TypeId) (sz c : Nat) (es : List (List AV))
  | dead
structure AH where
  nx : Nat
  l : List (Nat × AO)
def lget : List (Nat × AO) → Nat → Option AO
  | [], _ => none
  | (i, o) :: r, k => if i = k then some o else lget r k
def lput : List (Nat × AO) → Nat → AO → List (Nat × AO)
  | [], k, o => [(k, o)]
  | (i, x) :: r, k, o => if k < i then (k, o) :: (i, x) :: r else if k = i then (k, o) :: r else (i, x) :: lput r k o
def ldel : List (Nat × AO) → Nat → List (Nat × AO)
  | [], _ => []
  | (i, x) :: r, k => if i = k then ldel r k else (i, x) :: ldel r k
def AH.get (H : AH) (k : Nat) : Option AO := lget H.l k
def AH.put (H : AH) (k : Nat) (o : AO) : AH := ⟨H.nx, lput H.l k o⟩
def AH.del (H : AH) (k : Nat) : AH := ⟨H.nx, ldel H.l k⟩
def AH.kill (H : AH) (k : Nat) : AH := H.put k .dead
def AH.up (H : AH) (n : Nat) : AH := ⟨H.nx + n, H.l⟩

theorem lget_lput_ne {l : List (Nat × AO)} {k j : Nat} {o : AO} (h : j ≠ k) : lget (lput l k o) j = lget l j := by
  induction l with
  | nil => simp [lput, lget]; omega
  | cons a r ih =>
    obtain ⟨i, x⟩ := a
    unfold lput
    split
    · simp [lget]; omega
    · split
      · rename_i _ h2; subst h2; simp [lget]; rw [if_neg (by omega), if_neg (by omega)]
      · simp only [lget, ih]
theorem lget_ldel_ne {l : List (Nat × AO)} {k j : Nat} (h : j ≠ k) : lget (ldel l k) j = lget l j := by
  induction l with
  | nil => rfl
  | cons a r ih =>
    obtain ⟨i, x⟩ := a
    unfold ldel
    split
    · rename_i h2; subst h2; rw [ih]; simp only [lget]; rw [if_neg (fun e => h e.symm)]
    · simp only [lget, ih]
theorem lget_ldel_self {l : List (Nat × AO)} {k : Nat} : lget (ldel l k) k = none := by
  induction l with
  | nil => rfl
  | cons a r ih =>
    obtain ⟨i, x⟩ := a
    unfold ldel
    split
    · exact ih
    · rename_i h2; simp only [lget]; rw [if_neg h2]; exact ih
/-- each number stands below those behind it -/
def sortedL : List (Nat × AO) → Prop
  | [] => True
  | (i, _) :: r => (∀ k, k ≤ i → lget r k = none) ∧ sortedL r
theorem lget_lput_self {l : List (Nat × AO)} {k : Nat} {o : AO} : lget (lput l k o) k = some o := by
  induction l with
  | nil => simp [lput, lget]
  | cons a r ih =>
    obtain ⟨i, x⟩ := a
    unfold lput
    split
    · simp [lget]
    · split
      · simp [lget]
      · rename_i h1 h2; simp only [lget]; rw [if_neg (fun e => h2 e.symm), ih]
theorem lput_comm {l : List (Nat × AO)} {i j : Nat} {x y : AO} (h : i ≠ j) : lput (lput l i x) j y = lput (lput l j y) i x := by
  induction l with
  | nil => grind [lput]
  | cons a r ih =>
    obtain ⟨k, z⟩ := a
    grind [lput]

/-- data: no block of the call's own in it -/
inductive RpD (w : World) (S : Nat → Prop) : AV → Value → Prop
  | p (v : Value) : v.oneCell' = true → RpD w S (.p v) v
  | agg (cs : List AV) (vs : Array Value) : cs.length = vs.size → (∀ (i : Nat) (a : AV) (v : Value), cs[i]? = some a → vs[i]? = some v → RpD w S a v) → (∀ v ∈ vs, v.oneCell' = true) → RpD w S (.agg cs) (.agg vs)
  | dsl (sz : Nat) (xs : List (List AV)) (A : Option Addr) (c : Nat) (z : Nat → Nat → Value) : xs.length ≤ c → c ≤ maxLen → (∀ e ∈ xs, e.length = sz) →
      (∀ (i : Nat) (e : List AV) (j : Nat) (a : AV), xs[i]? = some e → e[j]? = some a → ∃ g o, A = some ⟨g, o, none⟩ ∧ S g ∧ w.cell? ⟨g, o + i * sz + j, none⟩ = some (z i j)) →
      (∀ (i : Nat) (e : List AV) (j : Nat) (a : AV), xs[i]? = some e → e[j]? = some a → RpD w S a (z i j)) → (∀ i j, (z i j).oneCell' = true) → RpD w S (.dsl sz xs) (.slice A xs.length c)
inductive Rp (w : World) (S : Nat → Prop) (σ : Nat → Option Value) : AV → Value → Prop
  | any (v : Value) : Rp w S σ .any v
  | data (a : AV) (v : Value) : RpD w S a v → Rp w S σ a v
  | agg (cs : List AV) (vs : Array Value) : cs.length = vs.size → (∀ (i : Nat) (a : AV) (v : Value), cs[i]? = some a → vs[i]? = some v → Rp w S σ a v) → (∀ v ∈ vs, v.oneCell' = true) → Rp w S σ (.agg cs) (.agg vs)
  | tup (cs : List AV) (vs : Array Value) : cs.length = vs.size → (∀ (i : Nat) (a : AV) (v : Value), cs[i]? = some a → vs[i]? = some v → Rp w S σ a v) → Rp w S σ (.tup cs) (.tuple vs)
  | dptr (sz : Nat) (xs : List (List AV)) (i j g o c : Nat) : RpD w S (.dsl sz xs) (.slice (some ⟨g, o, none⟩) xs.length c) → i < xs.length → Rp w S σ (.dptr sz xs i j) (.pointer (some ⟨g, o + i * sz + j, none⟩))
  | ptr (id off g : Nat) : σ id = some (.pointer (some ⟨g, 0, none⟩)) → Rp w S σ (.ptr id off) (.pointer (some ⟨g, off, none⟩))
  | eptr (id sz i j g o n c : Nat) : σ id = some (.slice (some ⟨g, o, none⟩) n c) → Rp w S σ (.eptr id sz i j) (.pointer (some ⟨g, o + i * sz + j, none⟩))
  | osl (id sz off n : Nat) (A B : Option Addr) (N c cc : Nat) : σ id = some (.slice A N c) → n ≤ cc → off + cc = c → (0 < cc → B = A.map (·.add (off * sz))) → Rp w S σ (.osl id sz off n) (.slice B n cc)
  | mp (id g : Nat) : σ id = some (.map (some g)) → Rp w S σ (.mp id) (.map (some g))
  | fn (f : Fn) (first captured : List AV) (fs cs : Array Value) : first.length = fs.size → captured.length = cs.size → (∀ (i : Nat) (a : AV) (v : Value), first[i]? = some a → fs[i]? = some v → Rp w S σ a v) →
      (∀ (i : Nat) (a : AV) (v : Value), captured[i]? = some a → cs[i]? = some v → Rp w S σ a v) → Rp w S σ (.fn f first captured) (.func f fs cs)

section
variable {w w' : World} {S S' : Nat → Prop} {σ σ' : Nat → Option Value} {a : AV} {v : Value}
theorem RpD.mono (h : RpD w S a v) (hs : ∀ b, S b → S' b) (hw : ∀ b, S b → w'.heap[b]? = w.heap[b]?) : RpD w' S' a v := by
  induction h with
  | p v h => exact .p v h
  | agg cs vs hl _ h1 ih => exact .agg cs vs hl (fun i a v ha hv => ih i a v ha hv) h1
  | dsl sz xs A c z h1 h2 h3 h4 _ h6 ih =>
    refine .dsl sz xs A c z h1 h2 h3 (fun i e j a he ha => ?_) (fun i e j a he ha => ih i e j a he ha) h6
    obtain ⟨g, o, rfl, hg, hc⟩ := h4 i e j a he ha
    exact ⟨g, o, rfl, hs g hg, (World.cell?_of_block (hw g hg)).trans hc⟩
theorem Rp.mono (h : Rp w S σ a v) (hs : ∀ b, S b → S' b) (hw : ∀ b, S b → w'.heap[b]? = w.heap[b]?) (hg : ∀ id u, σ id = some u → σ' id = some u) : Rp w' S' σ' a v := by
  induction h with
  | any v => exact .any v
  | data a v h => exact .data a v (h.mono hs hw)
  | agg cs vs hl _ h1 ih => exact .agg cs vs hl (fun i a v ha hv => ih i a v ha hv) h1
  | tup cs vs hl _ ih => exact .tup cs vs hl (fun i a v ha hv => ih i a v ha hv)
  | dptr sz xs i j g o c h hi => exact .dptr sz xs i j g o c (h.mono hs hw) hi
  | ptr id off g h => exact .ptr id off g (hg _ _ h)
  | eptr id sz i j g o n c h => exact .eptr id sz i j g o n c (hg _ _ h)
  | osl id sz off n A B N c cc h h1 h2 h3 => exact .osl id sz off n A B N c cc (hg _ _ h) h1 h2 h3
  | mp id g h => exact .mp id g (hg _ _ h)
  | fn f first captured fs cs h1 h2 _ _ ih1 ih2 => exact .fn f first captured fs cs h1 h2 (fun i a v ha hv => ih1 i a v ha hv) (fun i a v ha hv => ih2 i a v ha hv)
/-- list by array -/
def Rps (w : World) (S : Nat → Prop) (σ : Nat → Option Value) (ps : List AV) (vs : List Value) : Prop := ps.length = vs.length ∧ ∀ (i : Nat) (a : AV) (v : Value), ps[i]? = some a → vs[i]? = some v → Rp w S σ a v
theorem Rps.nil : Rps w S σ [] [] := ⟨rfl, by simp⟩
theorem Rps.cons {ps : List AV} {vs : List Value} (h : Rp w S σ a v) (hs : Rps w S σ ps vs) : Rps w S σ (a :: ps) (v :: vs) := by
  refine ⟨by simp [hs.1], fun i b u hb hu => ?_⟩
  cases i with
  | zero => simp at hb hu; subst hb; subst hu; exact h
  | succ i => exact hs.2 i b u (by simpa using hb) (by simpa using hu)
theorem Rps.uncons {ps : List AV} {vs : List Value} (h : Rps w S σ (a :: ps) vs) : ∃ v r, vs = v :: r ∧ Rp w S σ a v ∧ Rps w S σ ps r := by
  obtain ⟨hl, h⟩ := h
  match vs, hl with
  | v :: r, hl => exact ⟨v, r, rfl, h 0 a v rfl rfl, by simpa using hl, fun i b u hb hu => h (i + 1) b u (by simpa using hb) (by simpa using hu)⟩
theorem Rps.nil_inv {vs : List Value} (h : Rps w S σ [] vs) : vs = [] := List.eq_nil_of_length_eq_zero h.1.symm
theorem Rps.mono {ps : List AV} {vs : List Value} (h : Rps w S σ ps vs) (hs : ∀ b, S b → S' b) (hw : ∀ b, S b → w'.heap[b]? = w.heap[b]?) (hg : ∀ id u, σ id = some u → σ' id = some u) : Rps w' S' σ' ps vs :=
  ⟨h.1, fun i a v ha hv => (h.2 i a v ha hv).mono hs hw hg⟩
theorem Rps.append {ps bs : List AV} {vs us : List Value} (h : Rps w S σ ps vs) (h' : Rps w S σ bs us) : Rps w S σ (ps ++ bs) (vs ++ us) := by
  refine ⟨by simp [h.1, h'.1], fun i a v ha hv => ?_⟩
  by_cases hi : i < ps.length
  · rw [List.getElem?_append_left hi] at ha
    rw [List.getElem?_append_left (by rw [← h.1]; exact hi)] at hv
    exact h.2 i a v ha hv
  · rw [List.getElem?_append_right (by omega)] at ha
    rw [List.getElem?_append_right (by rw [← h.1]; omega), ← h.1] at hv
    exact h'.2 _ a v ha hv
theorem Rp.p_inv {u : Value} (h : Rp w S σ (.p u) v) : v = u ∧ u.oneCell' = true := by
  cases h with
  | data _ _ h => cases h with | p _ h => exact ⟨rfl, h⟩
theorem Rp.agg_inv {cs : List AV} (h : Rp w S σ (.agg cs) v) : ∃ vs : Array Value, v = .agg vs ∧ Rps w S σ cs vs.toList ∧ ∀ u ∈ vs, u.oneCell' = true := by
  cases h with
  | data _ _ h => cases h with
    | agg _ vs hl h h1 => exact ⟨vs, rfl, ⟨by simpa using hl, fun i a u ha hu => .data _ _ (h i a u ha (by simpa using hu))⟩, h1⟩
  | agg _ vs hl h h1 => exact ⟨vs, rfl, ⟨by simpa using hl, fun i a u ha hu => h i a u ha (by simpa using hu)⟩, h1⟩
theorem Rp.tup_inv {cs : List AV} (h : Rp w S σ (.tup cs) v) : ∃ vs : Array Value, v = .tuple vs ∧ Rps w S σ cs vs.toList := by
  cases h with
  | data _ _ h => cases h
  | tup _ vs hl h => exact ⟨vs, rfl, by simpa using hl, fun i a u ha hu => h i a u ha (by simpa using hu)⟩
theorem Rp.dsl_inv {sz : Nat} {xs : List (List AV)} (h : Rp w S σ (.dsl sz xs) v) : RpD w S (.dsl sz xs) v := by
  cases h with
  | data _ _ h => exact h
theorem RpD.dsl_inv {sz : Nat} {xs : List (List AV)} (h : RpD w S (.dsl sz xs) v) : ∃ (A : Option Addr) (c : Nat) (z : Nat → Nat → Value), v = .slice A xs.length c ∧ xs.length ≤ c ∧ c ≤ maxLen ∧ (∀ e ∈ xs, e.length = sz) ∧
      (∀ (i : Nat) (e : List AV) (j : Nat) (a : AV), xs[i]? = some e → e[j]? = some a → ∃ g o, A = some ⟨g, o, none⟩ ∧ S g ∧ w.cell? ⟨g, o + i * sz + j, none⟩ = some (z i j)) ∧
      (∀ (i : Nat) (e : List AV) (j : Nat) (a : AV), xs[i]? = some e → e[j]? = some a → RpD w S a (z i j)) ∧ (∀ i j, (z i j).oneCell' = true) := by
  cases h with
  | dsl _ _ A c z h1 h2 h3 h4 h5 h6 => exact ⟨A, c, z, rfl, h1, h2, h3, h4, h5, h6⟩
theorem Rp.dptr_inv {sz i j : Nat} {xs : List (List AV)} (h : Rp w S σ (.dptr sz xs i j) v) : ∃ g o c, v = .pointer (some ⟨g, o + i * sz + j, none⟩) ∧ RpD w S (.dsl sz xs) (.slice (some ⟨g, o, none⟩) xs.length c) ∧ i < xs.length := by
  cases h with
  | data _ _ h => cases h
  | dptr _ _ _ _ g o c h hi => exact ⟨g, o, c, rfl, h, hi⟩
theorem Rp.ptr_inv {id off : Nat} (h : Rp w S σ (.ptr id off) v) : ∃ g, v = .pointer (some ⟨g, off, none⟩) ∧ σ id = some (.pointer (some ⟨g, 0, none⟩)) := by
  cases h with
  | data _ _ h => cases h
  | ptr _ _ g h => exact ⟨g, rfl, h⟩
theorem Rp.eptr_inv {id sz i j : Nat} (h : Rp w S σ (.eptr id sz i j) v) : ∃ g o n c, v = .pointer (some ⟨g, o + i * sz + j, none⟩) ∧ σ id = some (.slice (some ⟨g, o, none⟩) n c) := by
  cases h with
  | data _ _ h => cases h
  | eptr _ _ _ _ g o n c h => exact ⟨g, o, n, c, rfl, h⟩
theorem Rp.osl_inv {id sz off n : Nat} (h : Rp w S σ (.osl id sz off n) v) : ∃ (A B : Option Addr) (N c cc : Nat), v = .slice B n cc ∧ σ id = some (.slice A N c) ∧ n ≤ cc ∧ off + cc = c ∧ (0 < cc → B = A.map (·.add (off * sz))) := by
  cases h with
  | data _ _ h => cases h
  | osl _ _ _ _ A B N c cc h h1 h2 h3 => exact ⟨A, B, N, c, cc, rfl, h, h1, h2, h3⟩
theorem Rp.mp_inv {id : Nat} (h : Rp w S σ (.mp id) v) : ∃ g, v = .map (some g) ∧ σ id = some (.map (some g)) := by
  cases h with
  | data _ _ h => cases h
  | mp _ g h => exact ⟨g, rfl, h⟩
theorem Rp.fn_inv {f : Fn} {first captured : List AV} (h : Rp w S σ (.fn f first captured) v) : ∃ fs cs : Array Value, v = .func f fs cs ∧ Rps w S σ first fs.toList ∧ Rps w S σ captured cs.toList := by
  cases h with
  | data _ _ h => cases h
  | fn _ _ _ fs cs h1 h2 h3 h4 => exact ⟨fs, cs, rfl, ⟨by simpa using h1, fun i a u ha hu => h3 i a u ha (by simpa using hu)⟩, by simpa using h2, fun i a u ha hu => h4 i a u ha (by simpa using hu)⟩
theorem Rps.agg {cs : List AV} {vs : Array Value} (h : Rps w S σ cs vs.toList) (h1 : ∀ u ∈ vs, u.oneCell' = true) : Rp w S σ (.agg cs) (.agg vs) :=
  .agg cs vs (by simpa using h.1) (fun i a v ha hv => h.2 i a v ha (by simpa using hv)) h1
theorem Rps.tup {cs : List AV} {vs : Array Value} (h : Rps w S σ cs vs.toList) : Rp w S σ (.tup cs) (.tuple vs) :=
  .tup cs vs (by simpa using h.1) (fun i a v ha hv => h.2 i a v ha (by simpa using hv))
end
/-- one cell's worth -/
def AV.one : AV → Bool
  | .any | .agg _ | .tup _ => false
  | _ => true
theorem Rp.one_cell {w : World} {S : Nat → Prop} {σ : Nat → Option Value} {a : AV} {v : Value} (h : Rp w S σ a v) (h1 : a.one = true) : v.oneCell' = true := by
  cases h with
  | data _ _ h => cases h with
    | p _ h => exact h
    | agg _ _ _ _ => cases h1
    | dsl => rfl
  | any | agg | tup => cases h1
  | dptr | ptr | eptr | osl | mp | fn => rfl
end Go.Proofs.Ytaepnmnoofigjaa

/- The last step of every law: where the call returns true and turns nothing that was there, the row's claim is met. Nothing of the program is named here. -/
namespace Go.Proofs.Ytaepnmnoofigjaa
open Go.ChangeShapes Go.WideShapes Go.ChangeAt Go.RowKit

theorem own : ownKnob Try.prog.godebug = none := by kernel_rfl
theorem laidOut : laidOutB Try.prog = true := by kernel_rfl

section
variable {H : Type} {enc : TypeId × Value → H} {P : Program}
theorem trodAll_stays (hl : laidOutB P = true) {W W' : World} {sp' : Nat → Bool} : ∀ {ts : List TypeId} {vs : List Value} {ds : List (DataW H)} {ps : List MemPlace},
    (ts.all fun t => P.readableRec t && decide (t < P.types.size)) = true → DataW.TrodAll enc P W 0 (fun _ => true) true ts vs ds ps → (∀ p ∈ ps, W.sameAt W' p) → (∀ p ∈ ps, sp' p.block = true) →
    DataW.TrodAll enc P W' 0 sp' true ts vs ds ps
  | [], vs, ds, ps, _, h, _, _ => by
    obtain ⟨rfl, rfl, rfl⟩ := trodAll_nil h
    exact trodAll_mk0
  | t :: ts, vs, ds, ps, hr, h, hs, hp => by
    obtain ⟨v, vs', d, ds', p, q, rfl, rfl, rfl, h0, h1⟩ := trodAll_cons h
    simp only [List.all_cons, Bool.and_eq_true, decide_eq_true_eq] at hr
    exact trodAll_cons_mk (WideElems.Trod_stays hl hr.1.1 hr.1.2 h0 (fun x hx => hs x (by simp [hx])) (fun x hx => hp x (by simp [hx])))
      (trodAll_stays hl (by simpa using hr.2) h1 (fun x hx => hs x (by simp [hx])) (fun x hx => hp x (by simp [hx])))

theorem post_true {f : Func} {s : ChangeSpec} {apart fresh handsOn again : Bool} {W W' : World} {args : Array Value} {ds gs : List (DataW H)} {before : List MemPlace} {tb : TypeId}
    (hrt : f.resultTypes = #[tb]) (hb : P.underlying tb = some .bool) (hvars : s.vars = []) (hl : laidOutB P = true)
    (hr : (f.params.toList.all fun t => P.readableRec t && decide (t < P.types.size)) = true)
    (hW : DataW.Whole enc P f.params.toList s.vars apart W args.toList ds gs before) (hfn : s.fn H (ds ++ gs) = { results := [.lit (.bool true)], args := ds })
    (hbelow : Below W.heap.size W W') : s.post enc P f apart fresh handsOn again W args (.bool true) W' := by
  have hW' := hW
  obtain ⟨p, q, hA, hV, rfl, hfz, hnd⟩ := hW
  rw [hvars] at hV
  obtain ⟨rfl, rfl⟩ := trodVars_none hV
  have hlt : ∀ x ∈ p ++ [], x.block < W.heap.size := fun x hx => hW'.lt x hx
  refine post_of_below (pa := p) (pv := []) hW' (fun b sp hd => ?_) (fun sp hsp => ?_) (fun sp _ => ?_) rfl hbelow (ok_one hrt rfl (okWide_bool_mk hb _))
  · rw [hfn, hrt]; exact trodAll_mk1 (shut_bool hb _)
  · rw [hfn]; exact trodAll_stays hl hr hA (fun x hx => hbelow.same (hlt x (by simp [hx]))) (fun x hx => hsp x (by simp [hx]))
  · rw [hfn, hvars]; exact rfl
end
end Go.Proofs.Ytaepnmnoofigjaa

/- Small facts of use in many walks: returns, a string's iterator anywhere in memory, new cells. Nothing of the program is named here. -/
namespace Go.Proofs.Ytaepnmnoofigjaa
open Go.RowKit

theorem ret_tup2 {k l : IntKind} {a b c d : Int} (h : a = b) (h' : c = d) : Ending.returned (.tuple #[.int k a, .int l c]) = .returned (.tuple #[.int k b, .int l d]) := by rw [h, h']
theorem ret_tup3 {k l m : IntKind} {a b c d e f : Int} (h : a = b) (h' : c = d) (h'' : e = f) : Ending.returned (.tuple #[.int k a, .int l c, .int m e]) = .returned (.tuple #[.int k b, .int l d, .int m f]) := by rw [h, h', h'']
theorem ret_bool {a b : Bool} (h : a = b) : Ending.returned (.bool a) = .returned (.bool b) := by rw [h]
theorem ret_int {k : IntKind} {a b : Int} (h : a = b) : Ending.returned (.int k a) = .returned (.int k b) := by rw [h]

theorem cells_new (w : World) (xs : List Value) (t : TypeId) : ∀ (j : Nat) (u : Value), xs[j]? = some u → (w.alloc (.cells xs.toArray t)).cell? (Addr.add ⟨w.heap.size, 0, none⟩ j) = some u := by
  intro j u hu
  have hb := (Blk.new w t xs.toArray).cell j
  have : Addr.add ⟨w.heap.size, 0, none⟩ j = ⟨w.heap.size, j, none⟩ := by
    unfold Addr.add; split
    · rename_i h; simp
    · simp
  rw [this, hb]; simpa using hu
theorem one3 (k1 k2 k3 : IntKind) (a b c : Int) : ∀ u ∈ [Value.int k1 a, .int k2 b, .int k3 c], u.oneCell' = true := by
  intro u hu; simp at hu; rcases hu with rfl | rfl | rfl <;> rfl
theorem own_ge {w : World} {base : Nat} {e : TypeId} {size n : Nat} {v : Value} {xs : List Value} (h : w.ownsRow base e size v n xs) : ∀ k, v.ownBlock = some k → base ≤ k := by
  intro k hk
  rcases h.2 with ⟨rfl, _⟩ | ⟨g, cap, cur, rfl, hg, _⟩
  · simp [Value.ownBlock] at hk
  · simp [Value.ownBlock] at hk; omega
theorem ownsRow_none (w : World) (base : Nat) (e : TypeId) (size : Nat) : w.ownsRow base e size (.slice none 0 0) 0 [] := ⟨by simp, .inl ⟨rfl, rfl⟩⟩

theorem own_drewN {w : World} {base : Nat} {e : TypeId} {size n : Nat} {v : Value} {xs : List Value} (h : w.ownsRow base e size v n xs) (k : Nat) : (w.drewN k).ownsRow base e size v n xs := h

/-- the iterator in block g moves to p -/
def setIter (w : World) (g : Nat) (s : ByteArray) (p : Nat) : World := { w with heap := w.heap.setIfInBounds g (.stringIter s p) }
section
variable {P : Program} {w : World} {g : Nat} {s : ByteArray} {p : Nat}
theorem run_next_at (ty : TypeId) (hg : w.heap[g]? = some (.stringIter s p)) (h : p < s.size) :
    (Instr.next (.pointer (some ⟨g, 0, none⟩)) true ty).run P w =
      .ok (.tuple #[.bool true, .int .i64 p, .int .i32 (Utf8.decode s p).1]) (setIter w g s (p + (Utf8.decode s p).2)) := by
  simp only [Instr.next, getObj, setObj, Sem.run_bind, Sem.run, hg, Result.andThen, h, if_true]
  simp [goInt, setIter]
theorem run_next_over (ty : TypeId) (hg : w.heap[g]? = some (.stringIter s p)) (h : ¬ p < s.size) :
    (Instr.next (.pointer (some ⟨g, 0, none⟩)) true ty).run P w = .ok (.tuple #[.bool false]) w := by
  simp [Instr.next, getObj, Sem.run, hg, h]
theorem setIter_get (q : Nat) (hg : w.heap[g]? = some (.stringIter s p)) : (setIter w g s q).heap[g]? = some (.stringIter s q) := by
  have : g < w.heap.size := (Array.getElem?_eq_some_iff.1 hg).1
  simp [setIter, this]
theorem setIter_size (q : Nat) : (setIter w g s q).heap.size = w.heap.size := by simp [setIter]
theorem setIter_far (q k : Nat) (h : k ≠ g) : (setIter w g s q).heap[k]? = w.heap[k]? := by
  simp [setIter, Array.getElem?_setIfInBounds]; intro e; exact absurd e.symm h
theorem below_setIter {B : Nat} {a : World} (h : Below B a w) (hB : B ≤ g) (q : Nat) : Below B a (setIter w g s q) :=
  h.trans ⟨rfl, rfl, rfl, by simp [setIter], fun k hk => setIter_far q k (by omega)⟩
theorem own_setIter {base : Nat} {e : TypeId} {size n : Nat} {v : Value} {xs : List Value} (h : w.ownsRow base e size v n xs) (hg : w.heap[g]? = some (.stringIter s p)) (q : Nat) :
    (setIter w g s q).ownsRow base e size v n xs := by
  refine ⟨h.1, ?_⟩
  rcases h.2 with h2 | ⟨g', cap, cur, hv, hb, hh, hr⟩
  · exact .inl h2
  · refine .inr ⟨g', cap, cur, hv, hb, ?_, hr⟩
    rw [setIter_far]
    · exact hh
    · rintro rfl; rw [hh] at hg; cases hg
theorem own_ne_iter {base : Nat} {e : TypeId} {size n : Nat} {v : Value} {xs : List Value} (h : w.ownsRow base e size v n xs) (hg : w.heap[g]? = some (.stringIter s p)) : some g ≠ v.ownBlock := by
  rcases h.2 with ⟨rfl, _⟩ | ⟨g', cap, cur, rfl, _, hh, _⟩
  · simp [Value.ownBlock]
  · intro he
    have : g = g' := by simpa [Value.ownBlock] using he
    subst this; rw [hh] at hg; cases hg
theorem iter_new (w : World) (s : ByteArray) (p : Nat) : (w.iter s p).heap[w.heap.size]? = some (.stringIter s p) := World.iter_heap w s p
theorem below_iter {B : Nat} {a : World} (h : Below B a w) (hB : B ≤ w.heap.size) (s : ByteArray) (q : Nat) : Below B a (w.iter s q) := h.alloc hB _
end

/-- two drawn strings -/
theorem decode_width (s : ByteArray) (a : Nat) (ha : a < s.size) : 1 ≤ (Utf8.decode s a).2 ∧ a + (Utf8.decode s a).2 ≤ s.size := by
  simp only [Utf8.decode]
  repeat' split
  all_goals (first | (constructor <;> simp_all <;> omega) | (simp_all; omega) | skip)
end Go.Proofs.Ytaepnmnoofigjaa

/- Rows of structs of three integers: elements read, rows kept. Nothing of the program is named here. -/
namespace Go.Proofs.Ytaepnmnoofigjaa
open Go.RowKit

/-- the cells of rows of three integers -/
def unitCells (l : List (Int × Int × Int)) : List Value := l.flatMap fun u => [.int .i64 u.1, .int .i64 u.2.1, .int .i64 u.2.2]
theorem unitCells_len (l : List (Int × Int × Int)) : (unitCells l).length = l.length * 3 := by
  induction l with
  | nil => rfl
  | cons u l ih =>
    have e : unitCells (u :: l) = [.int .i64 u.1, .int .i64 u.2.1, .int .i64 u.2.2] ++ unitCells l := rfl
    rw [e, List.length_append, ih]; simp; omega
theorem unitCells_get (l : List (Int × Int × Int)) (k : Nat) (hk : k < l.length) :
    (unitCells l)[k * 3]? = some (.int .i64 (l[k]'hk).1) ∧ (unitCells l)[k * 3 + 1]? = some (.int .i64 (l[k]'hk).2.1) ∧ (unitCells l)[k * 3 + 2]? = some (.int .i64 (l[k]'hk).2.2) := by
  induction l generalizing k with
  | nil => simp at hk
  | cons u l ih =>
    match k with
    | 0 => simp [unitCells]
    | k + 1 =>
      have h := ih k (by simpa using hk)
      have e : unitCells (u :: l) = [.int .i64 u.1, .int .i64 u.2.1, .int .i64 u.2.2] ++ unitCells l := rfl
      rw [e]
      have q : ∀ j, ([Value.int .i64 u.1, .int .i64 u.2.1, .int .i64 u.2.2] ++ unitCells l)[(k + 1) * 3 + j]? = (unitCells l)[k * 3 + j]? := by
        intro j
        rw [List.getElem?_append_right (by simp; omega)]
        congr 1; simp; omega
      have q0 := q 0; simp only [Nat.add_zero] at q0
      rw [q0, q 1, q 2]
      exact h
/-- an element of an owned row -/
theorem row3_at {w : World} {B e n c k : Nat} {A : Option Addr} {l : List (Int × Int × Int)} (h : w.ownsRow B e 3 (.slice A n c) l.length (unitCells l)) (hk : k < l.length) :
    ∃ g, A = some ⟨g, 0, none⟩ ∧ n = l.length ∧ B ≤ g ∧ g < w.heap.size ∧ w.cell? ⟨g, k * 3, none⟩ = some (.int .i64 (l[k]'hk).1) ∧ w.cell? ⟨g, k * 3 + 1, none⟩ = some (.int .i64 (l[k]'hk).2.1) ∧ w.cell? ⟨g, k * 3 + 2, none⟩ = some (.int .i64 (l[k]'hk).2.2) := by
  rcases h.2 with ⟨_, h0⟩ | ⟨g, cap, cur, hv, hB, hh, hn, hc, hs, ht⟩
  · omega
  · simp only [Value.slice.injEq] at hv
    obtain ⟨rfl, rfl, rfl⟩ := hv
    obtain ⟨u0, u1, u2⟩ := unitCells_get l k hk
    have hb : Blk w g e cur := hh
    have get : ∀ j v, (unitCells l)[j]? = some v → w.cell? ⟨g, j, none⟩ = some v := by
      intro j v hj
      rw [hb.cell]
      rw [← ht] at hj
      rw [List.getElem?_take] at hj
      split at hj
      · rw [← hj, Array.getElem?_toList]
      · cases hj
    exact ⟨g, rfl, rfl, hB, hb.lt, get _ _ u0, get _ _ u1, get _ _ u2⟩
theorem own_slice {w : World} {B e s n : Nat} {v : Value} {xs : List Value} (h : w.ownsRow B e s v n xs) : ∃ A c, v = .slice A n c := by
  rcases h.2 with ⟨hv, h0⟩ | ⟨g, cap, cur, hv, _⟩
  · exact ⟨none, 0, by rw [hv, h0]⟩
  · exact ⟨_, _, hv⟩
/-- a row of another type is kept -/
theorem own_others {w w' : World} {B e e' b s n : Nat} {v : Value} {xs : List Value} (h : w.ownsRow B e s v n xs) (hk : Lib.OthersKept e' (some b) w w') (hne : e ≠ e') (hb : v.ownBlock ≠ some b) : w'.ownsRow B e s v n xs := by
  refine ⟨h.1, ?_⟩
  rcases h.2 with h2 | ⟨g, cap, cur, hv, hB, hh, hr⟩
  · exact .inl h2
  · exact .inr ⟨g, cap, cur, hv, hB, hk g _ hh (by rw [hv] at hb; simpa [Value.ownBlock] using hb) (by intro c fz hc; simp only [Obj.cells.injEq] at hc; exact hne hc.2.1), hr⟩
theorem own_below {w w' : World} {B e s n K : Nat} {v : Value} {xs : List Value} (h : w.ownsRow B e s v n xs) (hb : Below K w w') (hlt : ∀ g, v.ownBlock = some g → g < K) : w'.ownsRow B e s v n xs := by
  refine ⟨h.1, ?_⟩
  rcases h.2 with h2 | ⟨g, cap, cur, hv, hB, hh, hr⟩
  · exact .inl h2
  · exact .inr ⟨g, cap, cur, hv, hB, (hb.block g (hlt g (by rw [hv]; rfl))).trans hh, hr⟩
theorem own_lt {w : World} {B e s n : Nat} {v : Value} {xs : List Value} (h : w.ownsRow B e s v n xs) : ∀ g, v.ownBlock = some g → g < w.heap.size := by
  intro g hg
  rcases h.2 with ⟨rfl, _⟩ | ⟨g', cap, cur, rfl, _, hh, _⟩
  · simp [Value.ownBlock] at hg
  · simp [Value.ownBlock] at hg; subst hg; exact (Array.getElem?_eq_some_iff.1 hh).1
theorem own_below_all {w w' : World} {B e s n : Nat} {v : Value} {xs : List Value} (h : w.ownsRow B e s v n xs) (hb : Below w.heap.size w w') : w'.ownsRow B e s v n xs :=
  own_below h hb (own_lt h)
theorem unitCells_append (l r : List (Int × Int × Int)) : unitCells (l ++ r) = unitCells l ++ unitCells r := by simp [unitCells]
theorem unitCells_set (o : List (Int × Int × Int)) (a b c x : Int) : (unitCells (o ++ [(a, b, c)])).set (o.length * 3 + 2) (.int .i64 x) = unitCells (o ++ [(a, b, x)]) := by
  rw [unitCells_append, unitCells_append, List.set_append, if_neg (by rw [unitCells_len]; omega)]
  congr 1
  rw [unitCells_len]
  have : o.length * 3 + 2 - o.length * 3 = 2 := by omega
  rw [this]; rfl
/-- rows of two types lie in two blocks -/
theorem own_ne {w : World} {B B' e e' s s' n n' g g' c c' : Nat} {xs xs' : List Value} (h : w.ownsRow B e s (.slice (some ⟨g, 0, none⟩) n c) n xs) (h' : w.ownsRow B' e' s' (.slice (some ⟨g', 0, none⟩) n' c') n' xs') (hne : e ≠ e') : g ≠ g' := by
  rintro rfl
  obtain ⟨c1, f1, h1⟩ := (show ∃ c fz, w.heap[g]? = some (.cells c e fz) from by
    rcases h.2 with ⟨hv, _⟩ | ⟨g1, cap, cur, hv, _, hh, _⟩
    · simp at hv
    · simp only [Value.slice.injEq, Option.some.injEq, Addr.mk.injEq] at hv; obtain ⟨⟨rfl, _⟩, _⟩ := hv; exact ⟨_, _, hh⟩)
  obtain ⟨c2, f2, h2⟩ := (show ∃ c fz, w.heap[g]? = some (.cells c e' fz) from by
    rcases h'.2 with ⟨hv, _⟩ | ⟨g1, cap, cur, hv, _, hh, _⟩
    · simp at hv
    · simp only [Value.slice.injEq, Option.some.injEq, Addr.mk.injEq] at hv; obtain ⟨⟨rfl, _⟩, _⟩ := hv; exact ⟨_, _, hh⟩)
  rw [h1] at h2; simp only [Option.some.injEq, Obj.cells.injEq] at h2; exact hne h2.2.1
end Go.Proofs.Ytaepnmnoofigjaa

/- Readings: what a list of cells stands for: integers, bools, texts, slices of these, one in the other; kept by whatever leaves their blocks alone. Nothing of the program is named here. -/
namespace Go.Proofs.Ytaepnmnoofigjaa
open Go.RowKit

/-- what cells stand for; S: the blocks that are read -/
structure Rep (α : Type) where
  size : Nat
  bulk : α → Nat
  R : World → (Nat → Prop) → List Value → α → Prop
  len : ∀ {w S cs x}, R w S cs x → cs.length = size
  one : ∀ {w S cs x}, R w S cs x → ∀ u ∈ cs, u.oneCell' = true
  keep : ∀ {w w' : World} {S cs x}, R w S cs x → (∀ p : Addr, S p.block → w'.cell? p = w.cell? p) → R w' S cs x
  more : ∀ {w : World} {S S' : Nat → Prop} {cs x}, R w S cs x → (∀ b, S b → S' b) → R w S' cs x

def I64 (x : Int) : Prop := -9223372036854775808 ≤ x ∧ x ≤ 9223372036854775807
theorem i64_of {x : Int} (h : -9223372036854775808 ≤ x) (h' : x ≤ 9223372036854775807) : I64 x := ⟨h, h'⟩
theorem I64.lo {x : Int} (h : I64 x) : -9223372036854775808 ≤ x := h.1
theorem I64.hi {x : Int} (h : I64 x) : x ≤ 9223372036854775807 := h.2
theorem I64.wf {x : Int} (h : I64 x) : (Lit.int .i64 x).wf = true := WalkArith.wf_i64 ⟨h.1, h.2⟩

def rInt : Rep Int where
  size := 1
  bulk _ := 1
  R _ _ cs x := cs = [.int .i64 x] ∧ I64 x
  len h := by rw [h.1]; rfl
  one h := by rw [h.1]; intro u hu; simp at hu; subst hu; rfl
  keep h _ := h
  more h _ := h
def rBool : Rep Bool where
  size := 1
  bulk _ := 1
  R _ _ cs x := cs = [.bool x]
  len h := by rw [h]; rfl
  one h := by rw [h]; intro u hu; simp at hu; subst hu; rfl
  keep h _ := h
  more h _ := h
def rStr : Rep ByteArray where
  size := 1
  bulk s := s.size + 1
  R _ _ cs x := cs = [.string x] ∧ x.size ≤ maxLen
  len h := by rw [h.1]; rfl
  one h := by rw [h.1]; intro u hu; simp at hu; subst hu; rfl
  keep h _ := h
  more h _ := h

section
variable {α : Type} {ρ : Rep α} {w w' : World} {S S' : Nat → Prop} {A : Option Addr} {c : Nat} {xs : List α}

/-- a slice's elements -/
def Sl (ρ : Rep α) (w : World) (S : Nat → Prop) (A : Option Addr) (c : Nat) (xs : List α) : Prop :=
  xs.length ≤ c ∧ c ≤ maxLen ∧ ∀ i x, xs[i]? = some x → ∃ ad u, A = some ad ∧ S ad.block ∧ ρ.R w S u x ∧ ∀ j z, u[j]? = some z → w.cell? (ad.add (i * ρ.size + j)) = some z

theorem Sl.keep (h : Sl ρ w S A c xs) (hk : ∀ p : Addr, S p.block → w'.cell? p = w.cell? p) : Sl ρ w' S A c xs :=
  ⟨h.1, h.2.1, fun i x hx => by
    obtain ⟨ad, u, e, hs, hr, hc⟩ := h.2.2 i x hx
    exact ⟨ad, u, e, hs, ρ.keep hr hk, fun j z hz => (hk _ (by rw [block_of_add]; exact hs)).trans (hc j z hz)⟩⟩
theorem Sl.more (h : Sl ρ w S A c xs) (hm : ∀ b, S b → S' b) : Sl ρ w S' A c xs :=
  ⟨h.1, h.2.1, fun i x hx => by
    obtain ⟨ad, u, e, hs, hr, hc⟩ := h.2.2 i x hx
    exact ⟨ad, u, e, hm _ hs, ρ.more hr hm, hc⟩⟩
theorem Sl.below (h : Sl ρ w S A c xs) (hS : ∀ b, S b → b < w.heap.size) (hb : Below w.heap.size w w') : Sl ρ w' S A c xs := h.keep fun p hp => hb.cell (hS _ hp)
theorem in_below (hS : ∀ b, S b → b < w.heap.size) (hb : Below w.heap.size w w') : ∀ b, S b → b < w'.heap.size := fun b h => Nat.lt_of_lt_of_le (hS b h) hb.size
theorem Sl.nil_ : Sl ρ w S none 0 [] := ⟨by simp, by simp [maxLen], by simp⟩
theorem Sl.le (h : Sl ρ w S A c xs) : xs.length ≤ c := h.1
theorem Sl.max (h : Sl ρ w S A c xs) : c ≤ maxLen := h.2.1
theorem Sl.at_ (h : Sl ρ w S A c xs) {k : Nat} (hk : k < xs.length) : ∃ ad u, A = some ad ∧ S ad.block ∧ ρ.R w S u (xs[k]'hk) ∧ ∀ j z, u[j]? = some z → w.cell? (ad.add (k * ρ.size + j)) = some z :=
  h.2.2 k _ (List.getElem?_eq_getElem hk)
/-- an element of several cells, as the walk spells them -/
theorem Sl.fields (h : Sl ρ w S A c xs) {k : Nat} (hk : k < xs.length) : ∃ ad u, A = some ad ∧ S ad.block ∧ ρ.R w S u (xs[k]'hk) ∧ (∀ z, u[0]? = some z → w.cell? (ad.add (k * ρ.size)) = some z) ∧
    ∀ j z, u[j + 1]? = some z → w.cell? ⟨(ad.add (k * ρ.size)).block, (ad.add (k * ρ.size)).off + (j + 1), none⟩ = some z := by
  obtain ⟨ad, u, e, hs, hr, hc⟩ := h.at_ hk
  refine ⟨ad, u, e, hs, hr, fun z hz => hc 0 z hz, fun j z hz => ?_⟩
  have := hc (j + 1) z hz
  rw [← add_of_add] at this
  exact this
/-- s[k:] -/
theorem Sl.cut (h : Sl ρ w S A c xs) (k : Nat) : Sl ρ w S (if c = k then A else A.map (·.add (k * ρ.size))) (c - k) (xs.drop k) := by
  obtain ⟨h1, h2, h3⟩ := h
  refine ⟨by rw [List.length_drop]; omega, by omega, fun i x hx => ?_⟩
  rw [List.getElem?_drop] at hx
  have hlt : k + i < xs.length := (List.getElem?_eq_some_iff.1 hx).1
  obtain ⟨ad, u, e, hs, hr, hc⟩ := h3 (k + i) x hx
  rw [if_neg (by omega), e]
  refine ⟨_, u, rfl, by rw [block_of_add]; exact hs, hr, fun j z hz => ?_⟩
  rw [add_of_add]
  have := hc j z hz
  rwa [show k * ρ.size + (i * ρ.size + j) = (k + i) * ρ.size + j from by rw [Nat.add_mul]; omega]
/-- s[:k] -/
theorem Sl.top (h : Sl ρ w S A c xs) (k : Nat) : Sl ρ w S A c (xs.take k) := by
  obtain ⟨h1, h2, h3⟩ := h
  refine ⟨by rw [List.length_take]; omega, h2, fun i x hx => h3 i x ?_⟩
  rw [List.getElem?_take] at hx
  split at hx
  · exact hx
  · cases hx

def rList (ρ : Rep α) : Rep (List α) where
  size := 1
  bulk xs := (xs.map ρ.bulk).sum + 1
  R w S cs xs := ∃ A c, cs = [.slice A xs.length c] ∧ Sl ρ w S A c xs
  len := fun ⟨_, _, e, _⟩ => by rw [e]; rfl
  one := fun ⟨_, _, e, _⟩ => by rw [e]; intro u hu; simp at hu; subst hu; rfl
  keep := fun ⟨A, c, e, h⟩ hk => ⟨A, c, e, h.keep hk⟩
  more := fun ⟨A, c, e, h⟩ hm => ⟨A, c, e, h.more hm⟩

/-- cells that stand for a list, one behind the other -/
def Elems (ρ : Rep α) (w : World) (S : Nat → Prop) (cs : List Value) (xs : List α) : Prop :=
  cs.length = xs.length * ρ.size ∧ (∀ u ∈ cs, u.oneCell' = true) ∧ ∀ i x, xs[i]? = some x → ∃ u, ρ.R w S u x ∧ ∀ j z, u[j]? = some z → cs[i * ρ.size + j]? = some z
theorem Elems.nil_ : Elems ρ w S [] [] := ⟨by simp, by simp, by simp⟩
theorem Elems.keep {cs : List Value} (h : Elems ρ w S cs xs) (hk : ∀ p : Addr, S p.block → w'.cell? p = w.cell? p) : Elems ρ w' S cs xs :=
  ⟨h.1, h.2.1, fun i x hx => by obtain ⟨u, hr, hc⟩ := h.2.2 i x hx; exact ⟨u, ρ.keep hr hk, hc⟩⟩
theorem Elems.more {cs : List Value} (h : Elems ρ w S cs xs) (hm : ∀ b, S b → S' b) : Elems ρ w S' cs xs :=
  ⟨h.1, h.2.1, fun i x hx => by obtain ⟨u, hr, hc⟩ := h.2.2 i x hx; exact ⟨u, ρ.more hr hm, hc⟩⟩
theorem Elems.below_ {cs : List Value} (h : Elems ρ w S cs xs) (hS : ∀ b, S b → b < w.heap.size) (hb : Below w.heap.size w w') : Elems ρ w' S cs xs := h.keep fun p hp => hb.cell (hS _ hp)
theorem Elems.app {cs ds : List Value} {ys : List α} (h : Elems ρ w S cs xs) (h' : Elems ρ w S ds ys) : Elems ρ w S (cs ++ ds) (xs ++ ys) := by
  obtain ⟨h1, h2, h3⟩ := h
  obtain ⟨g1, g2, g3⟩ := h'
  refine ⟨by rw [List.length_append, List.length_append, h1, g1, Nat.add_mul], fun u hu => ?_, fun i x hx => ?_⟩
  · rcases List.mem_append.1 hu with hu | hu
    · exact h2 u hu
    · exact g2 u hu
  · by_cases hi : i < xs.length
    · rw [List.getElem?_append_left hi] at hx
      obtain ⟨u, hr, hc⟩ := h3 i x hx
      refine ⟨u, hr, fun j z hz => ?_⟩
      have := hc j z hz
      rw [List.getElem?_append_left (List.getElem?_eq_some_iff.1 this).1]; exact this
    · rw [List.getElem?_append_right (by omega)] at hx
      obtain ⟨u, hr, hc⟩ := g3 _ x hx
      refine ⟨u, hr, fun j z hz => ?_⟩
      have := hc j z hz
      have he : i * ρ.size = (i - xs.length) * ρ.size + cs.length := by rw [h1, ← Nat.add_mul]; congr 1; omega
      rw [he, List.getElem?_append_right (by omega), ← this]
      congr 1; omega
theorem Elems.single {u : List Value} {x : α} (h : ρ.R w S u x) : Elems ρ w S u [x] :=
  ⟨by rw [ρ.len h]; simp, ρ.one h, fun i y hy => by
    have : i = 0 := by have := (List.getElem?_eq_some_iff.1 hy).1; simpa using this
    subst this
    simp at hy; subst hy
    exact ⟨u, h, fun j z hz => by simpa using hz⟩⟩
theorem Elems.snoc {cs u : List Value} {x : α} (h : Elems ρ w S cs xs) (hu : ρ.R w S u x) : Elems ρ w S (cs ++ u) (xs ++ [x]) := h.app (.single hu)
/-- a row of the call's own stands for a list -/
theorem Sl.of_own {base : Nat} {e : TypeId} {cs : List Value} (h : w.ownsRow base e (ρ.size) (.slice A xs.length c) xs.length cs) (he : Elems ρ w S cs xs) (hS : ∀ g, (Value.slice A xs.length c).ownBlock = some g → S g) : Sl ρ w S A c xs := by
  obtain ⟨h1, h2⟩ := h
  rcases h2 with ⟨hv, h0⟩ | ⟨g, cap, cur, hv, hB, hh, hn, hc, hs, ht⟩
  · have : xs = [] := List.eq_nil_of_length_eq_zero h0
    subst this
    simp only [Value.slice.injEq] at hv
    obtain ⟨rfl, _, rfl⟩ := hv
    exact Sl.nil_
  · simp only [Value.slice.injEq] at hv
    obtain ⟨rfl, _, rfl⟩ := hv
    refine ⟨hn, hc, fun i x hx => ?_⟩
    obtain ⟨u, hr, hcs⟩ := he.2.2 i x hx
    refine ⟨_, u, rfl, hS g rfl, hr, fun j z hz => ?_⟩
    have hz2 := hcs j z hz
    have hb : Blk w g e cur := hh
    have e1 : Addr.add ⟨g, 0, none⟩ (i * ρ.size + j) = ⟨g, i * ρ.size + j, none⟩ := by
      unfold Addr.add; split
      · rename_i h; rw [h]
      · simp
    rw [e1, hb.cell]
    rw [← ht, List.getElem?_take] at hz2
    split at hz2
    · rw [← hz2, Array.getElem?_toList]
    · cases hz2
/-- the cells of a slice, for an append -/
theorem Sl.flat (h : Sl ρ w S A c xs) : ∃ cs, Elems ρ w S cs xs ∧ ∀ ad, A = some ad → ∀ j z, cs[j]? = some z → w.cell? (ad.add j) = some z := by
  obtain ⟨_, _, h3⟩ := h
  have key : ∀ n, n ≤ xs.length → ∃ cs, Elems ρ w S cs (xs.take n) ∧ ∀ ad, A = some ad → ∀ j z, cs[j]? = some z → w.cell? (ad.add j) = some z := by
    intro n
    induction n with
    | zero => intro _; exact ⟨[], by simpa using Elems.nil_, by simp⟩
    | succ n ih =>
      intro hn
      obtain ⟨cs, he, hc⟩ := ih (by omega)
      obtain ⟨ad, u, ea, hs, hr, hu⟩ := h3 n _ (List.getElem?_eq_getElem (by omega))
      refine ⟨cs ++ u, ?_, fun ad' ea' j z hz => ?_⟩
      · rw [List.take_succ_eq_append_getElem (by omega)]
        exact he.snoc hr
      · rw [ea] at ea'; injection ea' with ea'; subst ea'
        by_cases hj : j < cs.length
        · rw [List.getElem?_append_left hj] at hz
          exact hc _ ea j z hz
        · rw [List.getElem?_append_right (by omega)] at hz
          have := hu _ z hz
          rwa [show n * ρ.size + (j - cs.length) = j from by have := he.1; rw [List.length_take, Nat.min_eq_left (by omega)] at this; omega] at this
  obtain ⟨cs, he, hc⟩ := key xs.length (Nat.le_refl _)
  exact ⟨cs, by simpa using he, hc⟩
theorem Sl.reads (h : Sl ρ w S A c xs) {B : Nat} (hB : ∀ b, S b → b < B) : ∃ cs, Elems ρ w S cs xs ∧ Reads w B (ρ.size) A xs.length cs := by
  obtain ⟨cs, he, hc⟩ := h.flat
  refine ⟨cs, he, he.1, fun hn => ?_⟩
  obtain ⟨ad, u, ea, hs, _, _⟩ := h.at_ hn
  exact ⟨ad, ea, hB _ hs, hc ad ea⟩
end

/-- two things side by side -/
def rPair {α β : Type} (ρ : Rep α) (σ : Rep β) : Rep (α × β) where
  size := ρ.size + σ.size
  bulk x := ρ.bulk x.1 + σ.bulk x.2
  R w S cs x := ∃ c d, cs = c ++ d ∧ ρ.R w S c x.1 ∧ σ.R w S d x.2
  len := fun ⟨c, d, e, h, h'⟩ => by rw [e, List.length_append, ρ.len h, σ.len h']
  one := fun ⟨c, d, e, h, h'⟩ => by
    rw [e]; intro u hu
    rcases List.mem_append.1 hu with hu | hu
    · exact ρ.one h u hu
    · exact σ.one h' u hu
  keep := fun ⟨c, d, e, h, h'⟩ hk => ⟨c, d, e, ρ.keep h hk, σ.keep h' hk⟩
  more := fun ⟨c, d, e, h, h'⟩ hm => ⟨c, d, e, ρ.more h hm, σ.more h' hm⟩

/-- integers -/
def ints (xs : List Int) : List Value := xs.map (Value.int .i64)
theorem elems_ints {w : World} {S : Nat → Prop} {xs : List Int} (h : ∀ x ∈ xs, I64 x) : Elems rInt w S (ints xs) xs := by
  refine ⟨by simp [ints, rInt], fun u hu => ?_, fun i x hx => ?_⟩
  · simp [ints] at hu; obtain ⟨x, _, rfl⟩ := hu; rfl
  · refine ⟨[.int .i64 x], ⟨rfl, h x (List.mem_of_getElem? hx)⟩, fun j z hz => ?_⟩
    have : j = 0 := by have := (List.getElem?_eq_some_iff.1 hz).1; simpa using this
    subst this
    simp at hz; subst hz
    simp [ints, rInt, hx]
theorem ints_of_elems {w : World} {S : Nat → Prop} {cs : List Value} {xs : List Int} (h : Elems rInt w S cs xs) : cs = ints xs ∧ ∀ x ∈ xs, I64 x := by
  obtain ⟨h1, _, h3⟩ := h
  have hs : rInt.size = 1 := rfl
  simp only [hs, Nat.mul_one] at h1 h3
  refine ⟨List.ext_getElem? fun i => ?_, fun x hx => ?_⟩
  · by_cases hi : i < xs.length
    · obtain ⟨u, ⟨rfl, _⟩, hc⟩ := h3 i _ (List.getElem?_eq_getElem hi)
      have := hc 0 _ rfl
      rw [Nat.add_zero] at this
      rw [this]; simp [ints, hi]
    · rw [List.getElem?_eq_none (by omega), List.getElem?_eq_none (by simp [ints]; omega)]
  · obtain ⟨i, hi⟩ := List.getElem?_of_mem hx
    obtain ⟨u, ⟨_, h⟩, _⟩ := h3 i x hi
    exact h
theorem Sl.int_at {w : World} {S : Nat → Prop} {A : Option Addr} {c : Nat} {xs : List Int} (h : Sl rInt w S A c xs) {k : Nat} (hk : k < xs.length) : ∃ ad, A = some ad ∧ S ad.block ∧ I64 (xs[k]'hk) ∧ w.cell? (ad.add k) = some (.int .i64 (xs[k]'hk)) := by
  obtain ⟨ad, u, e, hs, ⟨rfl, hi⟩, hc⟩ := h.at_ hk
  have := hc 0 _ rfl
  exact ⟨ad, e, hs, hi, by simpa [rInt] using this⟩
theorem Sl.int_reads {w : World} {S : Nat → Prop} {A : Option Addr} {c : Nat} {xs : List Int} (h : Sl rInt w S A c xs) {B : Nat} (hB : ∀ b, S b → b < B) : Reads w B 1 A xs.length (ints xs) := by
  obtain ⟨cs, he, hr⟩ := h.reads hB
  rw [(ints_of_elems he).1] at hr; exact hr
theorem Sl.int_mem {w : World} {S : Nat → Prop} {A : Option Addr} {c : Nat} {xs : List Int} (h : Sl rInt w S A c xs) : ∀ x ∈ xs, I64 x := by
  obtain ⟨cs, he, _⟩ := h.flat
  exact (ints_of_elems he).2
/-- what lies below -/
theorem keep_below {w w' : World} {B : Nat} (h : Below B w w') : ∀ p : Addr, p.block < B → w'.cell? p = w.cell? p := fun _ hp => h.cell hp
end Go.Proofs.Ytaepnmnoofigjaa

/- A map of the call's own, as a function from keys to what is there: made, looked up (with ok, too), written, ranged over. Nothing of the program is named here. -/
namespace Go.Proofs.Ytaepnmnoofigjaa
open Go.RowKit Go.Maps

def rHeld (v : Value) : Option (DataW Value × List MemPlace) := some (.held v, [])
theorem rHeld_inv {v : Value} {y : DataW Value × List MemPlace} (h : rHeld v = some y) : y = (.held v, []) := by unfold rHeld at h; injection h with h; exact h.symm
/-- a datum reads as a function -/
def Reads1 (P : Program) (k : TypeId) (D : DataW Value) (f : Value → Option Value) : Prop :=
  ∀ (key : Value) (l : Lit), keyOf P k key = some l → ∀ zd, D.atKey l zd = match f key with
    | some v => .held v
    | none => zd
/-- block b is a map of at most n entries; what is there is f's -/
def MapOf (P : Program) (k : TypeId) (w : World) (b n : Nat) (f : Value → Option Value) : Prop :=
  ∃ D : DataW Value, w.ownsMap P k rHeld b n D ∧ Reads1 P k D f
open Classical in
noncomputable def putO (f : Value → Option Value) (key v : Value) : Value → Option Value := fun x => if x = key then some v else f x
theorem putO_same (f : Value → Option Value) (key v : Value) : putO f key v key = some v := by simp [putO]
theorem putO_other (f : Value → Option Value) {key x : Value} (v : Value) (h : x ≠ key) : putO f key v x = f x := by simp [putO, h]
section
variable {P : Program} {k : TypeId} {w w' : World} {b n : Nat} {f : Value → Option Value}
theorem MapOf.made (w : World) (P : Program) (k : TypeId) : MapOf P k (w.alloc (.map #[] 0)) w.heap.size 0 (fun _ => none) :=
  ⟨_, World.ownsMap_made w P k rHeld, fun _ _ _ _ => rfl⟩
theorem MapOf.lt (h : MapOf P k w b n f) : b < w.heap.size := by obtain ⟨D, h, _⟩ := h; exact h.lt
theorem MapOf.mono (h : MapOf P k w b n f) {n' : Nat} (hn : n ≤ n') : MapOf P k w b n' f := by obtain ⟨D, h, hf⟩ := h; exact ⟨D, h.mono hn, hf⟩
theorem MapOf.grown {row : Option Nat} (h : MapOf P k w b n f) (hg : w.grownBy w' row) (hne : some b ≠ row) : MapOf P k w' b n f := by
  obtain ⟨D, h, hf⟩ := h; exact ⟨D, h.kept hg hne, hf⟩
theorem MapOf.alloc (h : MapOf P k w b n f) (o : Obj) : MapOf P k (w.alloc o) b n f := h.grown (World.grownBy_alloc w o none) (by simp)
theorem MapOf.drew (h : MapOf P k w b n f) : MapOf P k w.drew b n f := h
theorem MapOf.drewN (h : MapOf P k w b n f) (m : Nat) : MapOf P k (w.drewN m) b n f := h
theorem MapOf.below {B : Nat} (h : MapOf P k w b n f) (hb : Below B w w') (hlt : b < B) : MapOf P k w' b n f := by
  obtain ⟨D, ⟨es, clock, hm, h1, h2, h3⟩, hf⟩ := h
  exact ⟨D, ⟨es, clock, (hb.block b hlt).trans hm, h1, h2, h3⟩, hf⟩
theorem MapOf.notBlk {t : TypeId} {cs : Array Value} (h : MapOf P k w b n f) {g : Nat} (hb : Blk w g t cs) : b ≠ g := by
  obtain ⟨D, ⟨es, clock, hm, _⟩, _⟩ := h
  intro e; subst e; unfold Blk at hb; rw [hb] at hm; cases hm
theorem MapOf.setFar (h : MapOf P k w b n f) {p : Addr} (hp : b ≠ p.block) (u : Value) : MapOf P k (w.setCell p u) b n f := by
  obtain ⟨D, ⟨es, clock, hm, h1, h2, h3⟩, hf⟩ := h
  exact ⟨D, ⟨es, clock, (Below.heap_setCell w p u b hp).trans hm, h1, h2, h3⟩, hf⟩
theorem MapOf.notOwn {base : Nat} {e : TypeId} {size m : Nat} {v : Value} {xs : List Value} (h : MapOf P k w b n f) (ho : w.ownsRow base e size v m xs) : some b ≠ v.ownBlock := by
  obtain ⟨D, ⟨es, clock, hm, _⟩, _⟩ := h
  rcases ho.2 with ⟨rfl, _⟩ | ⟨g, cap, cur, rfl, _, hh, _⟩
  · simp [Value.ownBlock]
  · intro e; simp [Value.ownBlock] at e; subst e; rw [hm] at hh; cases hh
theorem MapOf.lookAny {t e : TypeId} (c : Bool) (h : MapOf P k w b n f) (K : Keyed P k) (ht : P.underlying t = some (.map k e)) {z : Value} (hz : (zeroValue e).run P w = .ok z w) {key : Value} (hk : (keyOf P k key).isSome = true) :
    (Instr.lookup t (.map (some b)) key c).run P w = .ok (if c then .tuple #[(f key).getD z, .bool (f key).isSome] else (f key).getD z) w := by
  obtain ⟨D, ⟨es, clock, hb, F, hs, rfl⟩, hf⟩ := h
  obtain ⟨l, hl⟩ := Option.isSome_iff_exists.1 hk
  have hfl := hf key l hl
  rcases Maps.fit_look c K ht hz hb F hl with ⟨h1, _, h3⟩ | ⟨e0, y, _, _, h1, h2, h3, _⟩
  · have hn : f key = none := by
      have a1 := hfl (.held z)
      have a2 := hfl (.lit (.int .i64 0))
      rw [h3] at a1 a2
      cases hk : f key with
      | none => rfl
      | some v => rw [hk] at a1 a2; simp only at a1 a2; rw [← a1] at a2; cases a2
    rw [h1, hn]; cases c <;> rfl
  · have hv := rHeld_inv h2
    subst hv
    have hs : f key = some e0.val := by
      cases hk : f key with
      | none =>
        have a1 := hfl (.lit (.int .i64 0))
        rw [h3, hk] at a1; simp only at a1; cases a1
      | some v =>
        have a1 := hfl (.held z)
        rw [h3, hk] at a1; simp only at a1; injection a1 with a1; rw [a1]
    rw [h1, hs]; cases c <;> rfl
theorem MapOf.look {t e : TypeId} (h : MapOf P k w b n f) (K : Keyed P k) (ht : P.underlying t = some (.map k e)) {z : Value} (hz : (zeroValue e).run P w = .ok z w) {key : Value} (hk : (keyOf P k key).isSome = true) :
    (Instr.lookup t (.map (some b)) key false).run P w = .ok ((f key).getD z) w := h.lookAny false K ht hz hk
theorem MapOf.lookOk {t e : TypeId} (h : MapOf P k w b n f) (K : Keyed P k) (ht : P.underlying t = some (.map k e)) {z : Value} (hz : (zeroValue e).run P w = .ok z w) {key : Value} (hk : (keyOf P k key).isSome = true) :
    (Instr.lookup t (.map (some b)) key true).run P w = .ok (.tuple #[(f key).getD z, .bool (f key).isSome]) w := h.lookAny true K ht hz hk
theorem Reads1.put {D : DataW Value} {key v : Value} {l : Lit} (h : Reads1 P k D f) (K : Keyed P k) (hD : IsMap D) (hl : keyOf P k key = some l) : Reads1 P k (D.put l (.held v)) (putO f key v) := by
  intro x l' hl' zd
  by_cases hx : x = key
  · subst hx
    rw [hl] at hl'; injection hl' with hl'; subst hl'
    rw [putO_same, atKey_put_same hD (K.key hl)]
  · have hll : l' ≠ l := fun e => hx (K.inj hl' (by rw [e]; exact hl))
    rw [putO_other _ _ hx, atKey_put_other hll]
    exact h x l' hl' zd
theorem MapOf.store {t e : TypeId} (h : MapOf P k w b n f) (K : Keyed P k) (ht : P.underlying t = some (.map k e)) (hn : n < maxLen) {key : Value} (hk : (keyOf P k key).isSome = true) (v : Value) :
    ∃ w', (Instr.mapUpdate t (.map (some b)) key v).run P w = .ok () w' ∧ MapOf P k w' b (n + 1) (putO f key v) ∧ w.grownBy w' (some b) := by
  obtain ⟨D, h, hf⟩ := h
  obtain ⟨l, hl⟩ := Option.isSome_iff_exists.1 hk
  obtain ⟨w', h1, h2, h3⟩ := h.update K ht hn hl (val := v) (d := .held v) (ps := []) rfl
  obtain ⟨es, clock, _, _, _, hD⟩ := h
  exact ⟨w', h1, ⟨_, h2, hf.put K ⟨_, hD⟩ hl⟩, h3⟩

/-- a range under way: which keys are still to come -/
def RangeOf (P : Program) (k : TypeId) (w : World) (b r n : Nat) (f : Value → Option Value) (left : Value → Bool) (cnt : Nat) : Prop :=
  ∃ (D : DataW Value) (lf : Lit → Bool), w.ranges P k rHeld b r n D lf cnt ∧ Reads1 P k D f ∧ ∀ key l, keyOf P k key = some l → lf l = left key
theorem RangeOf.map {r cnt : Nat} {left : Value → Bool} (h : RangeOf P k w b r n f left cnt) : MapOf P k w b n f := by obtain ⟨D, lf, h, hf, _⟩ := h; exact ⟨D, h.owns, hf⟩
theorem RangeOf.kept {row : Option Nat} {r cnt : Nat} {left : Value → Bool} (h : RangeOf P k w b r n f left cnt) (hg : w.grownBy w' row) (hb : some b ≠ row) (hr : some r ≠ row) : RangeOf P k w' b r n f left cnt := by
  obtain ⟨D, lf, h, hf, hl⟩ := h; exact ⟨D, lf, h.kept hg hb hr, hf, hl⟩
theorem RangeOf.rlt {r cnt : Nat} {left : Value → Bool} (h : RangeOf P k w b r n f left cnt) : r < w.heap.size := by obtain ⟨D, lf, h, _, _⟩ := h; exact h.lt
theorem MapOf.range {t e : TypeId} (h : MapOf P k w b n f) (K : Keyed P k) (ht : P.underlying t = some (.map k e)) :
    ∃ w' cnt, (Instr.range t (.map (some b))).run P w = .ok (.pointer (some ⟨w.heap.size, 0, none⟩)) w' ∧ RangeOf P k w' b w.heap.size n f (fun key => (f key).isSome) cnt ∧ w.grownBy w' none ∧ w'.heap.size = w.heap.size + 1 := by
  obtain ⟨D, h, hf⟩ := h
  obtain ⟨w', h1, h2, h3, h4⟩ := h.range K ht
  refine ⟨w', _, h1, ⟨D, _, h2, hf, fun key l hl => ?_⟩, h3, h4⟩
  cases hk : f key with
  | some v => simp only [hk, Option.isSome]; exact has_true_of_atKey (y := .held v) (fun z => by rw [hf key l hl z, hk])
  | none => simp only [hk, Option.isSome]; exact has_false_of_atKey (fun z => by rw [hf key l hl z, hk])
theorem RangeOf.next {r cnt : Nat} {left : Value → Bool} (h : RangeOf P k w b r n f left cnt) (K : Keyed P k) (ty : TypeId) :
    ((∀ key, (keyOf P k key).isSome = true → left key = false) ∧ (Instr.next (.pointer (some ⟨r, 0, none⟩)) false ty).run P w = .ok (.tuple #[.bool false]) w) ∨
    ∃ key v w' cnt', (keyOf P k key).isSome = true ∧ left key = true ∧ f key = some v ∧ (Instr.next (.pointer (some ⟨r, 0, none⟩)) false ty).run P w = .ok (.tuple #[.bool true, key, v]) w' ∧
      (∀ left' : Value → Bool, (∀ x, (keyOf P k x).isSome = true → (x = key → left' x = false) ∧ (x ≠ key → left' x = left x)) → RangeOf P k w' b r n f left' cnt') ∧ cnt' < cnt ∧ w.grownBy w' (some r) ∧ w'.heap.size = w.heap.size ∧ (Instr.entry (.pointer (some ⟨r, 0, none⟩))).run P w' = .ok (.tuple #[key, v]) w' := by
  obtain ⟨D, lf, h, hf, hl⟩ := h
  rcases h.next K ty with ⟨_, h2, h3⟩ | ⟨key, v, kl, y, w', cnt', hk, hleft, hy, hat, hrun, hrg, hlt, hg, hs, hen⟩
  · refine Or.inl ⟨fun key hk => ?_, h3⟩
    obtain ⟨l, hkl⟩ := Option.isSome_iff_exists.1 hk
    rw [← hl key l hkl]; exact h2 l
  · have hv := rHeld_inv hy
    subst hv
    refine Or.inr ⟨key, v, w', cnt', by rw [hk]; rfl, by rw [← hl key kl hk]; exact hleft, ?_, hrun, fun left' hleft' => ⟨D, _, hrg, hf, fun x l hx => ?_⟩, hlt, hg, hs, hen⟩
    · have a1 := hf key kl hk (.lit (.int .i64 0))
      rw [hat] at a1
      cases hfk : f key with
      | none => rw [hfk] at a1; simp only at a1; cases a1
      | some u => rw [hfk] at a1; simp only at a1; injection a1 with a1; rw [a1]
    · obtain ⟨q1, q2⟩ := hleft' x (by rw [hx]; rfl)
      by_cases hxk : x = key
      · rw [q1 hxk]
        subst hxk
        rw [hk] at hx; injection hx with hx; subst hx
        simp [WideAt.sameKey_self (K.key hk)]
      · have hll : l ≠ kl := fun e => hxk (K.inj hx (by rw [e]; exact hk))
        rw [q2 hxk, hl x l hx, sameKey_ne hll]; simp
end
theorem keyOf_int {P : Program} {k : TypeId} (hk : P.underlying k = some (.int .i64)) {x : Int} (h : I64 x) : (keyOf P k (.int .i64 x)).isSome = true := by rw [keyOf_int_mk hk h.wf]; rfl
end Go.Proofs.Ytaepnmnoofigjaa
