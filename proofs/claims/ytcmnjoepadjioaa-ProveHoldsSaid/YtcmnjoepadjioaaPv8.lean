/- What follows, plainly: of lines those that a line needs, numbered anew: each is right. No program in sight. -/
import Derived.Test.YtcmnjoepadjioaaPv2
namespace Go.Proofs.Ytcmnjoepadjioaa

def rankN (N : Nat → Bool) : Nat → Nat
  | 0 => 0
  | k + 1 => rankN N k + if N k then 1 else 0
theorem rank_mono (N : Nat → Bool) {a b : Nat} (h : a ≤ b) : rankN N a ≤ rankN N b := by
  induction b with
  | zero => have : a = 0 := by omega
            subst this; exact Nat.le_refl _
  | succ b ih =>
    by_cases e : a = b + 1
    · subst e; exact Nat.le_refl _
    · have := ih (by omega); rw [rankN]; omega
theorem rank_lt (N : Nat → Bool) {a b : Nat} (h : a < b) (ha : N a = true) : rankN N a < rankN N b := by
  have h1 := rank_mono N (show a + 1 ≤ b from h)
  rw [rankN, ha] at h1
  simp at h1; omega
theorem rank_le (N : Nat → Bool) (k : Nat) : rankN N k ≤ k := by
  induction k with
  | zero => exact Nat.le_refl _
  | succ k ih => rw [rankN]; split <;> omega
def mapS (N : Nat → Bool) (x : Lin) : Lin := if x.rule = 1 then x else ⟨x.rule, x.c, x.src.map fun k => ((rankN N k.toNat : Nat) : Int)⟩
theorem mapS_c (N : Nat → Bool) (x : Lin) : (mapS N x).c = x.c := by unfold mapS; split <;> rfl
theorem mapS_rule (N : Nat → Bool) (x : Lin) : (mapS N x).rule = x.rule := by unfold mapS; split <;> rfl
def outL (N : Nat → Bool) (l : List Lin) : Nat → List Lin
  | 0 => []
  | n + 1 => match l[n]? with
    | some x => if N n then outL N l n ++ [mapS N x] else outL N l n
    | none => outL N l n
theorem outL_yes {N : Nat → Bool} {l : List Lin} {n : Nat} (h : n < l.length) (hN : N n = true) : outL N l (n + 1) = outL N l n ++ [mapS N (l[n]'h)] := by rw [outL, List.getElem?_eq_getElem h]; simp [hN]
theorem outL_no {N : Nat → Bool} {l : List Lin} {n : Nat} (hN : N n = false) : outL N l (n + 1) = outL N l n := by rw [outL]; cases l[n]? <;> simp [hN]
theorem outL_len (N : Nat → Bool) (l : List Lin) : ∀ n, n ≤ l.length → (outL N l n).length = rankN N n
  | 0, _ => rfl
  | n + 1, h => by
    have ih := outL_len N l n (by omega)
    cases hN : N n with
    | true => rw [outL_yes (by omega) hN, List.length_append, ih, rankN, hN]; rfl
    | false => rw [outL_no hN, ih, rankN, hN]; rfl
theorem outL_at (N : Nat → Bool) (l : List Lin) : ∀ n, n ≤ l.length → ∀ (i : Nat) (hi : i < n) (hl : i < l.length), N i = true → (outL N l n)[rankN N i]? = some (mapS N (l[i]'hl))
  | 0, _, i, hi, _, _ => by omega
  | n + 1, h, i, hi, hl, hN => by
    have len := outL_len N l n (by omega)
    by_cases e : i = n
    · subst e
      rw [outL_yes hl hN, List.getElem?_append_right (by omega), len, Nat.sub_self]; rfl
    · have ih := outL_at N l n (by omega) i (by omega) hl hN
      cases hn : N n with
      | true =>
        rw [outL_yes (by omega) hn, List.getElem?_append_left (by rw [len]; exact rank_lt N (by omega) hN)]
        exact ih
      | false => rw [outL_no hn]; exact ih
theorem outL_from (N : Nat → Bool) (l : List Lin) : ∀ n, n ≤ l.length → ∀ (j : Nat) (x : Lin), (outL N l n)[j]? = some x → ∃ (i : Nat) (hl : i < l.length), i < n ∧ N i = true ∧ j = rankN N i ∧ x = mapS N (l[i]'hl)
  | 0, _, j, x, h => by simp [outL] at h
  | n + 1, hn, j, x, h => by
    have len := outL_len N l n (by omega)
    cases hN : N n with
    | false =>
      rw [outL_no hN] at h
      obtain ⟨i, hl, h1, h2, h3, h4⟩ := outL_from N l n (by omega) j x h
      exact ⟨i, hl, by omega, h2, h3, h4⟩
    | true =>
      rw [outL_yes (by omega) hN] at h
      by_cases hj : j < (outL N l n).length
      · rw [List.getElem?_append_left hj] at h
        obtain ⟨i, hl, h1, h2, h3, h4⟩ := outL_from N l n (by omega) j x h
        exact ⟨i, hl, by omega, h2, h3, h4⟩
      · rw [List.getElem?_append_right (by omega)] at h
        have h0 : j - (outL N l n).length = 0 := by have := (List.getElem?_eq_some_iff.1 h).1; simp at this; omega
        rw [h0] at h
        simp at h
        exact ⟨n, by omega, by omega, hN, by omega, h.symm⟩
/-- what a needed line is made of is needed -/
def closedN (N : Nat → Bool) (l : List Lin) : Prop := ∀ (i : Nat) (x : Lin), l[i]? = some x → N i = true → x.rule ≠ 1 → ∀ k ∈ x.src, N k.toNat = true
theorem pick_map {N : Nat → Bool} {l : List Lin} {n i : Nat} (hn : n ≤ l.length) (hin : i ≤ n) : ∀ {src : List Int} {of : List Clm}, pickC (l.map (·.c)) i src = some of → (∀ k ∈ src, N k.toNat = true) →
    pickC ((outL N l n).map (·.c)) (rankN N i) (src.map fun k => ((rankN N k.toNat : Nat) : Int)) = some of
  | [], of, h, _ => by simpa [pickC] using h
  | k :: r, of, h, hN => by
    rw [pickC] at h
    split at h
    · rename_i hk
      cases h1 : (l.map (·.c))[k.toNat]? with
      | none => rw [h1] at h; cases h
      | some c =>
        cases h2 : pickC (l.map (·.c)) i r with
        | none => rw [h1, h2] at h; cases h
        | some cs =>
          rw [h1, h2] at h
          simp only [Option.some.injEq] at h
          subst h
          have hkl : k.toNat < l.length := by have := (List.getElem?_eq_some_iff.1 h1).1; simpa using this
          have hNk := hN k (by simp)
          have ih := pick_map hn hin (N := N) h2 (fun x hx => hN x (by simp [hx]))
          have hr := rank_lt N (a := k.toNat) (b := i) (by omega) hNk
          have ha := outL_at N l n hn k.toNat (by omega) hkl hNk
          rw [List.map_cons, pickC, if_pos ⟨by omega, by omega⟩]
          have e1 : ((outL N l n).map (·.c))[(((rankN N k.toNat : Nat) : Int)).toNat]? = some c := by
            rw [Int.toNat_natCast, List.getElem?_map, ha]
            rw [List.getElem?_map, List.getElem?_eq_getElem hkl] at h1
            simp only [Option.map_some, Option.some.injEq] at h1 ⊢
            rw [mapS_c]; exact h1
          rw [e1, ih]
    · cases h
theorem out_right {prem : List Clm} {N : Nat → Bool} {l : List Lin} (hr : allRight prem l) (hc : closedN N l) {n : Nat} (hn : n ≤ l.length) : allRight prem (outL N l n) := by
  intro j x hx
  obtain ⟨i, hl, hi, hN, rfl, rfl⟩ := outL_from N l n hn j x hx
  have h := hr i _ (List.getElem?_eq_getElem hl)
  have hcl := hc i _ (List.getElem?_eq_getElem hl) hN
  unfold rightB at h ⊢
  rw [mapS_rule, mapS_c]
  by_cases r1 : (l[i]'hl).rule = 1
  · rw [if_pos r1] at h ⊢
    unfold mapS
    rw [if_pos r1]
    exact h
  · rw [if_neg r1] at h ⊢
    split at h
    · rename_i of hof
      have := pick_map hn (show i ≤ n by omega) (N := N) hof (hcl r1)
      unfold mapS
      rw [if_neg r1]
      simp only
      rw [this]
      exact h
    · cases h
theorem out_ok {N : Nat → Bool} {l : List Lin} (hok : ∀ x ∈ l, x.c.ok) {n : Nat} (hn : n ≤ l.length) : ∀ x ∈ outL N l n, x.c.ok := fun x hx => by
  obtain ⟨j, hj⟩ := List.getElem?_of_mem hx
  obtain ⟨i, hl, _, _, _, rfl⟩ := outL_from N l n hn j x hj
  rw [mapS_c]; exact hok _ (List.getElem_mem hl)
/-- a line's numbers are numbers of lines ahead -/
theorem right_src {prem : List Clm} {l : List Lin} (hr : allRight prem l) {i : Nat} {x : Lin} (hx : l[i]? = some x) (h1 : x.rule ≠ 1) : ∀ k ∈ x.src, 0 ≤ k ∧ k < (i : Int) := by
  have h := hr i x hx
  unfold rightB at h
  rw [if_neg h1] at h
  cases hp : pickC (l.map (·.c)) i x.src with
  | none => rw [hp] at h; cases h
  | some of =>
    have : ∀ (src : List Int) (of : List Clm), pickC (l.map (·.c)) i src = some of → ∀ k ∈ src, 0 ≤ k ∧ k < (i : Int) := by
      intro src
      induction src with
      | nil => intro of _ k hk; simp at hk
      | cons a r ih =>
        intro of hp k hk
        rw [pickC] at hp
        split at hp
        · rename_i hc
          cases h2 : pickC (l.map (·.c)) i r with
          | none => rw [h2] at hp; cases hq : (l.map (·.c))[a.toNat]? <;> rw [hq] at hp <;> cases hp
          | some cs =>
            rcases List.mem_cons.1 hk with rfl | hk
            · exact hc
            · exact ih cs h2 k hk
        · cases hp
    exact this _ _ hp
end Go.Proofs.Ytcmnjoepadjioaa
