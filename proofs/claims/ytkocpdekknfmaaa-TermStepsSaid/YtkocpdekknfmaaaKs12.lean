/- Texts that the proof rests on, part 12: what each holds stands at its head. -/
import Derived.Test.YtkocpdekknfmaaaKs11

/- Types and terms as plain trees, told abstractly; what is wrong with one, which are the same, what a step makes. No walk is here. -/
namespace Go.Proofs.Ytkocpdekknfmaaa
open Go.RowKit

def iv (i : Int) : AV := .p (.int .i64 i)
def bv (b : Bool) : AV := .p (.bool b)
structure Ty where
  kind : Int
  num : Int
  kids : List Ty
structure Tm where
  kind : Int
  num : Int
  type : Ty
  kids : List Tm

mutual
def Ty.size : Ty → Nat
  | ⟨_, _, ks⟩ => 1 + Ty.sizes ks
def Ty.sizes : List Ty → Nat
  | [] => 0
  | t :: r => Ty.size t + Ty.sizes r
end
mutual
def Tm.size : Tm → Nat
  | ⟨_, _, _, ks⟩ => 1 + Tm.sizes ks
def Tm.sizes : List Tm → Nat
  | [] => 0
  | t :: r => Tm.size t + Tm.sizes r
end
theorem Ty.size_mk (k n : Int) (ks : List Ty) : Ty.size ⟨k, n, ks⟩ = 1 + Ty.sizes ks := by rw [Ty.size]
theorem Tm.size_mk (k n : Int) (t : Ty) (ks : List Tm) : Tm.size ⟨k, n, t, ks⟩ = 1 + Tm.sizes ks := by rw [Tm.size]
theorem Ty.sizes_mem : ∀ {ks : List Ty} {t : Ty}, t ∈ ks → Ty.size t ≤ Ty.sizes ks
  | k :: r, t, h => by
    rw [Ty.sizes]
    rcases List.mem_cons.1 h with rfl | h
    · omega
    · have := Ty.sizes_mem h; omega
theorem Tm.sizes_mem : ∀ {ks : List Tm} {t : Tm}, t ∈ ks → Tm.size t ≤ Tm.sizes ks
  | k :: r, t, h => by
    rw [Tm.sizes]
    rcases List.mem_cons.1 h with rfl | h
    · omega
    · have := Tm.sizes_mem h; omega

/-- a number that counts no further than one above most -/
def capN (s : Nat) (most : Int) : Int := if (s : Int) ≤ most then (s : Int) else most + 1
theorem Ty.size_eq (t : Ty) : t.size = 1 + Ty.sizes t.kids := by cases t; exact Ty.size_mk _ _ _
theorem Ty.sizes_succ (ks : List Ty) (k : Nat) (h : k < ks.length) : Ty.sizes (ks.take (k + 1)) = Ty.sizes (ks.take k) + (ks[k]'h).size := by
  induction ks generalizing k with
  | nil => simp at h
  | cons t r ih =>
    match k with
    | 0 => simp [Ty.sizes]
    | k + 1 =>
      have := ih k (by simpa using h)
      simp only [List.take_succ_cons, Ty.sizes, List.getElem_cons_succ]; omega
theorem Ty.sizes_le (ks : List Ty) (k : Nat) : Ty.sizes (ks.take k) ≤ Ty.sizes ks := by
  induction ks generalizing k with
  | nil => simp
  | cons t r ih =>
    match k with
    | 0 => simp [Ty.sizes]
    | k + 1 => have := ih k; simp only [List.take_succ_cons, Ty.sizes]; omega
theorem Ty.size_pos (t : Ty) : 1 ≤ t.size := by rw [Ty.size_eq]; omega

theorem Tm.size_eq (t : Tm) : t.size = 1 + Tm.sizes t.kids := by cases t; exact Tm.size_mk _ _ _ _
theorem Tm.sizes_succ (ks : List Tm) (k : Nat) (h : k < ks.length) : Tm.sizes (ks.take (k + 1)) = Tm.sizes (ks.take k) + (ks[k]'h).size := by
  induction ks generalizing k with
  | nil => simp at h
  | cons t r ih =>
    match k with
    | 0 => simp [Tm.sizes]
    | k + 1 =>
      have := ih k (by simpa using h)
      simp only [List.take_succ_cons, Tm.sizes, List.getElem_cons_succ]; omega
theorem Tm.sizes_le (ks : List Tm) (k : Nat) : Tm.sizes (ks.take k) ≤ Tm.sizes ks := by
  induction ks generalizing k with
  | nil => simp
  | cons t r ih =>
    match k with
    | 0 => simp [Tm.sizes]
    | k + 1 => have := ih k; simp only [List.take_succ_cons, Tm.sizes]; omega
theorem Tm.size_pos (t : Tm) : 1 ≤ t.size := by rw [Tm.size_eq]; omega

def Ty.head (k n : Int) (l : Nat) : Int := if k ≠ 1 ∧ k ≠ 2 then 4 else if (l : Int) ≠ 2 * (k - 1) then 1 else if n < 0 ∨ 9 < n ∨ (0 < n ∧ k = 2) then 3 else 0
mutual
def Ty.wrong : Ty → Int
  | ⟨k, n, ks⟩ => if Ty.head k n ks.length = 0 then Ty.wrongs ks else Ty.head k n ks.length
def Ty.wrongs : List Ty → Int
  | [] => 0
  | t :: r => if Ty.wrong t = 0 then Ty.wrongs r else Ty.wrong t
end
def Ty.check (t : Ty) : Int := if 60 < t.size then 7 else t.wrong
theorem Ty.wrong_mk (k n : Int) (ks : List Ty) : Ty.wrong ⟨k, n, ks⟩ = if Ty.head k n ks.length = 0 then Ty.wrongs ks else Ty.head k n ks.length := by rw [Ty.wrong]
theorem Ty.wrongs_step {ks : List Ty} {k : Nat} (h : k < ks.length) : Ty.wrongs (ks.drop k) = if (ks[k]'h).wrong = 0 then Ty.wrongs (ks.drop (k + 1)) else (ks[k]'h).wrong := by
  rw [List.drop_eq_getElem_cons h, Ty.wrongs]
theorem Ty.wrongs_end {ks : List Ty} {k : Nat} (h : ks.length ≤ k) : Ty.wrongs (ks.drop k) = 0 := by rw [List.drop_eq_nil_iff.2 h, Ty.wrongs]

def Ty.bare (t : Ty) : Bool := t.kind == 0 && t.num == 0 && t.kids.length == 0
def Tm.head (k n : Int) (b : Bool) (l : Nat) : Int := if k < 1 ∨ 4 < k then 4 else if (l : Int) ≠ (if 2 < k then k - 2 else 0) then 1 else if n < 0 ∨ (0 < n ∧ 3 ≤ k) ∨ (b = false ∧ k ≠ 3) then 3 else 0
mutual
def Tm.wrong : Tm → Int
  | ⟨k, n, t, ks⟩ => if Tm.head k n t.bare ks.length = 0 then (if k = 3 ∧ t.check ≠ 0 then t.check else Tm.wrongs ks) else Tm.head k n t.bare ks.length
def Tm.wrongs : List Tm → Int
  | [] => 0
  | t :: r => if Tm.wrong t = 0 then Tm.wrongs r else Tm.wrong t
end
def Tm.check (t : Tm) : Int := if 400 < t.size then 7 else t.wrong
theorem Tm.wrong_mk (k n : Int) (t : Ty) (ks : List Tm) : Tm.wrong ⟨k, n, t, ks⟩ = if Tm.head k n t.bare ks.length = 0 then (if k = 3 ∧ t.check ≠ 0 then t.check else Tm.wrongs ks) else Tm.head k n t.bare ks.length := by rw [Tm.wrong]
theorem Tm.wrongs_step {ks : List Tm} {k : Nat} (h : k < ks.length) : Tm.wrongs (ks.drop k) = if (ks[k]'h).wrong = 0 then Tm.wrongs (ks.drop (k + 1)) else (ks[k]'h).wrong := by
  rw [List.drop_eq_getElem_cons h, Tm.wrongs]
theorem Tm.wrongs_end {ks : List Tm} {k : Nat} (h : ks.length ≤ k) : Tm.wrongs (ks.drop k) = 0 := by rw [List.drop_eq_nil_iff.2 h, Tm.wrongs]

mutual
def Ty.same : Ty → Ty → Bool
  | ⟨k, n, ks⟩, ⟨k', n', ks'⟩ => k == k' && (n == n' && (ks.length == ks'.length && Ty.sames ks ks'))
def Ty.sames : List Ty → List Ty → Bool
  | [], _ => true
  | _ :: _, [] => true
  | t :: r, t' :: r' => Ty.same t t' && Ty.sames r r'
end
mutual
def Tm.same : Tm → Tm → Bool
  | ⟨k, n, t, ks⟩, ⟨k', n', t', ks'⟩ => k == k' && (n == n' && (Ty.same t t' && (ks.length == ks'.length && Tm.sames ks ks')))
def Tm.sames : List Tm → List Tm → Bool
  | [], _ => true
  | _ :: _, [] => true
  | t :: r, t' :: r' => Tm.same t t' && Tm.sames r r'
end
theorem Ty.sames_step {ks ls : List Ty} {k : Nat} (h : k < ks.length) (h' : k < ls.length) : Ty.sames (ks.drop k) (ls.drop k) = (Ty.same (ks[k]'h) (ls[k]'h') && Ty.sames (ks.drop (k + 1)) (ls.drop (k + 1))) := by
  rw [List.drop_eq_getElem_cons h, List.drop_eq_getElem_cons h', Ty.sames]
theorem Ty.sames_end {ks ls : List Ty} {k : Nat} (h : ks.length ≤ k) : Ty.sames (ks.drop k) (ls.drop k) = true := by rw [List.drop_eq_nil_iff.2 h, Ty.sames]
theorem Tm.sames_step {ks ls : List Tm} {k : Nat} (h : k < ks.length) (h' : k < ls.length) : Tm.sames (ks.drop k) (ls.drop k) = (Tm.same (ks[k]'h) (ls[k]'h') && Tm.sames (ks.drop (k + 1)) (ls.drop (k + 1))) := by
  rw [List.drop_eq_getElem_cons h, List.drop_eq_getElem_cons h', Tm.sames]
theorem Tm.sames_end {ks ls : List Tm} {k : Nat} (h : ks.length ≤ k) : Tm.sames (ks.drop k) (ls.drop k) = true := by rw [List.drop_eq_nil_iff.2 h, Tm.sames]
theorem Ty.same_eq (t s : Ty) : t.same s = (t.kind == s.kind && (t.num == s.num && (t.kids.length == s.kids.length && Ty.sames t.kids s.kids))) := by cases t; cases s; rw [Ty.same]
theorem Tm.same_eq (t s : Tm) : t.same s = (t.kind == s.kind && (t.num == s.num && (t.type.same s.type && (t.kids.length == s.kids.length && Tm.sames t.kids s.kids)))) := by cases t; cases s; rw [Tm.same]
theorem ne_of_beq {α : Type} [BEq α] {a b : α} (h : (a == b) = true) : (a != b) = false := by unfold bne; rw [h]; rfl
theorem ne_of_beq' {α : Type} [BEq α] {a b : α} (h : (a == b) = false) : (a != b) = true := by unfold bne; rw [h]; rfl

mutual
def Tm.lift (by_ : Int) : Int → Tm → Tm
  | d, ⟨k, n, ty, ks⟩ => ⟨k, if k = 1 ∧ d ≤ n then IntKind.i64.wrap (n + by_) else n, ty, Tm.lifts by_ (if k = 3 then d + 1 else d) ks⟩
def Tm.lifts (by_ : Int) : Int → List Tm → List Tm
  | _, [] => []
  | d, t :: r => Tm.lift by_ d t :: Tm.lifts by_ d r
end
theorem Tm.lifts_map (by_ d : Int) : ∀ ks : List Tm, Tm.lifts by_ d ks = ks.map (Tm.lift by_ d)
  | [] => by rw [Tm.lifts]; rfl
  | t :: r => by rw [Tm.lifts, Tm.lifts_map by_ d r]; rfl
theorem Tm.lift_mk (by_ d k n : Int) (ty : Ty) (ks : List Tm) : Tm.lift by_ d ⟨k, n, ty, ks⟩ = ⟨k, if k = 1 ∧ d ≤ n then IntKind.i64.wrap (n + by_) else n, ty, ks.map (Tm.lift by_ (if k = 3 then d + 1 else d))⟩ := by rw [Tm.lift, Tm.lifts_map]
mutual
def Tm.put (x : Tm) : Int → Tm → Tm
  | d, ⟨k, n, ty, ks⟩ => if k = 1 ∧ n = d then Tm.lift d 0 x else ⟨k, if k = 1 ∧ d < n then IntKind.i64.wrap (n - 1) else n, ty, Tm.puts x (if k = 3 then d + 1 else d) ks⟩
def Tm.puts (x : Tm) : Int → List Tm → List Tm
  | _, [] => []
  | d, t :: r => Tm.put x d t :: Tm.puts x d r
end
theorem Tm.puts_map (x : Tm) (d : Int) : ∀ ks : List Tm, Tm.puts x d ks = ks.map (Tm.put x d)
  | [] => by rw [Tm.puts]; rfl
  | t :: r => by rw [Tm.puts, Tm.puts_map x d r]; rfl
theorem Tm.put_mk (x : Tm) (d k n : Int) (ty : Ty) (ks : List Tm) : Tm.put x d ⟨k, n, ty, ks⟩ = if k = 1 ∧ n = d then Tm.lift d 0 x else ⟨k, if k = 1 ∧ d < n then IntKind.i64.wrap (n - 1) else n, ty, ks.map (Tm.put x (if k = 3 then d + 1 else d))⟩ := by rw [Tm.put, Tm.puts_map]
mutual
def Tm.uses : Int → Tm → Nat
  | d, ⟨k, n, _, ks⟩ => if k = 1 ∧ n = d then 1 else Tm.usess (if k = 3 then d + 1 else d) ks
def Tm.usess : Int → List Tm → Nat
  | _, [] => 0
  | d, t :: r => Tm.uses d t + Tm.usess d r
end
theorem Tm.usess_succ (d : Int) (ks : List Tm) (k : Nat) (h : k < ks.length) : Tm.usess d (ks.take (k + 1)) = Tm.usess d (ks.take k) + Tm.uses d (ks[k]'h) := by
  induction ks generalizing k with
  | nil => simp at h
  | cons t r ih =>
    match k with
    | 0 => simp [Tm.usess]
    | k + 1 =>
      have := ih k (by simpa using h)
      simp only [List.take_succ_cons, Tm.usess, List.getElem_cons_succ]; omega
mutual
theorem Tm.uses_le : ∀ (d : Int) (t : Tm), Tm.uses d t ≤ t.size
  | d, ⟨k, n, ty, ks⟩ => by
    rw [Tm.uses, Tm.size_mk]; have := Tm.usess_le (if k = 3 then d + 1 else d) ks; split <;> omega
theorem Tm.usess_le : ∀ (d : Int) (ks : List Tm), Tm.usess d ks ≤ Tm.sizes ks
  | d, [] => by simp [Tm.usess]
  | d, t :: r => by rw [Tm.usess, Tm.sizes]; have := Tm.uses_le d t; have := Tm.usess_le d r; omega
end

def Tm.spot (t : Tm) : Bool := t.kind == 4 && (match t.kids with | f :: _ => f.kind == 3 | [] => false)

mutual
/-- the form of a term that a check has let by -/
def Tm.good : Tm → Prop
  | ⟨k, _, ty, ks⟩ => ((k = 4 → ks.length = 2) ∧ (k = 3 → ks.length = 1) ∧ (k = 1 → ks.length = 0) ∧ ty.size ≤ 60) ∧ Tm.goods ks
def Tm.goods : List Tm → Prop
  | [] => True
  | t :: r => Tm.good t ∧ Tm.goods r
end
theorem Tm.good_mk (k n : Int) (ty : Ty) (ks : List Tm) : Tm.good ⟨k, n, ty, ks⟩ ↔ ((k = 4 → ks.length = 2) ∧ (k = 3 → ks.length = 1) ∧ (k = 1 → ks.length = 0) ∧ ty.size ≤ 60) ∧ Tm.goods ks := by rw [Tm.good]
theorem Tm.goods_iff : ∀ {ks : List Tm}, Tm.goods ks ↔ ∀ t ∈ ks, Tm.good t
  | [] => by simp [Tm.goods]
  | t :: r => by rw [Tm.goods, Tm.goods_iff (ks := r)]; simp
theorem Tm.sizes_map {g : Tm → Tm} : ∀ {ks : List Tm}, (∀ t ∈ ks, (g t).size = t.size) → Tm.sizes (ks.map g) = Tm.sizes ks
  | [], _ => rfl
  | t :: r, h => by rw [List.map_cons, Tm.sizes, Tm.sizes, h t (by simp), Tm.sizes_map fun t ht => h t (by simp [ht])]
theorem Tm.size_lift (a : Int) (N : Nat) : ∀ (t : Tm) (_ : t.size ≤ N) (d : Int), (Tm.lift a d t).size = t.size := by
  induction N with
  | zero => intro t ht; have := t.size_pos; omega
  | succ N ih =>
    rintro ⟨k, n, ty, ks⟩ ht d
    rw [Tm.size_mk] at ht
    rw [Tm.lift_mk, Tm.size_mk, Tm.size_mk, Tm.sizes_map]
    intro t hm
    exact ih t (by have := Tm.sizes_mem hm; omega) _
theorem Tm.good_lift (a : Int) (N : Nat) : ∀ (t : Tm) (_ : t.size ≤ N) (d : Int), t.good → (Tm.lift a d t).good := by
  induction N with
  | zero => intro t ht; have := t.size_pos; omega
  | succ N ih =>
    rintro ⟨k, n, ty, ks⟩ ht d hg
    rw [Tm.size_mk] at ht
    obtain ⟨hg, hs⟩ := (Tm.good_mk _ _ _ _).1 hg
    rw [Tm.lift_mk, Tm.good_mk, List.length_map]
    refine ⟨hg, Tm.goods_iff.2 fun t hm => ?_⟩
    obtain ⟨x, hx, rfl⟩ := List.mem_map.1 hm
    exact ih x (by have := Tm.sizes_mem hx; omega) _ (Tm.goods_iff.1 hs x hx)
theorem Tm.good_put (x : Tm) (hx : x.good) (N : Nat) : ∀ (t : Tm) (_ : t.size ≤ N) (d : Int), t.good → (Tm.put x d t).good := by
  induction N with
  | zero => intro t ht; have := t.size_pos; omega
  | succ N ih =>
    rintro ⟨k, n, ty, ks⟩ ht d hg
    rw [Tm.size_mk] at ht
    obtain ⟨hg, hs⟩ := (Tm.good_mk _ _ _ _).1 hg
    rw [Tm.put_mk]
    split
    · exact Tm.good_lift _ _ _ (Nat.le_refl _) _ hx
    · rw [Tm.good_mk, List.length_map]
      refine ⟨hg, Tm.goods_iff.2 fun t hm => ?_⟩
      obtain ⟨y, hy, rfl⟩ := List.mem_map.1 hm
      exact ih y (by have := Tm.sizes_mem hy; omega) _ (Tm.goods_iff.1 hs y hy)
mutual
/-- how great a term is with another one in a variable's place -/
theorem Tm.size_put (x : Tm) : ∀ (t : Tm) (d : Int), t.good → ((Tm.put x d t).size : Int) = t.size + (Tm.uses d t : Int) * ((x.size : Int) - 1)
  | ⟨k, n, ty, ks⟩, d, hg => by
    obtain ⟨⟨_, _, h1, _⟩, hs⟩ := (Tm.good_mk _ _ _ _).1 hg
    rw [Tm.put_mk, Tm.uses]
    by_cases h : k = 1 ∧ n = d
    · rw [if_pos h, if_pos h, Tm.size_lift _ _ _ (Nat.le_refl _), Tm.size_mk]
      have : ks = [] := List.eq_nil_of_length_eq_zero (h1 h.1)
      subst this
      simp [Tm.sizes]; omega
    · rw [if_neg h, if_neg h, Tm.size_mk, Tm.size_mk]
      have := Tm.sizes_put x ks (if k = 3 then d + 1 else d) hs
      simp only [Int.natCast_add, Int.natCast_one]
      omega
theorem Tm.sizes_put (x : Tm) : ∀ (ks : List Tm) (d : Int), Tm.goods ks → (Tm.sizes (ks.map (Tm.put x d)) : Int) = Tm.sizes ks + (Tm.usess d ks : Int) * ((x.size : Int) - 1)
  | [], d, _ => by simp [Tm.sizes, Tm.usess]
  | t :: r, d, hg => by
    have h1 := Tm.size_put x t d hg.1
    have h2 := Tm.sizes_put x r d hg.2
    rw [List.map_cons, Tm.sizes, Tm.sizes, Tm.usess]
    simp only [Int.natCast_add, Int.add_mul]
    omega
end

/-- what stands where a function is applied -/
def Tm.redex (t : Tm) : Tm := match t.kids with
  | f :: x :: _ => (match f.kids with | b :: _ => Tm.put x 0 b | [] => t)
  | _ => t
/-- a step at a way; b: how great what stands beside is; the second: what is wrong -/
def Tm.at_ : List Int → Tm → Int → Tm × Int
  | [], t, b => if t.spot then (if b + (t.redex.size : Int) ≤ 400 then (t.redex, 0) else (t, 7)) else (t, 5)
  | i :: way, t, b => if i < 0 then (t, 5) else match t.kids[i.toNat]? with
    | none => (t, 5)
    | some k =>
      let r := Tm.at_ way k (b + t.size - k.size)
      if r.2 = 0 then (⟨t.kind, t.num, t.type, t.kids.set i.toNat r.1⟩, 0) else (t, r.2)
mutual
/-- the ways to where a step may be made -/
def Tm.spots : Tm → List (List Int)
  | ⟨k, n, ty, ks⟩ => (if Tm.spot ⟨k, n, ty, ks⟩ then [[]] else []) ++ Tm.spotss 0 ks
def Tm.spotss : Nat → List Tm → List (List Int)
  | _, [] => []
  | i, t :: r => (Tm.spots t).map ((i : Int) :: ·) ++ Tm.spotss (i + 1) r
end
/-- the normal form and how many steps lead there -/
def Tm.norm : Nat → Tm → Option (Tm × Nat)
  | f, t => match t.spots with
    | [] => some (t, 0)
    | s :: _ => match f with
      | 0 => none
      | f + 1 => if (Tm.at_ s t 0).2 = 0 then (Tm.norm f (Tm.at_ s t 0).1).map fun r => (r.1, r.2 + 1) else none

theorem Tm.sizes_set : ∀ (ks : List Tm) (i : Nat) (x k : Tm), ks[i]? = some k → Tm.sizes (ks.set i x) + k.size = Tm.sizes ks + x.size
  | [], i, x, k, h => by simp at h
  | t :: r, 0, x, k, h => by simp at h; subst h; rw [List.set_cons_zero, Tm.sizes, Tm.sizes]; omega
  | t :: r, i + 1, x, k, h => by
    have := Tm.sizes_set r i x k (by simpa using h)
    rw [List.set_cons_succ, Tm.sizes, Tm.sizes]; omega
/-- what a spot looks like -/
theorem Tm.spot_form {t : Tm} (hg : t.good) (h : t.spot = true) : ∃ n ty f x b, t = ⟨4, n, ty, [f, x]⟩ ∧ f.kind = 3 ∧ f.kids = [b] ∧ f.good ∧ x.good ∧ b.good ∧ t.redex = Tm.put x 0 b ∧ 2 + b.size + x.size = t.size := by
  obtain ⟨k, n, ty, ks⟩ := t
  obtain ⟨⟨h4, _, _, _⟩, hs⟩ := (Tm.good_mk _ _ _ _).1 hg
  unfold Tm.spot at h
  simp only [Bool.and_eq_true, beq_iff_eq] at h
  obtain ⟨rfl, h3⟩ := h
  have hl := h4 rfl
  match ks, hl with
  | [f, x], _ =>
    simp only [beq_iff_eq] at h3
    obtain ⟨hf, hx, _⟩ := hs
    obtain ⟨fk, fn, fty, fks⟩ := f
    simp only at h3
    subst h3
    obtain ⟨⟨_, h31, _, _⟩, hfs⟩ := (Tm.good_mk _ _ _ _).1 hf
    have hl1 := h31 rfl
    match fks, hl1 with
    | [b], _ =>
      refine ⟨n, ty, _, x, b, rfl, rfl, rfl, hf, hx, hfs.1, rfl, ?_⟩
      simp [Tm.size_mk, Tm.sizes]; omega
theorem Tm.at_good : ∀ (way : List Int) (t : Tm) (b : Int), t.good → (Tm.at_ way t b).2 = 0 → (Tm.at_ way t b).1.good ∧ b + ((Tm.at_ way t b).1.size : Int) ≤ 400
  | [], t, b, hg, h => by
    rw [Tm.at_] at h ⊢
    by_cases hs : t.spot = true
    · obtain ⟨n, ty, f, x, c, rfl, _, _, _, hx, hb, hr, _⟩ := Tm.spot_form hg hs
      rw [if_pos hs] at h ⊢
      by_cases hq : b + ((Tm.redex ⟨4, n, ty, [f, x]⟩).size : Int) ≤ 400
      · rw [if_pos hq]
        exact ⟨by rw [hr]; exact Tm.good_put _ hx _ _ (Nat.le_refl _) _ hb, hq⟩
      · rw [if_neg hq] at h; cases h
    · rw [if_neg hs] at h; cases h
  | i :: way, t, b, hg, h => by
    rw [Tm.at_] at h ⊢
    by_cases hi : i < 0
    · rw [if_pos hi] at h; cases h
    · rw [if_neg hi] at h ⊢
      cases hk : t.kids[i.toNat]? with
      | none => rw [hk] at h; cases h
      | some k =>
        rw [hk] at h
        simp only at h ⊢
        obtain ⟨kd, n, ty, ks⟩ := t
        obtain ⟨hg1, hs⟩ := (Tm.good_mk _ _ _ _).1 hg
        simp only at hk h ⊢
        have hkg := Tm.goods_iff.1 hs k (List.mem_of_getElem? hk)
        by_cases hr : (Tm.at_ way k (b + (Tm.size ⟨kd, n, ty, ks⟩ : Int) - k.size)).2 = 0
        · obtain ⟨h1, h2⟩ := Tm.at_good way k _ hkg hr
          rw [if_pos hr]
          generalize (Tm.at_ way k (b + (Tm.size ⟨kd, n, ty, ks⟩ : Int) - k.size)).1 = y at *
          have h3 := Tm.sizes_set ks i.toNat y k hk
          refine ⟨(Tm.good_mk _ _ _ _).2 ⟨by rw [List.length_set]; exact hg1, Tm.goods_iff.2 fun z hz => ?_⟩, ?_⟩
          · rcases List.mem_or_eq_of_mem_set hz with hz | rfl
            · exact Tm.goods_iff.1 hs z hz
            · exact h1
          · rw [Tm.size_mk] at h2 ⊢
            simp only [Int.natCast_add, Int.natCast_one] at h2 ⊢
            omega
        · rw [if_neg hr] at h; exact absurd h hr
theorem Tm.spotss_mem : ∀ {ks : List Tm} {i : Nat} {s : List Int}, s ∈ Tm.spotss i ks → ∃ j k r, ks[j]? = some k ∧ s = ((i + j : Nat) : Int) :: r ∧ r ∈ k.spots
  | [], i, s, h => by simp [Tm.spotss] at h
  | t :: l, i, s, h => by
    rw [Tm.spotss] at h
    rcases List.mem_append.1 h with h | h
    · obtain ⟨r, hr, rfl⟩ := List.mem_map.1 h
      exact ⟨0, t, r, rfl, by simp, hr⟩
    · obtain ⟨j, k, r, h1, h2, h3⟩ := Tm.spotss_mem h
      exact ⟨j + 1, k, r, by simpa using h1, by rw [h2]; congr 2; omega, h3⟩
/-- at a spot the only fault is that the term would be too great -/
theorem Tm.at_spot : ∀ (s : List Int) (t : Tm) (b : Int), s ∈ t.spots → (Tm.at_ s t b).2 = 0 ∨ (Tm.at_ s t b).2 = 7
  | [], ⟨k, n, ty, ks⟩, b, h => by
    rw [Tm.spots] at h
    have hs : Tm.spot ⟨k, n, ty, ks⟩ = true := by
      rcases List.mem_append.1 h with h | h
      · split at h
        · assumption
        · cases h
      · obtain ⟨j, k, r, _, h2, _⟩ := Tm.spotss_mem h; cases h2
    rw [Tm.at_, if_pos hs]
    split
    · exact .inl rfl
    · exact .inr rfl
  | i :: s, ⟨k, n, ty, ks⟩, b, h => by
    rw [Tm.spots] at h
    have hs : ∃ j y r, ks[j]? = some y ∧ i :: s = ((0 + j : Nat) : Int) :: r ∧ r ∈ y.spots := by
      rcases List.mem_append.1 h with h | h
      · split at h
        · simp at h
        · cases h
      · exact Tm.spotss_mem h
    obtain ⟨j, y, r, h1, h2, h3⟩ := hs
    injection h2 with h2 h4
    subst h2 h4
    have hn : (((0 + j : Nat) : Int)).toNat = j := by omega
    rw [Tm.at_, if_neg (by omega), hn]
    simp only [h1]
    rcases Tm.at_spot s y (b + (Tm.size ⟨k, n, ty, ks⟩ : Int) - y.size) h3 with h | h
    · rw [if_pos h]; exact .inl rfl
    · rw [if_neg (by rw [h]; decide)]; exact .inr h
/-- a step with d beside it -/
def stepB (d : Int) (x b : Tm) : Bool := decide (d + (b.size : Int) + (Tm.uses 0 b : Int) * ((x.size : Int) - 1) ≤ 400)
def stepT (d : Int) (x b t : Tm) : Tm := if d + (b.size : Int) + (Tm.uses 0 b : Int) * ((x.size : Int) - 1) ≤ 400 then Tm.put x 0 b else t
theorem Tm.at_nil_spot {t x b : Tm} {d : Int} (hs : t.spot = true) (hb : b.good) (hr : t.redex = Tm.put x 0 b) : (stepB d x b = true → Tm.at_ [] t d = (stepT d x b t, 0)) ∧ (stepB d x b = false → Tm.at_ [] t d = (t, 7)) := by
  have h := Tm.size_put x b 0 hb
  unfold stepB stepT
  rw [Tm.at_, if_pos hs, hr]
  constructor
  · intro hd
    have hd := of_decide_eq_true hd
    rw [if_pos (by omega), if_pos hd]
  · intro hd
    have hd := of_decide_eq_false hd
    rw [if_neg (by omega)]
theorem Tm.at_nil_no {t : Tm} {d : Int} (hs : t.spot = false) : Tm.at_ [] t d = (t, 5) := by
  rw [Tm.at_, if_neg (by rw [hs]; simp)]
theorem Tm.at_low {t : Tm} {d i : Int} {way : List Int} (h : i < 0) : Tm.at_ (i :: way) t d = (t, 5) := by rw [Tm.at_, if_pos h]
theorem Tm.at_high {t : Tm} {d : Int} {k : Nat} {way : List Int} (h : t.kids.length ≤ k) : Tm.at_ ((k : Int) :: way) t d = (t, 5) := by
  rw [Tm.at_, if_neg (by omega), Int.toNat_natCast, List.getElem?_eq_none h]
theorem Tm.at_in {t x : Tm} {d : Int} {k : Nat} {way : List Int} (h : t.kids[k]? = some x) : ((Tm.at_ way x (d + t.size - x.size)).2 = 0 → Tm.at_ ((k : Int) :: way) t d = (⟨t.kind, t.num, t.type, t.kids.set k (Tm.at_ way x (d + t.size - x.size)).1⟩, 0)) ∧
    ((Tm.at_ way x (d + t.size - x.size)).2 ≠ 0 → Tm.at_ ((k : Int) :: way) t d = (t, (Tm.at_ way x (d + t.size - x.size)).2)) := by
  rw [Tm.at_, if_neg (by omega), Int.toNat_natCast, h]
  exact ⟨fun h => by simp only; rw [if_pos h], fun h => by simp only; rw [if_neg h]⟩

mutual
/-- the cells of a type -/
def Ty.cs : Ty → List AV
  | ⟨k, n, ks⟩ => [iv k, iv n, .dsl 3 (Ty.css ks)]
def Ty.css : List Ty → List (List AV)
  | [] => []
  | t :: r => Ty.cs t :: Ty.css r
end
theorem Ty.css_map : ∀ ks : List Ty, Ty.css ks = ks.map Ty.cs
  | [] => by rw [Ty.css]; rfl
  | t :: r => by rw [Ty.css, Ty.css_map r]; rfl
theorem Ty.cs_eq (t : Ty) : t.cs = [iv t.kind, iv t.num, .dsl 3 (t.kids.map Ty.cs)] := by cases t; rw [Ty.cs, Ty.css_map]
theorem Ty.cs_len (t : Ty) : t.cs.length = 3 := by rw [Ty.cs_eq]; rfl
theorem Ty.cs_g0 (t : Ty) : t.cs[0]? = some (iv t.kind) := by rw [Ty.cs_eq]; rfl
theorem Ty.cs_g1 (t : Ty) : t.cs[1]? = some (iv t.num) := by rw [Ty.cs_eq]; rfl
theorem Ty.cs_g2 (t : Ty) : t.cs[2]? = some (.dsl 3 (t.kids.map Ty.cs)) := by rw [Ty.cs_eq]; rfl
theorem Ty.cs_take (t : Ty) : t.cs.take 3 = t.cs := List.take_of_length_le (by rw [Ty.cs_len]; omega)
def Ty.av (t : Ty) : AV := .agg t.cs
mutual
/-- the cells of a term -/
def Tm.cs : Tm → List AV
  | ⟨k, n, ty, ks⟩ => [iv k, iv n, iv ty.kind, iv ty.num, .dsl 3 (ty.kids.map Ty.cs), .dsl 6 (Tm.css ks)]
def Tm.css : List Tm → List (List AV)
  | [] => []
  | t :: r => Tm.cs t :: Tm.css r
end
theorem Tm.css_map : ∀ ks : List Tm, Tm.css ks = ks.map Tm.cs
  | [] => by rw [Tm.css]; rfl
  | t :: r => by rw [Tm.css, Tm.css_map r]; rfl
theorem Tm.cs_eq (t : Tm) : t.cs = [iv t.kind, iv t.num, iv t.type.kind, iv t.type.num, .dsl 3 (t.type.kids.map Ty.cs), .dsl 6 (t.kids.map Tm.cs)] := by cases t; rw [Tm.cs, Tm.css_map]
theorem Tm.cs_len (t : Tm) : t.cs.length = 6 := by rw [Tm.cs_eq]; rfl
theorem Tm.cs_g0 (t : Tm) : t.cs[0]? = some (iv t.kind) := by rw [Tm.cs_eq]; rfl
theorem Tm.cs_g1 (t : Tm) : t.cs[1]? = some (iv t.num) := by rw [Tm.cs_eq]; rfl
theorem Tm.cs_g2 (t : Tm) : t.cs[2]? = some (iv t.type.kind) := by rw [Tm.cs_eq]; rfl
theorem Tm.cs_g3 (t : Tm) : t.cs[3]? = some (iv t.type.num) := by rw [Tm.cs_eq]; rfl
theorem Tm.cs_g4 (t : Tm) : t.cs[4]? = some (.dsl 3 (t.type.kids.map Ty.cs)) := by rw [Tm.cs_eq]; rfl
theorem Tm.cs_g5 (t : Tm) : t.cs[5]? = some (.dsl 6 (t.kids.map Tm.cs)) := by rw [Tm.cs_eq]; rfl
theorem Tm.cs_take (t : Tm) : t.cs.take 6 = t.cs := List.take_of_length_le (by rw [Tm.cs_len]; omega)
theorem Tm.cs_type (t : Tm) : (t.cs.drop 2).take 3 = t.type.cs := by rw [Tm.cs_eq, Ty.cs_eq]; rfl
def Tm.av (t : Tm) : AV := .agg t.cs
theorem dt_ty (l : List Ty) : DtR (l.map Ty.cs) := by
  intro e he a ha
  obtain ⟨c, _, rfl⟩ := List.mem_map.1 he
  rw [Ty.cs_eq] at ha
  simp at ha
  rcases ha with rfl | rfl | rfl
  · exact Dt.p _
  · exact Dt.p _
  · exact Dt.dsl _ _
theorem dt_tm (l : List Tm) : DtR (l.map Tm.cs) := by
  intro e he a ha
  obtain ⟨c, _, rfl⟩ := List.mem_map.1 he
  rw [Tm.cs_eq] at ha
  simp at ha
  rcases ha with rfl | rfl | rfl | rfl | rfl | rfl
  · exact Dt.p _
  · exact Dt.p _
  · exact Dt.p _
  · exact Dt.p _
  · exact Dt.dsl _ _
  · exact Dt.dsl _ _
end Go.Proofs.Ytkocpdekknfmaaa

/- Counting types and terms: both programs. -/
namespace Go.Proofs.Ytkocpdekknfmaaa
open Go.RowKit Go.Maps
theorem c_typeKids (t : Ty) : PF Try.prog 53 [t.av] (.dsl 3 (t.kids.map Ty.cs)) := fun H => tri_wf fun hw => tri_term_typeKids (by
  unfold S_term_typeKids
  simp (disch := first | omega | simp) [Ty.av, Ty.cs_g2]
  exact rt_one hw (by repeat (first | with_reducible assumption | with_reducible exact AH.le.refl _ | with_reducible apply AH.le.up | (with_reducible refine AH.le.put hw ?_ ?_; · first | omega | (simp only [up_nx, put_nx, kill_nx]; done) | (simp only [up_nx, put_nx, kill_nx]; omega)) | (with_reducible refine AH.le.kill hw ?_ ?_; · first | omega | (simp only [up_nx, put_nx, kill_nx]; done) | (simp only [up_nx, put_nx, kill_nx]; omega)))) (by repeat (first | exact Cl.p _ | exact Cl.dsl _ _ | exact Cl.any | refine Cl.tup ?_ | refine Cl.agg ?_ | exact Clo.nil | refine Clo.cons ?_ ?_)) ⟨rfl, rfl⟩)
theorem c_kids (t : Tm) : PF Try.prog 51 [t.av] (.dsl 6 (t.kids.map Tm.cs)) := fun H => tri_wf fun hw => tri_term_kids (by
  unfold S_term_kids
  simp (disch := first | omega | simp) [Tm.av, Tm.cs_g5]
  exact rt_one hw (by repeat (first | with_reducible assumption | with_reducible exact AH.le.refl _ | with_reducible apply AH.le.up | (with_reducible refine AH.le.put hw ?_ ?_; · first | omega | (simp only [up_nx, put_nx, kill_nx]; done) | (simp only [up_nx, put_nx, kill_nx]; omega)) | (with_reducible refine AH.le.kill hw ?_ ?_; · first | omega | (simp only [up_nx, put_nx, kill_nx]; done) | (simp only [up_nx, put_nx, kill_nx]; omega)))) (by repeat (first | exact Cl.p _ | exact Cl.dsl _ _ | exact Cl.any | refine Cl.tup ?_ | refine Cl.agg ?_ | exact Clo.nil | refine Clo.cons ?_ ?_)) ⟨rfl, rfl⟩)
theorem capN_add {a s : Nat} {most : Int} (_ha : (a : Int) ≤ most) : (a : Int) + capN s (most - a) = capN (a + s) most := by
  unfold capN
  by_cases h : (s : Int) ≤ most - a
  · rw [if_pos h, if_pos (by omega)]; omega
  · rw [if_neg h, if_neg (by omega)]; omega
theorem capN_in {s : Nat} {most : Int} (h : 0 ≤ most) : 0 ≤ capN s most ∧ capN s most ≤ most + 1 := by
  unfold capN; split <;> omega
theorem capN_low {s : Nat} {most : Int} (h : (s : Int) ≤ most) : capN s most = s := by unfold capN; rw [if_pos h]
theorem capN_high {s : Nat} {most : Int} (h : ¬ (s : Int) ≤ most) : capN s most = most + 1 := by unfold capN; rw [if_neg h]
theorem tri_lenA {P : Program} {f : FuncId} {ps : List AV} {H : AH} {Q : AV → AH → Prop} (i j : Nat) {cs : List AV} {sz : Nat} {xs : List (List AV)} (hi : ps[i]? = some (.agg cs)) (hj : cs[j]? = some (.dsl sz xs)) (h : xs.length ≤ maxLen → Tri P f ps H Q) : Tri P f ps H Q := fun w S σ us hs hr => by
  obtain ⟨v, hv, hrv⟩ := hr.at_ hi
  obtain ⟨vs, rfl, h1, h2⟩ := hrv.agg_inv
  obtain ⟨u, hu, hru⟩ := h1.at_ hj
  obtain ⟨A, c, z, rfl, q1, q2, _⟩ := hru.dsl_inv.dsl_inv
  exact h (by omega) w S σ us hs hr
set_option maxHeartbeats 1000000 in
theorem c_CountTy (N : Nat) : ∀ t : Ty, t.size ≤ N → ∀ (most : Int) (H : AH), 0 ≤ most → most ≤ 1000000 → Tri Try.prog 52 [t.av, .fn (.func 53) [] [], iv most] H (fun r H' => H' = H ∧ r = iv (capN t.size most)) := by
  induction N with
  | zero => intro t ht; have := t.size_pos; omega
  | succ N ih =>
    intro t ht most H h0 h1
    refine tri_wf fun hw => tri_lenA 0 2 rfl t.cs_g2 fun hl => tri_deep_Count_api_Type ?_
    have hml : maxLen = 9223372036854775807 := by decide
    rw [List.length_map] at hl
    have hsz := t.size_eq
    unfold S_deep_Count_api_Type
    simp (disch := first | omega | simp) [Ty.av, Ty.cs_len, Ty.cs_take]
    refine ca_pure (by kernel_rfl) (c_typeKids t _) ?_
    simp (disch := first | omega | simp) []
    refine loop_st (fun s : Int × Nat => [iv s.1, iv s.2]) (fun s H' => s.2 ≤ t.kids.length ∧ s.1 = capN (1 + Ty.sizes (t.kids.take s.2)) most ∧ H.le H' ∧ H.nx ≤ H'.nx) (fun s => t.kids.length - s.2) (1, 0) (.refl (Nat.le_refl _)) ⟨Nat.zero_le _, ?_, (by repeat (first | with_reducible assumption | with_reducible exact AH.le.refl _ | with_reducible apply AH.le.up | (with_reducible refine AH.le.put hw ?_ ?_; · first | omega | (simp only [up_nx, put_nx, kill_nx]; done) | (simp only [up_nx, put_nx, kill_nx]; omega)) | (with_reducible refine AH.le.kill hw ?_ ?_; · first | omega | (simp only [up_nx, put_nx, kill_nx]; done) | (simp only [up_nx, put_nx, kill_nx]; omega)))), (by first | omega | (simp only [up_nx, put_nx]; done) | (simp only [up_nx, put_nx]; omega))⟩ ?_
    · simp only [List.take_zero, Ty.sizes]; unfold capN; split <;> omega
    · rintro ⟨n, i⟩ H1 hn1 ⟨hi, hn, hle, hnx⟩ k hk
      dsimp only at hi hn hk
      unfold S_deep_Count_api_Type_L1
      have hsl := Ty.sizes_le t.kids i
      by_cases hil : i < t.kids.length
      · have hss := Ty.sizes_succ t.kids i hil
        have hsl2 := Ty.sizes_le t.kids (i + 1)
        obtain ⟨x, hx⟩ : ∃ x, t.kids[i]? = some x := ⟨_, List.getElem?_eq_getElem hil⟩
        have hxg : ∀ h, t.kids[i]'h = x := fun h => (List.getElem?_eq_some_iff.1 hx).2
        rw [hxg] at hss
        have hxs : x.size ≤ N := by have := Ty.sizes_mem (List.mem_of_getElem? hx); omega
        have hiv := ivn (i := i) (by omega)
        by_cases hc : ((1 + Ty.sizes (t.kids.take i) : Nat) : Int) ≤ most
        · rw [capN_low hc] at hn
          have hnm : ¬ most < n := by omega
          have hw1 : IntKind.i64.wrap (most - n) = most - n := wrapI (by omega) (by omega)
          have hcap := capN_in (s := x.size) (most := most - n) (by omega)
          have hw2 : IntKind.i64.wrap (n + capN x.size (most - n)) = n + capN x.size (most - n) := wrapI (by omega) (by omega)
          simp (disch := first | omega | simp) [iv, hil, hxg, hnm, Ty.cs_len, Ty.cs_take, hw1]
          refine ca_pure (by kernel_rfl) (ih x hxs (most - n) _ (by omega) (by omega)) ?_
          simp (disch := first | omega | simp) [iv, hw2, hiv]
          refine hk (n + capN x.size (most - n), i + 1) _ _ _ (.refl (by first | omega | (simp only [up_nx, put_nx]; done) | (simp only [up_nx, put_nx]; omega))) ⟨hil, ?_, (by repeat (first | with_reducible assumption | with_reducible exact AH.le.refl _ | with_reducible apply AH.le.up | (with_reducible refine AH.le.put hw ?_ ?_; · first | omega | (simp only [up_nx, put_nx, kill_nx]; done) | (simp only [up_nx, put_nx, kill_nx]; omega)) | (with_reducible refine AH.le.kill hw ?_ ?_; · first | omega | (simp only [up_nx, put_nx, kill_nx]; done) | (simp only [up_nx, put_nx, kill_nx]; omega)))), (by first | omega | (simp only [up_nx, put_nx]; done) | (simp only [up_nx, put_nx]; omega))⟩ (by dsimp only; omega)
          dsimp only
          rw [hn, capN_add hc, hss]
          congr 1; omega
        · rw [capN_high hc] at hn
          have hnm : most < n := by omega
          simp (disch := first | omega | simp) [iv, hil, hxg, hnm, Ty.cs_len, Ty.cs_take]
          refine rt_one hw (by repeat (first | with_reducible assumption | with_reducible exact AH.le.refl _ | with_reducible apply AH.le.up | (with_reducible refine AH.le.put hw ?_ ?_; · first | omega | (simp only [up_nx, put_nx, kill_nx]; done) | (simp only [up_nx, put_nx, kill_nx]; omega)) | (with_reducible refine AH.le.kill hw ?_ ?_; · first | omega | (simp only [up_nx, put_nx, kill_nx]; done) | (simp only [up_nx, put_nx, kill_nx]; omega)))) (by repeat (first | exact Cl.p _ | exact Cl.dsl _ _ | exact Cl.any | refine Cl.tup ?_ | refine Cl.agg ?_ | exact Clo.nil | refine Clo.cons ?_ ?_)) ⟨rfl, ?_⟩
          rw [hn, capN_high (by omega)]
      · simp (disch := first | omega | simp) [iv, hil]
        have hie : t.kids.take i = t.kids := List.take_of_length_le (by omega)
        rw [hie] at hn
        refine rt_one hw (by repeat (first | with_reducible assumption | with_reducible exact AH.le.refl _ | with_reducible apply AH.le.up | (with_reducible refine AH.le.put hw ?_ ?_; · first | omega | (simp only [up_nx, put_nx, kill_nx]; done) | (simp only [up_nx, put_nx, kill_nx]; omega)) | (with_reducible refine AH.le.kill hw ?_ ?_; · first | omega | (simp only [up_nx, put_nx, kill_nx]; done) | (simp only [up_nx, put_nx, kill_nx]; omega)))) (by repeat (first | exact Cl.p _ | exact Cl.dsl _ _ | exact Cl.any | refine Cl.tup ?_ | refine Cl.agg ?_ | exact Clo.nil | refine Clo.cons ?_ ?_)) ⟨rfl, ?_⟩
        rw [hn, hsz]
theorem c_typeSize (t : Ty) (most : Int) (h0 : 0 ≤ most) (h1 : most ≤ 1000000) : PF Try.prog 40 [t.av, iv most] (iv (capN t.size most)) := fun H => tri_wf fun hw => tri_term_typeSize (by
  unfold S_term_typeSize
  simp (disch := first | omega | simp) [Ty.av, Ty.cs_len, Ty.cs_take]
  refine ca_pure (by kernel_rfl) (c_CountTy t.size t (Nat.le_refl _) most _ h0 h1) ?_
  exact rt_one hw (by repeat (first | with_reducible assumption | with_reducible exact AH.le.refl _ | with_reducible apply AH.le.up | (with_reducible refine AH.le.put hw ?_ ?_; · first | omega | (simp only [up_nx, put_nx, kill_nx]; done) | (simp only [up_nx, put_nx, kill_nx]; omega)) | (with_reducible refine AH.le.kill hw ?_ ?_; · first | omega | (simp only [up_nx, put_nx, kill_nx]; done) | (simp only [up_nx, put_nx, kill_nx]; omega)))) (by repeat (first | exact Cl.p _ | exact Cl.dsl _ _ | exact Cl.any | refine Cl.tup ?_ | refine Cl.agg ?_ | exact Clo.nil | refine Clo.cons ?_ ?_)) ⟨rfl, rfl⟩)
set_option maxHeartbeats 1000000 in
theorem c_CountTm (N : Nat) : ∀ t : Tm, t.size ≤ N → ∀ (most : Int) (H : AH), 0 ≤ most → most ≤ 1000000 → Tri Try.prog 50 [t.av, .fn (.func 51) [] [], iv most] H (fun r H' => H' = H ∧ r = iv (capN t.size most)) := by
  induction N with
  | zero => intro t ht; have := t.size_pos; omega
  | succ N ih =>
    intro t ht most H h0 h1
    refine tri_wf fun hw => tri_lenA 0 5 rfl t.cs_g5 fun hl => tri_deep_Count_api_Term ?_
    have hml : maxLen = 9223372036854775807 := by decide
    rw [List.length_map] at hl
    have hsz := t.size_eq
    unfold S_deep_Count_api_Term
    simp (disch := first | omega | simp) [Tm.av, Tm.cs_len, Tm.cs_take]
    refine ca_pure (by kernel_rfl) (c_kids t _) ?_
    simp (disch := first | omega | simp) []
    refine loop_st (fun s : Int × Nat => [iv s.1, iv s.2]) (fun s H' => s.2 ≤ t.kids.length ∧ s.1 = capN (1 + Tm.sizes (t.kids.take s.2)) most ∧ H.le H' ∧ H.nx ≤ H'.nx) (fun s => t.kids.length - s.2) (1, 0) (.refl (Nat.le_refl _)) ⟨Nat.zero_le _, ?_, (by repeat (first | with_reducible assumption | with_reducible exact AH.le.refl _ | with_reducible apply AH.le.up | (with_reducible refine AH.le.put hw ?_ ?_; · first | omega | (simp only [up_nx, put_nx, kill_nx]; done) | (simp only [up_nx, put_nx, kill_nx]; omega)) | (with_reducible refine AH.le.kill hw ?_ ?_; · first | omega | (simp only [up_nx, put_nx, kill_nx]; done) | (simp only [up_nx, put_nx, kill_nx]; omega)))), (by first | omega | (simp only [up_nx, put_nx]; done) | (simp only [up_nx, put_nx]; omega))⟩ ?_
    · simp only [List.take_zero, Tm.sizes]; unfold capN; split <;> omega
    · rintro ⟨n, i⟩ H1 hn1 ⟨hi, hn, hle, hnx⟩ k hk
      dsimp only at hi hn hk
      unfold S_deep_Count_api_Term_L1
      have hsl := Tm.sizes_le t.kids i
      by_cases hil : i < t.kids.length
      · have hss := Tm.sizes_succ t.kids i hil
        have hsl2 := Tm.sizes_le t.kids (i + 1)
        obtain ⟨x, hx⟩ : ∃ x, t.kids[i]? = some x := ⟨_, List.getElem?_eq_getElem hil⟩
        have hxg : ∀ h, t.kids[i]'h = x := fun h => (List.getElem?_eq_some_iff.1 hx).2
        rw [hxg] at hss
        have hxs : x.size ≤ N := by have := Tm.sizes_mem (List.mem_of_getElem? hx); omega
        have hiv := ivn (i := i) (by omega)
        by_cases hc : ((1 + Tm.sizes (t.kids.take i) : Nat) : Int) ≤ most
        · rw [capN_low hc] at hn
          have hnm : ¬ most < n := by omega
          have hw1 : IntKind.i64.wrap (most - n) = most - n := wrapI (by omega) (by omega)
          have hcap := capN_in (s := x.size) (most := most - n) (by omega)
          have hw2 : IntKind.i64.wrap (n + capN x.size (most - n)) = n + capN x.size (most - n) := wrapI (by omega) (by omega)
          simp (disch := first | omega | simp) [iv, hil, hxg, hnm, Tm.cs_len, Tm.cs_take, hw1]
          refine ca_pure (by kernel_rfl) (ih x hxs (most - n) _ (by omega) (by omega)) ?_
          simp (disch := first | omega | simp) [iv, hw2, hiv]
          refine hk (n + capN x.size (most - n), i + 1) _ _ _ (.refl (by first | omega | (simp only [up_nx, put_nx]; done) | (simp only [up_nx, put_nx]; omega))) ⟨hil, ?_, (by repeat (first | with_reducible assumption | with_reducible exact AH.le.refl _ | with_reducible apply AH.le.up | (with_reducible refine AH.le.put hw ?_ ?_; · first | omega | (simp only [up_nx, put_nx, kill_nx]; done) | (simp only [up_nx, put_nx, kill_nx]; omega)) | (with_reducible refine AH.le.kill hw ?_ ?_; · first | omega | (simp only [up_nx, put_nx, kill_nx]; done) | (simp only [up_nx, put_nx, kill_nx]; omega)))), (by first | omega | (simp only [up_nx, put_nx]; done) | (simp only [up_nx, put_nx]; omega))⟩ (by dsimp only; omega)
          dsimp only
          rw [hn, capN_add hc, hss]
          congr 1; omega
        · rw [capN_high hc] at hn
          have hnm : most < n := by omega
          simp (disch := first | omega | simp) [iv, hil, hxg, hnm, Tm.cs_len, Tm.cs_take]
          refine rt_one hw (by repeat (first | with_reducible assumption | with_reducible exact AH.le.refl _ | with_reducible apply AH.le.up | (with_reducible refine AH.le.put hw ?_ ?_; · first | omega | (simp only [up_nx, put_nx, kill_nx]; done) | (simp only [up_nx, put_nx, kill_nx]; omega)) | (with_reducible refine AH.le.kill hw ?_ ?_; · first | omega | (simp only [up_nx, put_nx, kill_nx]; done) | (simp only [up_nx, put_nx, kill_nx]; omega)))) (by repeat (first | exact Cl.p _ | exact Cl.dsl _ _ | exact Cl.any | refine Cl.tup ?_ | refine Cl.agg ?_ | exact Clo.nil | refine Clo.cons ?_ ?_)) ⟨rfl, ?_⟩
          rw [hn, capN_high (by omega)]
      · simp (disch := first | omega | simp) [iv, hil]
        have hie : t.kids.take i = t.kids := List.take_of_length_le (by omega)
        rw [hie] at hn
        refine rt_one hw (by repeat (first | with_reducible assumption | with_reducible exact AH.le.refl _ | with_reducible apply AH.le.up | (with_reducible refine AH.le.put hw ?_ ?_; · first | omega | (simp only [up_nx, put_nx, kill_nx]; done) | (simp only [up_nx, put_nx, kill_nx]; omega)) | (with_reducible refine AH.le.kill hw ?_ ?_; · first | omega | (simp only [up_nx, put_nx, kill_nx]; done) | (simp only [up_nx, put_nx, kill_nx]; omega)))) (by repeat (first | exact Cl.p _ | exact Cl.dsl _ _ | exact Cl.any | refine Cl.tup ?_ | refine Cl.agg ?_ | exact Clo.nil | refine Clo.cons ?_ ?_)) ⟨rfl, ?_⟩
        rw [hn, hsz]
theorem c_size (t : Tm) (most : Int) (h0 : 0 ≤ most) (h1 : most ≤ 1000000) : PF Try.prog 38 [t.av, iv most] (iv (capN t.size most)) := fun H => tri_wf fun hw => tri_term_size (by
  unfold S_term_size
  simp (disch := first | omega | simp) [Tm.av, Tm.cs_len, Tm.cs_take]
  refine ca_pure (by kernel_rfl) (c_CountTm t.size t (Nat.le_refl _) most _ h0 h1) ?_
  exact rt_one hw (by repeat (first | with_reducible assumption | with_reducible exact AH.le.refl _ | with_reducible apply AH.le.up | (with_reducible refine AH.le.put hw ?_ ?_; · first | omega | (simp only [up_nx, put_nx, kill_nx]; done) | (simp only [up_nx, put_nx, kill_nx]; omega)) | (with_reducible refine AH.le.kill hw ?_ ?_; · first | omega | (simp only [up_nx, put_nx, kill_nx]; done) | (simp only [up_nx, put_nx, kill_nx]; omega)))) (by repeat (first | exact Cl.p _ | exact Cl.dsl _ _ | exact Cl.any | refine Cl.tup ?_ | refine Cl.agg ?_ | exact Clo.nil | refine Clo.cons ?_ ?_)) ⟨rfl, rfl⟩)
end Go.Proofs.Ytkocpdekknfmaaa
