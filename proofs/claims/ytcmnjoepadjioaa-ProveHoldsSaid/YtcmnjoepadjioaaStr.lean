/- Small facts of use in many walks: returns, a string's iterator anywhere in memory, new cells. Nothing of the program is named here. -/
import Derived.Test.YtcmnjoepadjioaaLaw
namespace Go.Proofs.Ytcmnjoepadjioaa
open Go.RowKit

theorem ret_tup2 {k l : IntKind} {a b c d : Int} (h : a = b) (h' : c = d) : Ending.returned (.tuple #[.int k a, .int l c]) = .returned (.tuple #[.int k b, .int l d]) := by rw [h, h']
theorem ret_tup3 {k l m : IntKind} {a b c d e f : Int} (h : a = b) (h' : c = d) (h'' : e = f) : Ending.returned (.tuple #[.int k a, .int l c, .int m e]) = .returned (.tuple #[.int k b, .int l d, .int m f]) := by rw [h, h', h'']
theorem ret_bool {a b : Bool} (h : a = b) : Ending.returned (.bool a) = .returned (.bool b) := by rw [h]
theorem ret_int {k : IntKind} {a b : Int} (h : a = b) : Ending.returned (.int k a) = .returned (.int k b) := by rw [h]

theorem cells_new (w : World) (xs : List Value) (t : TypeId) : ∀ (j : Nat) (u : Value), xs[j]? = some u → (w.alloc (.cells xs.toArray t)).cell? (Addr.add ⟨w.heap.size, 0, none⟩ j) = some u := by
  intro j u hu
  have hb := (Blk.new w t xs.toArray).cell j
  have : Addr.add ⟨w.heap.size, 0, none⟩ j = ⟨w.heap.size, j, none⟩ := by
    unfold Addr.add; split
    · rename_i h; simp
    · simp
  rw [this, hb]; simpa using hu
theorem one3 (k1 k2 k3 : IntKind) (a b c : Int) : ∀ u ∈ [Value.int k1 a, .int k2 b, .int k3 c], u.oneCell' = true := by
  intro u hu; simp at hu; rcases hu with rfl | rfl | rfl <;> rfl
theorem own_ge {w : World} {base : Nat} {e : TypeId} {size n : Nat} {v : Value} {xs : List Value} (h : w.ownsRow base e size v n xs) : ∀ k, v.ownBlock = some k → base ≤ k := by
  intro k hk
  rcases h.2 with ⟨rfl, _⟩ | ⟨g, cap, cur, rfl, hg, _⟩
  · simp [Value.ownBlock] at hk
  · simp [Value.ownBlock] at hk; omega
theorem ownsRow_none (w : World) (base : Nat) (e : TypeId) (size : Nat) : w.ownsRow base e size (.slice none 0 0) 0 [] := ⟨by simp, .inl ⟨rfl, rfl⟩⟩

theorem own_drewN {w : World} {base : Nat} {e : TypeId} {size n : Nat} {v : Value} {xs : List Value} (h : w.ownsRow base e size v n xs) (k : Nat) : (w.drewN k).ownsRow base e size v n xs := h

/-- the iterator in block g moves to p -/
def setIter (w : World) (g : Nat) (s : ByteArray) (p : Nat) : World := { w with heap := w.heap.setIfInBounds g (.stringIter s p) }
section
variable {P : Program} {w : World} {g : Nat} {s : ByteArray} {p : Nat}
theorem run_next_at (ty : TypeId) (hg : w.heap[g]? = some (.stringIter s p)) (h : p < s.size) :
    (Instr.next (.pointer (some ⟨g, 0, none⟩)) true ty).run P w =
      .ok (.tuple #[.bool true, .int .i64 p, .int .i32 (Utf8.decode s p).1]) (setIter w g s (p + (Utf8.decode s p).2)) := by
  simp only [Instr.next, getObj, setObj, Sem.run_bind, Sem.run, hg, Result.andThen, h, if_true]
  simp [goInt, setIter]
theorem run_next_over (ty : TypeId) (hg : w.heap[g]? = some (.stringIter s p)) (h : ¬ p < s.size) :
    (Instr.next (.pointer (some ⟨g, 0, none⟩)) true ty).run P w = .ok (.tuple #[.bool false]) w := by
  simp [Instr.next, getObj, Sem.run, hg, h]
theorem setIter_get (q : Nat) (hg : w.heap[g]? = some (.stringIter s p)) : (setIter w g s q).heap[g]? = some (.stringIter s q) := by
  have : g < w.heap.size := (Array.getElem?_eq_some_iff.1 hg).1
  simp [setIter, this]
theorem setIter_size (q : Nat) : (setIter w g s q).heap.size = w.heap.size := by simp [setIter]
theorem setIter_far (q k : Nat) (h : k ≠ g) : (setIter w g s q).heap[k]? = w.heap[k]? := by
  simp [setIter, Array.getElem?_setIfInBounds]; intro e; exact absurd e.symm h
theorem below_setIter {B : Nat} {a : World} (h : Below B a w) (hB : B ≤ g) (q : Nat) : Below B a (setIter w g s q) :=
  h.trans ⟨rfl, rfl, rfl, by simp [setIter], fun k hk => setIter_far q k (by omega)⟩
theorem own_setIter {base : Nat} {e : TypeId} {size n : Nat} {v : Value} {xs : List Value} (h : w.ownsRow base e size v n xs) (hg : w.heap[g]? = some (.stringIter s p)) (q : Nat) :
    (setIter w g s q).ownsRow base e size v n xs := by
  refine ⟨h.1, ?_⟩
  rcases h.2 with h2 | ⟨g', cap, cur, hv, hb, hh, hr⟩
  · exact .inl h2
  · refine .inr ⟨g', cap, cur, hv, hb, ?_, hr⟩
    rw [setIter_far]
    · exact hh
    · rintro rfl; rw [hh] at hg; cases hg
theorem own_ne_iter {base : Nat} {e : TypeId} {size n : Nat} {v : Value} {xs : List Value} (h : w.ownsRow base e size v n xs) (hg : w.heap[g]? = some (.stringIter s p)) : some g ≠ v.ownBlock := by
  rcases h.2 with ⟨rfl, _⟩ | ⟨g', cap, cur, rfl, _, hh, _⟩
  · simp [Value.ownBlock]
  · intro he
    have : g = g' := by simpa [Value.ownBlock] using he
    subst this; rw [hh] at hg; cases hg
theorem iter_new (w : World) (s : ByteArray) (p : Nat) : (w.iter s p).heap[w.heap.size]? = some (.stringIter s p) := World.iter_heap w s p
theorem below_iter {B : Nat} {a : World} (h : Below B a w) (hB : B ≤ w.heap.size) (s : ByteArray) (q : Nat) : Below B a (w.iter s q) := h.alloc hB _
end

/-- two drawn strings -/
theorem decode_width (s : ByteArray) (a : Nat) (ha : a < s.size) : 1 ≤ (Utf8.decode s a).2 ∧ a + (Utf8.decode s a).2 ≤ s.size := by
  simp only [Utf8.decode]
  repeat' split
  all_goals (first | (constructor <;> simp_all <;> omega) | (simp_all; omega) | skip)
end Go.Proofs.Ytcmnjoepadjioaa
