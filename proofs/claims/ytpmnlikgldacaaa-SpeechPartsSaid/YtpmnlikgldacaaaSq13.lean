/- Texts that the proof rests on, part 13: what each holds stands at its head. -/
import Derived.Test.YtpmnlikgldacaaaSq12

/- Reading parts: the reader's steps. -/
namespace Go.Proofs.Ytpmnlikgldacaaa
open Go.RowKit Go.Maps
theorem loop_toList (b : ByteArray) : ∀ (n i : Nat) (acc : List UInt8), b.size - i = n → ByteArray.toList.loop b i acc = acc.reverse ++ b.data.toList.drop i := by
  intro n
  induction n with
  | zero =>
    intro i acc h
    rw [ByteArray.toList.loop, if_neg (by omega), List.drop_of_length_le (by simp only [Array.length_toList]; show b.data.size ≤ i; have : b.size = b.data.size := rfl; omega), List.append_nil]
  | succ n ih =>
    intro i acc h
    have hi : i < b.data.size := by have : b.size = b.data.size := rfl; omega
    rw [ByteArray.toList.loop, if_pos (by omega), ih (i + 1) _ (by omega), List.reverse_cons, List.append_assoc, List.drop_eq_getElem_cons (i := i) (l := b.data.toList) (by rw [Array.length_toList]; exact hi)]
    congr 1
    simp only [List.singleton_append, List.cons.injEq, and_true]
    show b.data[i]! = _
    rw [getElem!_pos b.data i hi, Array.getElem_toList]
theorem mkB_toList (l : List UInt8) : (mkB l).toList = l := by
  show ByteArray.toList.loop (mkB l) 0 [] = l
  rw [loop_toList _ _ 0 [] rfl]
  simp [mkB]
theorem mkB_get (l : List UInt8) (i : Nat) : (mkB l)[i]? = l[i]? := by
  by_cases h : i < l.length
  · rw [getElem?_pos (mkB l) i (by rw [mkB_size]; exact h), List.getElem?_eq_getElem h]
    rfl
  · rw [getElem?_neg (mkB l) i (by rw [mkB_size]; exact h), List.getElem?_eq_none (by omega)]
theorem mkB_drop (l : List UInt8) (n : Nat) : (mkB l).extract n (mkB l).size = mkB (l.drop n) := by
  apply ByteArray.ext
  rw [ByteArray.data_extract]
  apply Array.ext'
  rw [Array.toList_extract, mkB_size]
  simp [mkB, List.take_of_length_le]
theorem mkB_drop1 (c : UInt8) (l : List UInt8) : (mkB (c :: l)).extract 1 (l.length + 1) = mkB l := by
  have h := mkB_drop (c :: l) 1
  rw [mkB_size] at h
  exact h
theorem mk_nil : ({ data := #[] } : ByteArray) = mkB [] := rfl
theorem mkB_of (s : ByteArray) : s = mkB s.data.toList := by
  unfold mkB
  apply ByteArray.ext
  simp
/-- the reader stands elsewhere, all else is as it was -/
def RdK (r : Nat) (s : List UInt8) (H H' : AH) : Prop := H.nx ≤ H'.nx ∧ H'.get r = some (.box 82 [sv s]) ∧ ∀ j, j ≠ r → j < H.nx → H'.get j = H.get j
theorem RdK.trans {r : Nat} {s t : List UInt8} {H H1 H2 : AH} (h : RdK r s H H1) (k : RdK r t H1 H2) : RdK r t H H2 :=
  ⟨Nat.le_trans h.1 k.1, k.2.1, fun j hj hn => by rw [k.2.2 j hj (Nat.lt_of_lt_of_le hn h.1), h.2.2 j hj hn]⟩
def NextQ (r : Nat) (s : List UInt8) (H : AH) (v : AV) (H' : AH) : Prop := v = .p (.int .u8 ((s.headD 0).toNat : Int)) ∧ RdK r s.tail H H' ∧ ∀ j, j ≠ r → H'.get j = H.get j
theorem c_next {H : AH} {r : Nat} {s : List UInt8} (h : H.get r = some (.box 82 [sv s])) : Tri Try.prog 71 [.ptr r 0] H (NextQ r s H) := tri_wf fun hw => tri_reader_next (by
  have hrl := (hw _ _ h).1
  have h' := h
  unfold sv at h
  unfold S_reader_next
  cases s with
  | nil =>
    simp (disch := first | omega | simp) [h, mk_nil, mkB_toList]
    exact rt_refl ⟨rfl, ⟨Nat.le_refl _, h', fun _ _ _ => rfl⟩, fun _ _ => rfl⟩ (Nat.le_refl _)
  | cons c s =>
    simp (disch := first | omega | simp) [h, mk_nil, mkB_toList, mkB_get, mkB_drop1, mkB_size]
    refine ⟨by omega, ?_⟩
    refine rt_refl ⟨rfl, ⟨(by first | omega | (simp only [up_nx, put_nx]; done) | (simp only [up_nx, put_nx]; omega)), by rw [put_get]; rfl, fun j hj hn => by rw [AH.get_put_ne hj, up_get]⟩, fun j hj => by rw [AH.get_put_ne hj, up_get]⟩ (by first | omega | (simp only [up_nx, put_nx]; done) | (simp only [up_nx, put_nx]; omega)))
theorem let_eq (c : UInt8) : isLet c = true ↔ (97 : Int) ≤ (c.toNat : Int) ∧ (c.toNat : Int) ≤ 106 := by
  unfold isLet
  rw [decide_eq_true_iff]
  omega
theorem u8_eq (c d : UInt8) : ((c.toNat : Int) = (d.toNat : Int)) ↔ c = d := by
  constructor
  · intro h
    exact UInt8.toNat_inj.1 (by omega)
  · rintro rfl; rfl
def PartQ (n r : Nat) (s : List UInt8) (H : AH) (v : AV) (H' : AH) : Prop := v = .tup [(rdP n s).1.av, bv (rdP n s).2.1] ∧ RdK r (rdP n s).2.2 H H'
theorem ty0_av (k n : Int) : (⟨k, n, []⟩ : Ty).av = .agg [.p (.int .i64 k), .p (.int .i64 n), .dsl 3 []] := by unfold Ty.av; rw [Ty.cs]; rfl
theorem ty2_av (k n : Int) (a b : Ty) : (⟨k, n, [a, b]⟩ : Ty).av = .agg [.p (.int .i64 k), .p (.int .i64 n), .dsl 3 [a.cs, b.cs]] := by unfold Ty.av; rw [Ty.cs, Ty.css_map]; rfl
/-- a part without kids is given back -/
theorem rt_ty0 {P : Program} {B : Nat} {Q : AV → AH → Prop} {H1 : AH} {k n : Int} {b : Bool} (hb : B ≤ H1.nx) (hq : Q (.tup [(⟨k, n, []⟩ : Ty).av, bv b]) H1) : Rt P B (.tup [.agg [.p (.int .i64 k), .p (.int .i64 n), .p (.slice none 0 0)], .p (.bool b)]) Q H1 := by
  refine Gh.step (GW.sub (.cons (Sub.tup (.cons (Sub.agg (.cons (.refl _) (.cons (.refl _) (.cons (Sub.nil 3 0 (Nat.zero_le _)) .nil)))) (.cons (.refl _) .nil))) .nil) hb) ?_
  rw [ty0_av] at hq
  exact rt_refl hq hb
/-- a part with two kids in a row of its own is given back -/
theorem rt_ty2 {P : Program} {B : Nat} {Q : AV → AH → Prop} {H1 : AH} {k n : Int} {x y : Ty} {q : Nat} {b : Bool} (hb : B ≤ H1.nx) (hg : H1.get q = some (.row 24 3 [x.cs, y.cs])) (hq : Q (.tup [(⟨k, n, [x, y]⟩ : Ty).av, bv b]) (H1.put q (.frz 3 [x.cs, y.cs]))) : Rt P B (.tup [.agg [.p (.int .i64 k), .p (.int .i64 n), .osl q 3 0 2], .p (.bool b)]) Q H1 := by
  have hd : DtR [x.cs, y.cs] := by have := dt_ty [x, y]; simpa using this
  refine Gh.step (GW.st (.freeze hg hd) hb) (Gh.step (GW.sub (.cons (Sub.tup (.cons (Sub.agg (.cons (.refl _) (.cons (.refl _) (.cons (Sub.frz (es := [x.cs, y.cs]) (off := 0) (n := 2) (put_get _ _) (Nat.le_refl _)) .nil)))) (.cons (.refl _) .nil))) .nil) (by simp only [put_nx]; exact hb)) ?_)
  rw [ty2_av] at hq
  exact rt_refl hq (by simp only [put_nx]; exact hb)
def rdB (n : Nat) (c : UInt8) (r : List UInt8) : Ty × Bool × List UInt8 :=
    bif isLet c then (⟨1, (c.toNat : Int) - 97, []⟩, true, r)
    else bif c == 40 then
      (bif (rdP n r).2.1 then
        (bif (rdP n r).2.2.headD 0 == 47 || (rdP n r).2.2.headD 0 == 92 then
          (⟨bif (rdP n r).2.2.headD 0 == 92 then 3 else 2, 0, [(rdP n r).1, (rdP n (rdP n r).2.2.tail).1]⟩,
            (rdP n (rdP n r).2.2.tail).2.1 && ((rdP n (rdP n r).2.2.tail).2.2.headD 0 == 41),
            bif (rdP n (rdP n r).2.2.tail).2.1 then (rdP n (rdP n r).2.2.tail).2.2.tail else (rdP n (rdP n r).2.2.tail).2.2)
        else (zT, false, (rdP n r).2.2.tail))
      else (zT, false, (rdP n r).2.2))
    else (zT, false, r)
theorem rdP_cons (n : Nat) (c : UInt8) (r : List UInt8) : rdP (n + 1) (c :: r) = rdB n c r := by
  rw [rdP, rdB]
  cases hl : isLet c with
  | true => rfl
  | false =>
    rw [if_neg (by decide), cond_false]
    by_cases h40 : c = 40
    case neg => rw [if_neg h40, show (c == 40) = false from by simp [h40], cond_false]
    rw [if_pos h40, show (c == 40) = true from by simp [h40], cond_true]
    obtain ⟨⟨P, ok, t⟩, hp⟩ : ∃ x, rdP n r = x := ⟨_, rfl⟩
    rw [hp]
    cases ok with
    | false => rfl
    | true =>
      dsimp only
      rw [if_pos rfl, cond_true]
      cases t with
      | nil => rfl
      | cons d r2 =>
        dsimp only [List.headD_cons, List.tail_cons]
        by_cases hd : d = 47 ∨ d = 92
        case neg =>
          rw [if_neg hd, show (d == 47 || d == 92) = false from by simp at hd ⊢; exact hd, cond_false]
        rw [if_pos hd, show (d == 47 || d == 92) = true from by simp; exact hd, cond_true]
        have hk : (if d = 92 then (3 : Int) else 2) = bif d == 92 then 3 else 2 := by
          by_cases q : d = 92
          · rw [if_pos q, show (d == 92) = true from by simp [q]]; rfl
          · rw [if_neg q, show (d == 92) = false from by simp [q]]; rfl
        rw [hk]
        obtain ⟨⟨P2, ok2, t2⟩, hp2⟩ : ∃ x, rdP n r2 = x := ⟨_, rfl⟩
        rw [hp2]
        cases ok2 with
        | false => rfl
        | true =>
          dsimp only
          rw [if_pos rfl, cond_true]
          cases t2 with
          | nil => rfl
          | cons e r4 =>
            by_cases q : e = 41 <;> simp [q]
theorem rdP_head (n : Nat) (s : List UInt8) : rdP (n + 1) s = rdB n (s.headD 0) s.tail := by
  cases s with
  | nil => rfl
  | cons c r => exact rdP_cons n c r
theorem tk3 (t : Ty) (z : List AV) : List.take 3 (t.cs ++ z) = t.cs := by
  rw [List.take_append_of_le_length (by rw [Ty.cs_len]; omega), Ty.cs_take]
theorem td3 (t s : Ty) (z : List AV) : List.take 3 (List.drop 3 (t.cs ++ (s.cs ++ z))) = s.cs := by
  rw [List.drop_append_of_le_length (by rw [Ty.cs_len]; omega), List.drop_of_length_le (by rw [Ty.cs_len]; omega), List.nil_append, tk3]
set_option maxHeartbeats 2000000 in
theorem c_part : ∀ (n : Nat) (s : List UInt8), s.length < n → ∀ (r : Nat) (H : AH), H.get r = some (.box 82 [sv s]) → Tri Try.prog 55 [.ptr r 0] H (PartQ n r s H)
  | 0, s, h, _, _, _ => by omega
  | n + 1, s, hn, r, H, hr => tri_wf fun hw => tri_reader_part (by
    have hml : maxLen = 9223372036854775807 := by decide
    have hrl := (hw _ _ hr).1
    unfold S_reader_part
    simp (disch := first | omega | simp)
    refine ca_wf (by kernel_rfl) (c_next (s := s) (by rw [AH.get_put_ne (by omega), up_get]; exact hr)) ?_
    rintro _ H1 hw1 ⟨rfl, hk1, _⟩
    have hk1' : RdK r s.tail H H1 := ⟨by have := hk1.1; simp only [put_nx, up_nx] at this; omega, hk1.2.1, fun j hj hjn => by rw [hk1.2.2 j hj (by simp only [put_nx, up_nx]; omega), AH.get_put_ne (by omega), up_get]⟩
    have hb1 : H1.get H.nx = some (.box 24 [.p (.int .i64 0), .p (.int .i64 0), .p (.slice none 0 0)]) := by rw [hk1.2.2 _ (by omega) (by simp only [put_nx, up_nx]; omega), put_get]
    have hn1 : H.nx + 2 ≤ H1.nx := hk1.1
    clear hk1
    have hQ : ∀ v u M, RdK r u H M → rdP (n + 1) s = (v, true, u) ∨ rdP (n + 1) s = (v, false, u) → PartQ (n + 1) r s H (.tup [v.av, bv (rdP (n + 1) s).2.1]) M := fun v u M hM h => by
      rcases h with h | h <;> (unfold PartQ; rw [h]; exact ⟨rfl, hM⟩)
    have hhead := rdP_head n s
    unfold rdB at hhead
    generalize hc : s.headD 0 = c at hhead ⊢
    have hcl : c.toNat < 256 := c.toNat_lt
    have hpost : ∀ (m : Nat) (z : AO) (u : List UInt8) (M : AH), RdK r u H M → H.nx ≠ r → RdK r u H ((M.up m).put H.nx z) := fun m z u M h hne => ⟨by have := h.1; simp only [put_nx, up_nx]; omega, by rw [AH.get_put_ne (Ne.symm hne), up_get]; exact h.2.1, fun j hj hjn => by rw [AH.get_put_ne (by omega), up_get]; exact h.2.2 j hj hjn⟩
    have hne : H.nx ≠ r := by omega
    by_cases hl : isLet c = true
    · rw [hl, cond_true] at hhead
      obtain ⟨l1, l2⟩ := (let_eq c).1 hl
      have w1 : IntKind.u8.wrap ((c.toNat : Int) - 97) = (c.toNat : Int) - 97 := by rw [IntKind.wrap_u8]; omega
      have w2 : IntKind.i64.wrap ((c.toNat : Int) - 97) = (c.toNat : Int) - 97 := wrapI (by omega) (by omega)
      simp (disch := first | omega | simp) [l1, l2, w1, w2, hb1]
      refine rt_ty0 (by first | omega | (simp only [up_nx, put_nx]; done) | (simp only [up_nx, put_nx]; omega)) ?_
      have := hQ _ _ _ (hpost 6 (.box 24 [.p (.int .i64 1), .p (.int .i64 ((c.toNat : Int) - 97)), .p (.slice none 0 0)]) _ _ hk1' hne) (.inl hhead)
      rw [hhead] at this
      exact this
    rw [show isLet c = false from by simpa using hl, cond_false] at hhead
    have hl2 : ¬ ((97 : Int) ≤ (c.toNat : Int) ∧ (c.toNat : Int) ≤ 106) := fun h => hl ((let_eq c).2 h)
    have hred : ∀ (X Y : AH → Prop), Y H1 → (Pu Try.prog (.bin .geq 5) [.p (.int .u8 c.toNat), .p (.int .u8 97)] (fun v12 =>
      Gd v12 true (fun k => k (.p (.int .u8 c.toNat))) fun v14 =>
        Gd v12 true (fun k_8 => Pu Try.prog (.bin .leq 5) [v14, .p (.int .u8 106)] k_8) fun v15 =>
          Pu Try.prog .pick [v12, v15, .p (.bool false)] fun v16 => CdA v16 X Y) H1) := fun X Y hY => by
      by_cases h1 : (97 : Int) ≤ (c.toNat : Int)
      · have h2 : ¬ (c.toNat : Int) ≤ 106 := fun h => hl2 ⟨h1, h⟩
        simp (disch := first | omega | simp) [h1, h2]
        exact hY
      · simp (disch := first | omega | simp) [h1]
        exact hY
    refine hred _ _ ?_
    by_cases h40 : c = 40
    case neg =>
      rw [show (c == 40) = false from by simp [h40], cond_false] at hhead
      have h40' : ¬ (c.toNat : Int) = 40 := fun h => h40 ((u8_eq c 40).1 h)
      simp (disch := first | omega | simp) [h40', hb1]
      refine rt_ty0 (by first | omega | (simp only [up_nx, put_nx]; done) | (simp only [up_nx, put_nx]; omega)) ?_
      have := hQ zT _ _ (hpost 3 (.box 24 [.p (.int .i64 0), .p (.int .i64 0), .p (.slice none 0 0)]) _ _ hk1' hne) (.inr hhead)
      rw [hhead] at this
      exact this
    rw [show (c == 40) = true from by simp [h40], cond_true] at hhead
    have h40' : (c.toNat : Int) = 40 := (u8_eq c 40).2 h40
    simp (disch := first | omega | simp) [h40']
    unfold S_reader_part_C2
    simp (disch := first | omega | simp) []
    have hlen := rdP_len n s.tail
    have hsl : s.tail.length < n := by
      cases s with
      | nil => have : c = 0 := by rw [← hc]; rfl
               rw [this] at h40; exact absurd h40 (by decide)
      | cons _ _ => simp only [List.length_cons] at hn; simp only [List.tail_cons]; omega
    refine ca_wf (by kernel_rfl) (c_part n s.tail hsl r _ (by rw [up_get]; exact hk1'.2.1)) ?_
    rintro _ H2 hw2 ⟨rfl, hk2⟩
    obtain ⟨⟨A, ok, u⟩, hA⟩ : ∃ x, rdP n s.tail = x := ⟨_, rfl⟩
    rw [hA] at hhead hk2 hlen ⊢
    dsimp only at hhead hk2 hlen ⊢
    have hn2 : H1.nx + 8 ≤ H2.nx := hk2.1
    have hk2' : RdK r u H H2 := hk1'.trans ⟨by omega, hk2.2.1, fun j hj hjn => hk2.2.2 j hj (by simp only [up_nx]; omega)⟩
    have hb2 : H2.get H.nx = some (.box 24 [.p (.int .i64 0), .p (.int .i64 0), .p (.slice none 0 0)]) := by rw [hk2.2.2 _ hne (by simp only [up_nx]; omega), up_get]; exact hb1
    have hAv : A.av = .agg A.cs := rfl
    have hrk : r ≠ H1.nx + 5 := by omega
    have hnk : H.nx ≠ H1.nx + 5 := by omega
    rw [hAv]
    simp (disch := first | omega | simp) [Ty.cs_len]
    generalize hMe : AH.put _ (H1.nx + 5) _ = M
    have hMn : M.nx = H2.nx := by rw [← hMe]; rfl
    have hMk : ∀ j, j ≠ H1.nx + 5 → M.get j = H2.get j := fun j hj => by rw [← hMe, AH.get_put_ne hj, AH.get_put_ne hj]
    have hMA : M.get (H1.nx + 5) = some (.box 24 A.cs) := by
      rw [← hMe, put_get]
    have hMw : WF M := by
      rw [← hMe]
      refine (hw2.box (by omega) (by repeat (first | exact Cl.p _ | exact Cl.dsl _ _ | exact Cl.any | refine Cl.tup ?_ | refine Cl.agg ?_ | exact Clo.nil | refine Clo.cons ?_ ?_))).box (by simp only [put_nx]; omega) ?_
      rw [Ty.cs_eq]
      exact (by repeat (first | exact Cl.p _ | exact Cl.dsl _ _ | exact Cl.any | refine Cl.tup ?_ | refine Cl.agg ?_ | exact Clo.nil | refine Clo.cons ?_ ?_))
    clear hMe
    have hkM : RdK r u H M := ⟨by have := hk2'.1; omega, by rw [hMk _ hrk]; exact hk2'.2.1, fun j hj hjn => by rw [hMk j (by omega)]; exact hk2'.2.2 j hj hjn⟩
    have hbM : M.get H.nx = _ := (hMk _ hnk).trans hb2
    cases ok with
    | false =>
      rw [cond_false] at hhead
      simp (disch := first | omega | simp) [bv, hbM]
      refine rt_ty0 (by first | omega | (simp only [up_nx, put_nx]; done) | (simp only [up_nx, put_nx]; omega)) ?_
      have := hQ zT _ _ (hpost 3 (.box 24 [.p (.int .i64 0), .p (.int .i64 0), .p (.slice none 0 0)]) _ _ hkM hne) (.inr hhead)
      rw [hhead] at this
      exact this
    | true =>
    rw [cond_true] at hhead
    obtain ⟨d, hdd⟩ : ∃ d, u.headD 0 = d := ⟨_, rfl⟩
    rw [hdd] at hhead
    simp (disch := first | omega | simp) [bv]
    obtain ⟨p, hp⟩ : ∃ p, p = M.nx + 1 := ⟨_, rfl⟩
    obtain ⟨q, hq⟩ : ∃ q, q = H1.nx + 5 := ⟨_, rfl⟩
    rw [← hq] at hMA hMk hrk hnk
    rw [← hp, ← hq]
    generalize hMe : AH.put _ p _ = M3
    have hM3n : M3.nx = M.nx + 3 := by rw [← hMe]; rfl
    have hM3k : ∀ j, j < M.nx → M3.get j = M.get j := fun j hj => by rw [← hMe, AH.get_put_ne (by omega), AH.get_put_ne (by omega), up_get]
    have hM3p : M3.get p = some (.box 24 [.p (.int .i64 2), .p (.int .i64 0), .p (.slice none 0 0)]) := by rw [← hMe, put_get]
    have hM3w : WF M3 := by rw [← hMe]; exact ((hMw.up 3).box (by simp only [up_nx]; omega) (by repeat (first | exact Cl.p _ | exact Cl.dsl _ _ | exact Cl.any | refine Cl.tup ?_ | refine Cl.agg ?_ | exact Clo.nil | refine Clo.cons ?_ ?_))).box (by simp only [up_nx, put_nx]; omega) (by repeat (first | exact Cl.p _ | exact Cl.dsl _ _ | exact Cl.any | refine Cl.tup ?_ | refine Cl.agg ?_ | exact Clo.nil | refine Clo.cons ?_ ?_))
    clear hMe
    have hkM3 : RdK r u H M3 := ⟨by have := hkM.1; omega, by rw [hM3k _ (by omega)]; exact hkM.2.1, fun j hj hjn => by rw [hM3k j (by omega)]; exact hkM.2.2 j hj hjn⟩
    have hbM3 : M3.get H.nx = _ := (hM3k _ (by omega)).trans hbM
    have hAM3 : M3.get q = _ := (hM3k _ (by omega)).trans hMA
    refine cut_wf (fun _ : Unit => []) (fun _ H' => (d = 47 ∨ d = 92) ∧ M3.nx ≤ H'.nx ∧ RdK r u.tail H H' ∧ H'.get H.nx = some (.box 24 [.p (.int .i64 0), .p (.int .i64 0), .p (.slice none 0 0)]) ∧ H'.get q = some (.box 24 A.cs) ∧
      H'.get p = some (.box 24 [iv (bif d == 92 then 3 else 2), .p (.int .i64 0), .p (.slice none 0 0)])) (fun kk hkk => ?_) ?_
    · refine ca_wf (by kernel_rfl) (c_next hkM3.2.1) ?_
      rintro _ H4 hw4 ⟨rfl, hk4, _⟩
      rw [hdd]
      have hk4' := hkM3.trans hk4
      have hn4 := hk4.1
      have hb4 : H4.get H.nx = _ := (hk4.2.2 _ hne (by omega)).trans hbM3
      have hq4 : H4.get q = _ := (hk4.2.2 _ (by omega) (by omega)).trans hAM3
      have hp4 : H4.get p = _ := (hk4.2.2 _ (by omega) (by omega)).trans hM3p
      by_cases h47 : d = 47
      · have h1 : ((d).toNat : Int) = 47 := (u8_eq _ 47).2 h47
        simp (disch := first | omega | simp) [h1]
        exact hkk () _ _ _ (.refl (by omega)) ⟨.inl h47, hn4, hk4', hb4, hq4, by rw [h47]; exact hp4⟩
      · have h1 : ¬ ((d).toNat : Int) = 47 := fun h => h47 ((u8_eq _ 47).1 h)
        by_cases h92 : d = 92
        · have h2 : ((d).toNat : Int) = 92 := (u8_eq _ 92).2 h92
          simp (disch := first | omega | simp) [h2, hp4]
          refine hkk () _ _ _ (.refl (by first | omega | (simp only [up_nx, put_nx]; done) | (simp only [up_nx, put_nx]; omega))) ⟨.inr h92, (by first | omega | (simp only [up_nx, put_nx]; done) | (simp only [up_nx, put_nx]; omega)), ⟨by have := hk4'.1; simp only [put_nx, up_nx]; omega, by rw [AH.get_put_ne (by omega), up_get]; exact hk4'.2.1, fun j hj hjn => by rw [AH.get_put_ne (by omega), up_get]; exact hk4'.2.2 j hj hjn⟩, by rw [AH.get_put_ne (by omega), up_get]; exact hb4, by rw [AH.get_put_ne (by omega), up_get]; exact hq4, by rw [put_get, h92]; rfl⟩
        · have h2 : ¬ ((d).toNat : Int) = 92 := fun h => h92 ((u8_eq _ 92).1 h)
          have hor : (d == 47 || d == 92) = false := by simp [h47, h92]
          rw [hor, cond_false] at hhead
          simp (disch := first | omega | simp) [h1, h2, hb4]
          refine rt_ty0 (by first | omega | (simp only [up_nx, put_nx]; done) | (simp only [up_nx, put_nx]; omega)) ?_
          have := hQ zT _ _ (hpost 3 (.box 24 [.p (.int .i64 0), .p (.int .i64 0), .p (.slice none 0 0)]) _ _ hk4' hne) (.inr hhead)
          rw [hhead] at this
          exact this
    rintro _ H5 hn5 hw5 ⟨hd, hn5', hk5, hb5, hq5, hp5⟩
    have hor : (d == 47 || d == 92) = true := by rcases hd with h | h <;> rw [h] <;> rfl
    rw [hor, cond_true] at hhead
    generalize hkd : (bif d == 92 then (3 : Int) else 2) = kd at hhead hp5
    have hul : u.tail.length < n := by rw [List.length_tail]; omega
    unfold S_reader_part_K1
    simp (disch := first | omega | simp) []
    refine ca_wf (by kernel_rfl) (c_part n u.tail hul r _ (by rw [up_get]; exact hk5.2.1)) ?_
    rintro _ H6 hw6 ⟨rfl, hk6⟩
    obtain ⟨⟨E, ok2, v⟩, hE⟩ : ∃ x, rdP n u.tail = x := ⟨_, rfl⟩
    rw [hE] at hhead hk6 ⊢
    dsimp only at hhead hk6 ⊢
    have hn6 : H5.nx + 8 ≤ H6.nx := hk6.1
    have hk6' : RdK r v H H6 := hk5.trans ⟨by omega, hk6.2.1, fun j hj hjn => hk6.2.2 j hj (by simp only [up_nx]; omega)⟩
    have h6 : ∀ j, j ≠ r → j < H5.nx → H6.get j = H5.get j := fun j hj hjn => by rw [hk6.2.2 j hj (by simp only [up_nx]; omega), up_get]
    have hb6 := (h6 _ hne (by omega)).trans hb5
    have hq6 := (h6 _ (by omega) (by omega)).trans hq5
    have hp6 := (h6 _ (by omega) (by omega)).trans hp5
    have hEv : E.av = .agg E.cs := rfl
    rw [hEv]
    unfold iv at hp6
    simp (disch := first | omega | simp) [put_get_ne, Ty.cs_len, hq6, hp6, Ty.cs_take, tk3, td3]
    obtain ⟨w, hwd⟩ : ∃ w, w = H6.nx + 2 := ⟨_, rfl⟩
    rw [← hwd]
    generalize hMe : AH.put _ p _ = M7
    have hM7n : M7.nx = H6.nx + 5 := by rw [← hMe]; rfl
    have hM7k : ∀ j, j ≠ p → j < H5.nx → M7.get j = H6.get j := fun j hj hjn => by rw [← hMe, AH.get_put_ne hj, AH.get_put_ne (by omega), up_get, AH.get_put_ne (by omega), AH.get_put_ne (by omega)]
    have hM7p : M7.get p = some (.box 24 [.p (.int .i64 kd), .p (.int .i64 0), .osl w 3 0 2]) := by rw [← hMe, put_get]
    have hM7w : M7.get w = some (.row 24 3 [A.cs, E.cs]) := by rw [← hMe, AH.get_put_ne (by omega), put_get]
    clear hMe
    have hk7 : RdK r v H M7 := ⟨by have := hk6'.1; omega, by rw [hM7k _ (by omega) (by omega)]; exact hk6'.2.1, fun j hj hjn => by rw [hM7k j (by omega) (by omega)]; exact hk6'.2.2 j hj hjn⟩
    have hb7 : M7.get H.nx = _ := (hM7k _ (by omega) (by omega)).trans hb6
    have hfin : ∀ (b2 : Bool) (u' : List UInt8) (m : Nat) (M8 : AH), RdK r u' H M8 → M7.nx ≤ M8.nx → M8.get w = some (.row 24 3 [A.cs, E.cs]) → rdP (n + 1) s = (⟨kd, 0, [A, E]⟩, b2, u') → Rt Try.prog H.nx (.tup [.agg [.p (.int .i64 kd), .p (.int .i64 0), .osl w 3 0 2], .p (.bool b2)]) (PartQ (n + 1) r s H) (M8.put H.nx (.box 24 [.p (.int .i64 kd), .p (.int .i64 0), .osl w 3 0 2])) := fun b2 u' m M8 hk8 hn8 hw8 hr8 => by
      refine rt_ty2 (x := A) (y := E) (by first | omega | (simp only [put_nx]; done) | (simp only [put_nx]; omega)) (by rw [AH.get_put_ne (by omega)]; exact hw8) ?_
      unfold PartQ
      rw [hr8]
      exact ⟨rfl, by have := hk8.1; simp only [put_nx]; omega, by rw [AH.get_put_ne (by omega), AH.get_put_ne (by omega)]; exact hk8.2.1, fun j hj hjn => by rw [AH.get_put_ne (by omega), AH.get_put_ne (by omega)]; exact hk8.2.2 j hj hjn⟩
    cases ok2 with
    | false =>
      rw [Bool.false_and, cond_false] at hhead
      refine ⟨[], ?_⟩
      simp (disch := first | omega | simp) [bv, hM7p, hb7]
      exact hfin false v 0 (M7.up 9) ⟨by have := hk7.1; simp only [up_nx]; omega, hk7.2.1, hk7.2.2⟩ (by simp only [up_nx]; omega) hM7w hhead
    | true =>
      rw [Bool.true_and, cond_true] at hhead
      refine ⟨[r], ?_⟩
      have hpr : p ≠ r := by omega
      simp (disch := first | omega | simp) [bv, hM7p, del_get_ne]
      refine cak_of (by kernel_rfl) (c_next (s := v) (by rw [up_get]; exact hk7.2.1)) ?_
      rintro _ H8 hw8 ⟨rfl, hk8, hk8a⟩
      have hk8' := hk7.trans (show RdK r v.tail M7 H8 from ⟨by have := hk8.1; simp only [up_nx] at this; omega, hk8.2.1, fun j hj hjn => by rw [hk8.2.2 j hj (by simp only [up_nx]; omega), up_get]⟩)
      have hn8 : M7.nx + 9 ≤ H8.nx := hk8.1
      refine ⟨fun j o hj => ?_, ?_⟩
      · obtain ⟨h1, h2⟩ := AH.get_del hj
        rw [hk8a j h2]; exact h1
      · have hw8' : H8.get w = _ := (hk8.2.2 w (by omega) (by simp only [up_nx]; omega)).trans hM7w
        have hb8 : H8.get H.nx = _ := (hk8.2.2 _ hne (by simp only [up_nx]; omega)).trans hb7
        obtain ⟨e, he⟩ : ∃ e, v.headD 0 = e := ⟨_, rfl⟩
        rw [he] at hhead ⊢
        by_cases h41 : e = 41
        · have h1 : (e.toNat : Int) = 41 := (u8_eq _ 41).2 h41
          simp (disch := first | omega | simp) [h1, hb8]
          exact hfin true v.tail 0 H8 hk8' (by omega) hw8' (by rw [hhead, h41]; rfl)
        · have h1 : ¬ (e.toNat : Int) = 41 := fun h => h41 ((u8_eq _ 41).1 h)
          simp (disch := first | omega | simp) [h1, hb8]
          exact hfin false v.tail 0 H8 hk8' (by omega) hw8' (by rw [hhead, show (e == 41) = false from by simp [h41]]))
end Go.Proofs.Ytpmnlikgldacaaa

/- The key of a sequent; what is wrong with one: both programs. -/
namespace Go.Proofs.Ytpmnlikgldacaaa
open Go.RowKit Go.Maps
theorem BldAt.kp {L : Nat} {H H' : AH} {b : Nat} {q : List UInt8} (h : BldAt L H b q) (hw : WF H) (hk : ∀ j, j < H.nx → H'.get j = H.get j) : BldAt L H' b q := by
  rcases h with ⟨h1, h2⟩ | ⟨r, h0, h00, hq, h1, h2⟩
  · exact .inl ⟨by rw [hk b (hw _ _ h1).1]; exact h1, h2⟩
  · exact .inr ⟨r, h0, h00, hq, by rw [hk b (hw _ _ h1).1]; exact h1, by rw [hk r (hw _ _ h2).1]; exact h2⟩
theorem le_but {H H1 H2 : AH} {L b : Nat} (hw : WF H) (hle : H.le H1) (hL : H.nx ≤ L) (hb : H.nx ≤ b) (hk : ∀ j, j < L → j ≠ b → H2.get j = H1.get j) : H.le H2 := fun id o ho => by
  have := (hw _ _ ho).1
  rw [hk id (by omega) (by omega)]; exact hle _ _ ho
def keyL (l : List Ty) (g : Ty) : List UInt8 := ((l ++ [g]).map Ty.txt).flatten
theorem txt_ne {t : Ty} (h : Good t) : t.txt ≠ [] := by
  rcases h.cases with ⟨n, rfl, _⟩ | ⟨x, y, rfl, _⟩ | ⟨y, x, rfl, _⟩
  · rw [Ty.txt_b]; simp
  · rw [Ty.txt_o]; simp
  · rw [Ty.txt_u]; simp
theorem keyTake_len {l : List Ty} (h : Goods l) (i : Nat) : (((l.take i).map Ty.txt).flatten).length ≤ 45 * i := by
  induction i with
  | zero => simp
  | succ i ih =>
    cases hx : l[i]? with
    | none =>
      rw [List.take_add_one, hx]; simp only [Option.toList_none, List.append_nil]; omega
    | some x =>
      rw [List.take_add_one, hx, Option.toList_some, List.map_append, List.flatten_append, List.length_append]
      have := (h.at_ hx).txt_len
      simp only [List.map_cons, List.map_nil, List.flatten_cons, List.flatten_nil, List.append_nil]; omega
set_option maxHeartbeats 1000000 in
theorem c_key {l : List Ty} {g : Ty} (hl : Goods l) (hg : Good g) (hn : l.length ≤ 1000) : PF Try.prog 63 [tE l, g.av] (sv (keyL l g)) := fun H => tri_wf fun hw => tri_speech_key (by
  have hml : maxLen = 9223372036854775807 := by decide
  have hlg : Goods (l ++ [g]) := hl.app (.cons hg .nil)
  have hll : (l ++ [g]).length = l.length + 1 := by simp
  unfold S_speech_key
  simp (disch := first | omega | simp) [Ty.av]
  refine car_of 24 3 (l.map Ty.cs) (by kernel_rfl) (ty_len _) (fun H2 _ => c_CloneP l (by omega)) ?_
  simp (disch := first | omega | simp) [Ty.cs_len, Ty.cs_take, put_get_ne]
  refine wrf_row rfl (by have h : H.get (H.nx + 2 + 1 + 1) = none := wf_none hw (by omega)
                         simp (disch := first | omega | simp) [put_get_ne, h]) (es := l.map Ty.cs) (by simp (disch := first | omega | simp) [put_get_ne]) (by simp) (elF_whole (t := 24) (es := [g.cs]) rfl (by simp (disch := first | omega | simp)) rfl) (by simp; omega) (by simp; omega) ?_
  have hes : ((l.map Ty.cs).drop 0).take l.length ++ [g.cs] = (l ++ [g]).map Ty.cs := by rw [List.drop_zero, List.take_of_length_le (by simp), List.map_append]; rfl
  have hm1 : l.length + [g.cs].length = (l ++ [g]).length := by simp
  rw [hm1, hes]
  unfold keyL
  generalize l ++ [g] = m at *
  generalize hM : AH.put _ _ _ = M
  have hMl : H.le M := by rw [← hM]; exact (by repeat (first | with_reducible assumption | with_reducible exact AH.le.refl _ | with_reducible apply AH.le.up | (with_reducible refine AH.le.put hw ?_ ?_; · first | omega | (simp only [up_nx, put_nx, kill_nx]; done) | (simp only [up_nx, put_nx, kill_nx]; omega)) | (with_reducible refine AH.le.kill hw ?_ ?_; · first | omega | (simp only [up_nx, put_nx, kill_nx]; done) | (simp only [up_nx, put_nx, kill_nx]; omega))))
  have hMn : M.nx = H.nx + 10 := by rw [← hM]; rfl
  have hMb : M.get (H.nx + 2) = some (.box 99 [.p (.pointer none), .p (.slice none 0 0)]) := by rw [← hM]; simp (disch := first | omega | simp) [put_get_ne, kill_get_ne]
  have hMr : M.get (H.nx + 2 + 1 + 4) = some (.row 24 3 (m.map Ty.cs)) := by rw [← hM]; simp (disch := first | omega | simp)
  clear hM
  have hmn : m.length ≤ 1001 := by omega
  simp (disch := first | omega | simp) []
  refine loop_wf (fun i : Nat => [iv i]) (fun i H' => i ≤ m.length ∧ H.le H' ∧ H.nx + 10 ≤ H'.nx ∧ BldAt (H.nx + 10) H' (H.nx + 2) (((m.take i).map Ty.txt).flatten) ∧ H'.get (H.nx + 2 + 1 + 4) = some (.row 24 3 (m.map Ty.cs))) (fun i => m.length - i) 0 (.refl (by omega)) ⟨Nat.zero_le _, hMl, by omega, .inl ⟨hMb, rfl⟩, hMr⟩ ?_
  rintro i H1 hn1 hw1 ⟨hi, hle, hnx, hbl, hr⟩ k hk
  unfold S_speech_key_L1
  have hkt := keyTake_len hlg i
  by_cases hil : i < m.length
  · obtain ⟨x, hx⟩ : ∃ x, m[i]? = some x := ⟨_, List.getElem?_eq_getElem hil⟩
    have hxg : ∀ h, m[i]'h = x := fun h => (List.getElem?_eq_some_iff.1 hx).2
    have hiv := ivn (i := i) (by omega)
    have hgx := hlg.at_ hx
    have htx := hgx.txt_len
    simp (disch := first | omega | simp) [iv, hil, hxg, hr, Ty.cs_len, Ty.cs_take]
    refine ca_pure (by kernel_rfl) (c_text x.size x (Nat.le_refl _) hgx _) ?_
    refine ca_of (by kernel_rfl) (c_WriteString (L := H.nx + 10) (b := H.nx + 2) (q := ((m.take i).map Ty.txt).flatten) (s := x.txt) (hbl.kp hw1 fun j hj => by simp (disch := first | omega | simp) [put_get_ne]) (txt_ne hgx) (by omega) (by first | omega | (simp only [up_nx, put_nx]; done) | (simp only [up_nx, put_nx]; omega)) (by omega)) ?_
    rintro _ H2 ⟨b1, b2, b3⟩
    simp only [up_nx, put_nx] at b2
    rw [q_add_i, hiv]
    refine hk (i + 1) _ _ _ (.refl (by omega)) ⟨hil, ?_, by omega, ?_, ?_⟩ (by omega)
    · refine le_but hw ?_ (by omega) (by omega) b3
      exact (by repeat (first | with_reducible assumption | with_reducible exact AH.le.refl _ | with_reducible apply AH.le.up | (with_reducible refine AH.le.put hw ?_ ?_; · first | omega | (simp only [up_nx, put_nx, kill_nx]; done) | (simp only [up_nx, put_nx, kill_nx]; omega)) | (with_reducible refine AH.le.kill hw ?_ ?_; · first | omega | (simp only [up_nx, put_nx, kill_nx]; done) | (simp only [up_nx, put_nx, kill_nx]; omega))))
    · rw [List.take_add_one, hx, Option.toList_some, List.map_append, List.flatten_append]
      simpa using b1
    · rw [b3 _ (by omega) (by omega)]
      simp (disch := first | omega | simp) [put_get_ne, hr]
  · have hie : m.take i = m := List.take_of_length_le (by omega)
    rw [hie] at hbl
    simp (disch := first | omega | simp) [iv, hil]
    refine ca_of (by kernel_rfl) (c_String hbl (by omega) (by omega)) ?_
    rintro _ H2 ⟨rfl, b2, b3⟩
    exact rt_one hw (le_but hw hle (by omega) (by omega) b3) (by repeat (first | exact Cl.p _ | exact Cl.dsl _ _ | exact Cl.any | refine Cl.tup ?_ | refine Cl.agg ?_ | exact Clo.nil | refine Clo.cons ?_ ?_)) ⟨rfl, rfl⟩)
end Go.Proofs.Ytpmnlikgldacaaa

/- What is wrong with a sequent: both programs. -/
namespace Go.Proofs.Ytpmnlikgldacaaa
open Go.RowKit Go.Maps
def chkL : List Ty → Int
  | [] => 0
  | t :: r => if t.check = 0 then chkL r else t.check
def asksV (l : List Ty) (g : Ty) : Int := if l.length = 0 ∨ 6 < l.length then 7 else if chkL (l ++ [g]) ≠ 0 then chkL (l ++ [g]) else if 10 < Ty.sls l + g.sl then 2 else 0
theorem chkL_at {l : List Ty} {i : Nat} {x : Ty} (h : l[i]? = some x) : chkL (l.drop i) = if x.check = 0 then chkL (l.drop (i + 1)) else x.check := by
  obtain ⟨h1, h2⟩ := List.getElem?_eq_some_iff.1 h
  rw [List.drop_eq_getElem_cons h1, chkL, h2]
theorem chkL_goods : ∀ {l : List Ty}, chkL l = 0 → Goods l
  | [], _ => .nil
  | t :: r, h => by
    rw [chkL] at h
    split at h
    · rename_i ht; exact .cons ht (chkL_goods h)
    · exact absurd h ‹_›
theorem Goods.sizes {l : List Ty} (h : Goods l) : Ty.sizes l ≤ 15 * l.length := by
  induction l with
  | nil => rw [Ty.sizes]; omega
  | cons t r ih =>
    have := ih h.tail
    have := h.head.size
    rw [Ty.sizes, List.length_cons]; omega
theorem asksV_ok {l : List Ty} {g : Ty} (h : asksV l g = 0) : Goods l ∧ Good g ∧ 1 ≤ l.length ∧ l.length ≤ 6 ∧ Ty.sls l + g.sl ≤ 10 := by
  unfold asksV at h
  by_cases h1 : l.length = 0 ∨ 6 < l.length
  · rw [if_pos h1] at h; exact absurd h (by decide)
  rw [if_neg h1] at h
  by_cases h2 : chkL (l ++ [g]) ≠ 0
  · rw [if_pos h2] at h; exact absurd h h2
  rw [if_neg h2] at h
  have h2 := Classical.byContradiction fun e => h2 e
  by_cases h3 : 10 < Ty.sls l + g.sl
  · rw [if_pos h3] at h; exact absurd h (by decide)
  have := chkL_goods h2
  exact ⟨this.left, this.right.head, by omega, by omega, by omega⟩
set_option maxHeartbeats 1000000 in
theorem c_asks (l : List Ty) (g : Ty) : PF Try.prog 33 [tE l, g.av] (iv (asksV l g)) := fun H => tri_wf fun hw => tri_speech_asks (by
  have hml : maxLen = 9223372036854775807 := by decide
  unfold S_speech_asks
  by_cases h1 : l.length = 0 ∨ 6 < l.length
  · have hv : asksV l g = 7 := by unfold asksV; rw [if_pos h1]
    rcases h1 with h1 | h1
    · have h2 : l.length < 1 := by omega
      simp (disch := first | omega | simp) [iv, tE, Ty.av, h1]
      exact rt_one hw (by repeat (first | with_reducible assumption | with_reducible exact AH.le.refl _ | with_reducible apply AH.le.up | (with_reducible refine AH.le.put hw ?_ ?_; · first | omega | (simp only [up_nx, put_nx, kill_nx]; done) | (simp only [up_nx, put_nx, kill_nx]; omega)) | (with_reducible refine AH.le.kill hw ?_ ?_; · first | omega | (simp only [up_nx, put_nx, kill_nx]; done) | (simp only [up_nx, put_nx, kill_nx]; omega)))) (by repeat (first | exact Cl.p _ | exact Cl.dsl _ _ | exact Cl.any | refine Cl.tup ?_ | refine Cl.agg ?_ | exact Clo.nil | refine Clo.cons ?_ ?_)) ⟨rfl, by rw [hv]⟩
    · have h2 : ¬ l.length < 1 := by omega
      have h3 : ¬ (l.length : Int) < 1 := by omega
      have h4 : (6 : Int) < l.length := by omega
      simp (disch := first | omega | simp) [iv, tE, Ty.av, h3, h4]
      exact rt_one hw (by repeat (first | with_reducible assumption | with_reducible exact AH.le.refl _ | with_reducible apply AH.le.up | (with_reducible refine AH.le.put hw ?_ ?_; · first | omega | (simp only [up_nx, put_nx, kill_nx]; done) | (simp only [up_nx, put_nx, kill_nx]; omega)) | (with_reducible refine AH.le.kill hw ?_ ?_; · first | omega | (simp only [up_nx, put_nx, kill_nx]; done) | (simp only [up_nx, put_nx, kill_nx]; omega)))) (by repeat (first | exact Cl.p _ | exact Cl.dsl _ _ | exact Cl.any | refine Cl.tup ?_ | refine Cl.agg ?_ | exact Clo.nil | refine Clo.cons ?_ ?_)) ⟨rfl, by rw [hv]⟩
  have h3 : ¬ (l.length : Int) < 1 := by omega
  have h4 : ¬ (6 : Int) < l.length := by omega
  have h5 : ¬ (l.length : Int) = 0 := by omega
  unfold tE
  simp (disch := first | omega | simp) [iv, Ty.av, h3, h4]
  refine car_of 24 3 (l.map Ty.cs) (by kernel_rfl) (ty_len _) (fun H2 _ => c_CloneP l (by omega)) ?_
  simp (disch := first | omega | simp) [Ty.cs_len, Ty.cs_take]
  refine wrf_row rfl (by have h : H.get (H.nx + 2 + 1) = none := wf_none hw (by omega)
                         simp (disch := first | omega | simp) [put_get_ne, h]) (es := l.map Ty.cs) (by simp (disch := first | omega | simp) [put_get_ne]) (by simp) (elF_whole (t := 24) (es := [g.cs]) rfl (by simp (disch := first | omega | simp)) rfl) (by simp; omega) (by simp; omega) ?_
  have hes : ((l.map Ty.cs).drop 0).take l.length ++ [g.cs] = (l ++ [g]).map Ty.cs := by rw [List.drop_zero, List.take_of_length_le (by simp), List.map_append]; rfl
  have hm1 : l.length + [g.cs].length = (l ++ [g]).length := by simp
  rw [hm1, hes]
  have hmn : (l ++ [g]).length ≤ 7 := by rw [List.length_append]; simp only [List.length_singleton]; omega
  have hav : asksV l g = if chkL (l ++ [g]) ≠ 0 then chkL (l ++ [g]) else if 10 < Ty.sls l + g.sl then 2 else 0 := by unfold asksV; rw [if_neg h1]
  have hgoods : chkL (l ++ [g]) = 0 → Goods l ∧ Good g := fun h => ⟨(chkL_goods h).left, (chkL_goods h).right.head⟩
  generalize l ++ [g] = m at *
  generalize hM : AH.put _ _ _ = M
  have hMl : H.le M := by rw [← hM]; exact (by repeat (first | with_reducible assumption | with_reducible exact AH.le.refl _ | with_reducible apply AH.le.up | (with_reducible refine AH.le.put hw ?_ ?_; · first | omega | (simp only [up_nx, put_nx, kill_nx]; done) | (simp only [up_nx, put_nx, kill_nx]; omega)) | (with_reducible refine AH.le.kill hw ?_ ?_; · first | omega | (simp only [up_nx, put_nx, kill_nx]; done) | (simp only [up_nx, put_nx, kill_nx]; omega))))
  have hMn : M.nx = H.nx + 9 := by rw [← hM]; rfl
  have hMg : M.get H.nx = some (.box 24 g.cs) := by rw [← hM]; simp (disch := first | omega | simp) [put_get_ne, kill_get_ne]
  have hMr : M.get (H.nx + 2 + 4) = some (.row 24 3 (m.map Ty.cs)) := by rw [← hM]; simp (disch := first | omega | simp)
  clear hM
  simp (disch := first | omega | simp) []
  refine loop_wf (fun i : Nat => [iv i]) (fun i H' => i ≤ m.length ∧ M.le H' ∧ M.nx ≤ H'.nx ∧ chkL m = chkL (m.drop i)) (fun i => m.length - i) 0 (.refl (by omega)) ⟨Nat.zero_le _, .refl _, Nat.le_refl _, by rw [List.drop_zero]⟩ ?_
  rintro i H1 hn1 hw1 ⟨hi, hle, hnx, hc⟩ k hk
  unfold S_speech_asks_L1
  have hr := hle _ _ hMr
  have hgg := hle _ _ hMg
  by_cases hil : i < m.length
  · obtain ⟨x, hx⟩ : ∃ x, m[i]? = some x := ⟨_, List.getElem?_eq_getElem hil⟩
    have hxg : ∀ h, m[i]'h = x := fun h => (List.getElem?_eq_some_iff.1 hx).2
    have hiv := ivn (i := i) (by omega)
    rw [chkL_at hx] at hc
    simp (disch := first | omega | simp) [iv, hil, hxg, hr, Ty.cs_len, Ty.cs_take]
    refine ca_pure (by kernel_rfl) (c_Check x _) ?_
    by_cases hx0 : x.check = 0
    · rw [if_pos hx0] at hc
      simp (disch := first | omega | simp) [iv, hx0, hiv]
      refine hk (i + 1) _ _ _ (.refl (by first | omega | (simp only [up_nx, put_nx]; done) | (simp only [up_nx, put_nx]; omega))) ⟨hil, ?_, (by first | omega | (simp only [up_nx, put_nx]; done) | (simp only [up_nx, put_nx]; omega)), hc⟩ (by omega)
      have hw := hw1
      exact hle.trans (by repeat (first | with_reducible assumption | with_reducible exact AH.le.refl _ | with_reducible apply AH.le.up | (with_reducible refine AH.le.put hw ?_ ?_; · first | omega | (simp only [up_nx, put_nx, kill_nx]; done) | (simp only [up_nx, put_nx, kill_nx]; omega)) | (with_reducible refine AH.le.kill hw ?_ ?_; · first | omega | (simp only [up_nx, put_nx, kill_nx]; done) | (simp only [up_nx, put_nx, kill_nx]; omega))))
    · rw [if_neg hx0] at hc
      simp (disch := first | omega | simp) [iv, hx0]
      refine rt_one hw ?_ (by repeat (first | exact Cl.p _ | exact Cl.dsl _ _ | exact Cl.any | refine Cl.tup ?_ | refine Cl.agg ?_ | exact Clo.nil | refine Clo.cons ?_ ?_)) ⟨rfl, by rw [hav, hc, if_pos hx0]⟩
      have hle2 := hMl.trans hle
      exact (by repeat (first | with_reducible assumption | with_reducible exact AH.le.refl _ | with_reducible apply AH.le.up | (with_reducible refine AH.le.put hw ?_ ?_; · first | omega | (simp only [up_nx, put_nx, kill_nx]; done) | (simp only [up_nx, put_nx, kill_nx]; omega)) | (with_reducible refine AH.le.kill hw ?_ ?_; · first | omega | (simp only [up_nx, put_nx, kill_nx]; done) | (simp only [up_nx, put_nx, kill_nx]; omega))))
  · have hcz : chkL m = 0 := by rw [hc, List.drop_eq_nil_iff.2 (by omega), chkL]
    obtain ⟨gl, gg⟩ := hgoods hcz
    have hsz := gl.sizes
    have hgs := gg.size
    simp (disch := first | omega | simp) [iv, hil]
    refine cav_pure (by kernel_rfl) (fun H2 _ => c_slashes l (by omega) H2) ?_
    simp (disch := first | omega | simp) [iv, hgg, Ty.cs_len, Ty.cs_take]
    refine can_frz (i := H1.nx + 3) (t := 24) (sz := 3) (es := [g.cs]) (r := iv (Ty.sls [g])) (by kernel_rfl) (by simp) (wf_none hw1 (by first | omega | (simp only [up_nx, put_nx, kill_nx]; done) | (simp only [up_nx, put_nx, kill_nx]; omega))) (by simp) (dt_ty [g]) (fun H4 hle4 => ?_) ?_
    · have hf : H4.get (H1.nx + 3) = some (.frz 3 [g.cs]) := hle4 _ _ (by simp (disch := first | omega | simp))
      exact Tri.args (.cons (Sub.frz hf (by simp)) .nil) (c_slashes [g] (by rw [Ty.sizes, Ty.sizes]; omega) H4)
    have hs1 : Ty.sls l ≤ Ty.sizes l := Ty.sls_len l
    have hs2 : Ty.sls [g] ≤ Ty.sizes [g] := Ty.sls_len [g]
    have hs3 : Ty.sizes [g] = g.size := by rw [Ty.sizes, Ty.sizes]; omega
    have hs4 : Ty.sls [g] = g.sl := by rw [Ty.sls_cons, Ty.sls_nil]; omega
    have hws : IntKind.i64.wrap ((Ty.sls l : Int) + (Ty.sls [g] : Int)) = (Ty.sls l : Int) + (Ty.sls [g] : Int) := wrapI (by omega) (by omega)
    have hle2 := hMl.trans hle
    by_cases h10 : 10 < Ty.sls l + g.sl
    · have h10' : (10 : Int) < (Ty.sls l : Int) + (Ty.sls [g] : Int) := by omega
      simp (disch := first | omega | simp) [iv, hws, h10']
      exact rt_one hw (by repeat (first | with_reducible assumption | with_reducible exact AH.le.refl _ | with_reducible apply AH.le.up | (with_reducible refine AH.le.put hw ?_ ?_; · first | omega | (simp only [up_nx, put_nx, kill_nx]; done) | (simp only [up_nx, put_nx, kill_nx]; omega)) | (with_reducible refine AH.le.kill hw ?_ ?_; · first | omega | (simp only [up_nx, put_nx, kill_nx]; done) | (simp only [up_nx, put_nx, kill_nx]; omega)))) (by repeat (first | exact Cl.p _ | exact Cl.dsl _ _ | exact Cl.any | refine Cl.tup ?_ | refine Cl.agg ?_ | exact Clo.nil | refine Clo.cons ?_ ?_)) ⟨rfl, by rw [hav, if_neg (by simp [hcz]), if_pos h10]⟩
    · have h10' : ¬ (10 : Int) < (Ty.sls l : Int) + (Ty.sls [g] : Int) := by omega
      simp (disch := first | omega | simp) [iv, hws, h10']
      exact rt_one hw (by repeat (first | with_reducible assumption | with_reducible exact AH.le.refl _ | with_reducible apply AH.le.up | (with_reducible refine AH.le.put hw ?_ ?_; · first | omega | (simp only [up_nx, put_nx, kill_nx]; done) | (simp only [up_nx, put_nx, kill_nx]; omega)) | (with_reducible refine AH.le.kill hw ?_ ?_; · first | omega | (simp only [up_nx, put_nx, kill_nx]; done) | (simp only [up_nx, put_nx, kill_nx]; omega)))) (by repeat (first | exact Cl.p _ | exact Cl.dsl _ _ | exact Cl.any | refine Cl.tup ?_ | refine Cl.agg ?_ | exact Clo.nil | refine Clo.cons ?_ ?_)) ⟨rfl, by rw [hav, if_neg (by simp [hcz]), if_neg h10]⟩)
end Go.Proofs.Ytpmnlikgldacaaa

/- No two sequents have the same key. Plain. -/
namespace Go.Proofs.Ytpmnlikgldacaaa
theorem txt_base {n : Int} (h0 : 0 ≤ n) (h9 : n ≤ 9) : (97 + n).toNat.toUInt8 ≠ 40 ∧ ∀ m : Int, 0 ≤ m → m ≤ 9 → (97 + n).toNat.toUInt8 = (97 + m).toNat.toUInt8 → n = m := by
  have hn : n = 0 ∨ n = 1 ∨ n = 2 ∨ n = 3 ∨ n = 4 ∨ n = 5 ∨ n = 6 ∨ n = 7 ∨ n = 8 ∨ n = 9 := by omega
  refine ⟨by rcases hn with rfl | rfl | rfl | rfl | rfl | rfl | rfl | rfl | rfl | rfl <;> decide, fun m m0 m9 h => ?_⟩
  have hm : m = 0 ∨ m = 1 ∨ m = 2 ∨ m = 3 ∨ m = 4 ∨ m = 5 ∨ m = 6 ∨ m = 7 ∨ m = 8 ∨ m = 9 := by omega
  rcases hn with rfl | rfl | rfl | rfl | rfl | rfl | rfl | rfl | rfl | rfl <;> rcases hm with rfl | rfl | rfl | rfl | rfl | rfl | rfl | rfl | rfl | rfl <;> first | rfl | exact absurd h (by decide)
/-- no part's text begins another one's -/
theorem txt_inj : ∀ (N : Nat) (a b : Ty) (r s : List UInt8), a.size ≤ N → Good a → Good b → a.txt ++ r = b.txt ++ s → a = b ∧ r = s
  | 0, a, _, _, _, h, _, _, _ => by have := a.size_pos; omega
  | N + 1, a, b, r, s, h, ha, hb, e => by
    rcases ha.cases with ⟨n, rfl, n0, n9⟩ | ⟨x, y, rfl, hx, hy⟩ | ⟨y, x, rfl, hy, hx⟩ <;> rcases hb.cases with ⟨m, rfl, m0, m9⟩ | ⟨x', y', rfl, hx', hy'⟩ | ⟨y', x', rfl, hy', hx'⟩
    · rw [Ty.txt_b, Ty.txt_b] at e
      simp only [List.singleton_append, List.cons.injEq] at e
      have := (txt_base n0 n9).2 m m0 m9 e.1
      subst this
      exact ⟨rfl, e.2⟩
    · rw [Ty.txt_b, Ty.txt_o] at e
      simp only [List.cons_append, List.cons.injEq] at e
      exact absurd e.1 (txt_base n0 n9).1
    · rw [Ty.txt_b, Ty.txt_u] at e
      simp only [List.cons_append, List.cons.injEq] at e
      exact absurd e.1 (txt_base n0 n9).1
    · rw [Ty.txt_b, Ty.txt_o] at e
      simp only [List.cons_append, List.cons.injEq] at e
      exact absurd e.1.symm (txt_base m0 m9).1
    · rw [Ty.size_o] at h
      rw [Ty.txt_o, Ty.txt_o] at e
      simp only [List.cons_append, List.append_assoc, List.cons.injEq, true_and] at e
      have q := txt_inj N x x' _ _ (by omega) hx hx' e
      clear e
      obtain ⟨q1, e⟩ := q
      subst q1
      simp only [List.cons.injEq, true_and] at e
      have q := txt_inj N y y' _ _ (by omega) hy hy' e
      clear e
      obtain ⟨q1, e⟩ := q
      subst q1
      simp only [List.nil_append, List.cons.injEq, true_and] at e
      exact ⟨rfl, e⟩
    · rw [Ty.size_o] at h
      rw [Ty.txt_o, Ty.txt_u] at e
      simp only [List.cons_append, List.append_assoc, List.cons.injEq, true_and] at e
      have q := txt_inj N x y' _ _ (by omega) hx hy' e
      clear e
      obtain ⟨q1, e⟩ := q
      subst q1
      simp only [List.cons.injEq] at e
      exact absurd e.1 (by decide)
    · rw [Ty.txt_b, Ty.txt_u] at e
      simp only [List.cons_append, List.cons.injEq] at e
      exact absurd e.1.symm (txt_base m0 m9).1
    · rw [Ty.size_u] at h
      rw [Ty.txt_u, Ty.txt_o] at e
      simp only [List.cons_append, List.append_assoc, List.cons.injEq, true_and] at e
      have q := txt_inj N y x' _ _ (by omega) hy hx' e
      clear e
      obtain ⟨q1, e⟩ := q
      subst q1
      simp only [List.cons.injEq] at e
      exact absurd e.1 (by decide)
    · rw [Ty.size_u] at h
      rw [Ty.txt_u, Ty.txt_u] at e
      simp only [List.cons_append, List.append_assoc, List.cons.injEq, true_and] at e
      have q := txt_inj N y y' _ _ (by omega) hy hy' e
      clear e
      obtain ⟨q1, e⟩ := q
      subst q1
      simp only [List.cons.injEq, true_and] at e
      have q := txt_inj N x x' _ _ (by omega) hx hx' e
      clear e
      obtain ⟨q1, e⟩ := q
      subst q1
      simp only [List.nil_append, List.cons.injEq, true_and] at e
      exact ⟨rfl, e⟩
theorem txt_cons {t : Ty} (h : Good t) : ∃ b r, t.txt = b :: r := by
  rcases h.cases with ⟨n, rfl, _⟩ | ⟨x, y, rfl, _⟩ | ⟨y, x, rfl, _⟩
  · exact ⟨_, _, Ty.txt_b n⟩
  · exact ⟨_, _, Ty.txt_o x y⟩
  · exact ⟨_, _, Ty.txt_u y x⟩
theorem txts_inj : ∀ {l m : List Ty}, Goods l → Goods m → (l.map Ty.txt).flatten = (m.map Ty.txt).flatten → l = m
  | [], [], _, _, _ => rfl
  | [], b :: m, _, hm, h => by
    obtain ⟨x, r, e⟩ := txt_cons hm.head
    simp [e] at h
  | a :: l, [], hl, _, h => by
    obtain ⟨x, r, e⟩ := txt_cons hl.head
    simp [e] at h
  | a :: l, b :: m, hl, hm, h => by
    rw [List.map_cons, List.map_cons, List.flatten_cons, List.flatten_cons] at h
    have q := txt_inj _ a b _ _ (Nat.le_refl _) hl.head hm.head h
    clear h
    obtain ⟨q1, h⟩ := q
    subst q1
    rw [txts_inj hl.tail hm.tail h]
theorem keyL_inj {l m : List Ty} {g z : Ty} (hl : Goods l) (hm : Goods m) (hg : Good g) (hz : Good z) (h : keyL l g = keyL m z) : l = m ∧ g = z := by
  have := txts_inj (hl.app (.cons hg .nil)) (hm.app (.cons hz .nil)) h
  have h2 := List.append_inj' this rfl
  exact ⟨h2.1, by simpa using h2.2⟩
end Go.Proofs.Ytpmnlikgldacaaa

/- The prover: what it keeps in memory; a step's two proofs. -/
namespace Go.Proofs.Ytpmnlikgldacaaa
open Go.RowKit Go.Maps
mutual
def Pf.cs : Pf → List AV
  | ⟨st, l, g, a, n, ks⟩ => [iv st, tE l, iv g.kind, iv g.num, .dsl 3 (g.kids.map Ty.cs), iv a, iv n, .dsl 8 (Pf.css ks)]
def Pf.css : List Pf → List (List AV)
  | [] => []
  | p :: r => Pf.cs p :: Pf.css r
end
theorem Pf.css_map : ∀ ks : List Pf, Pf.css ks = ks.map Pf.cs
  | [] => by rw [Pf.css]; rfl
  | p :: r => by rw [Pf.css, Pf.css_map r]; rfl
theorem Pf.cs_eq (p : Pf) : p.cs = [iv p.step, tE p.left, iv p.goal.kind, iv p.goal.num, .dsl 3 (p.goal.kids.map Ty.cs), iv p.at_, iv p.num, .dsl 8 (p.kids.map Pf.cs)] := by cases p; rw [Pf.cs, Pf.css_map]
theorem Pf.cs_len (p : Pf) : p.cs.length = 8 := by rw [Pf.cs_eq]; rfl
theorem Pf.cs_take (p : Pf) : p.cs.take 8 = p.cs := List.take_of_length_le (by rw [Pf.cs_len]; omega)
theorem Pf.cs_goal (p : Pf) : (p.cs.drop 2).take 3 = p.goal.cs := by rw [Pf.cs_eq, Ty.cs_eq]; rfl
def Pf.av (p : Pf) : AV := .agg p.cs
theorem Pf.cl (p : Pf) (B : Nat) : Clo B p.cs := by
  rw [Pf.cs_eq]; unfold tE; exact (by repeat (first | exact Cl.p _ | exact Cl.dsl _ _ | exact Cl.any | refine Cl.tup ?_ | refine Cl.agg ?_ | exact Clo.nil | refine Clo.cons ?_ ?_))
theorem dt_pf (l : List Pf) : DtR (l.map Pf.cs) := by
  intro e he a ha
  obtain ⟨c, _, rfl⟩ := List.mem_map.1 he
  rw [Pf.cs_eq] at ha
  simp only [List.mem_cons, List.not_mem_nil, or_false] at ha
  rcases ha with rfl | rfl | rfl | rfl | rfl | rfl | rfl | rfl
  · exact Dt.p _
  · exact Dt.dsl _ _
  · exact Dt.p _
  · exact Dt.p _
  · exact Dt.dsl _ _
  · exact Dt.p _
  · exact Dt.p _
  · exact Dt.dsl _ _
open Classical in
noncomputable def fD (s : Ded) : Value → Option AV := fun v => if ∃ x ∈ s, v = .string (mkB (keyL x.1 x.2)) then some (iv 1) else none
noncomputable def MO (s : Ded) : AO := .map 9 s.length (fD s)
theorem fD_cons (s : Ded) (l : List Ty) (g : Ty) : putA (fD s) (.string (mkB (keyL l g))) (iv 1) = fD ((l, g) :: s) := by
  funext v
  unfold putA
  by_cases h : v = .string (mkB (keyL l g))
  · rw [if_pos h]
    unfold fD
    rw [if_pos ⟨(l, g), by simp, h⟩]
  · rw [if_neg h]
    unfold fD
    by_cases h2 : ∃ x ∈ s, v = .string (mkB (keyL x.1 x.2))
    · rw [if_pos h2, if_pos (by obtain ⟨x, hx, e⟩ := h2; exact ⟨x, by simp [hx], e⟩)]
    · rw [if_neg h2, if_neg (fun ⟨x, hx, e⟩ => by
        rcases List.mem_cons.1 hx with rfl | hx
        · exact h e
        · exact h2 ⟨x, hx, e⟩)]
open Classical in
theorem fD_at {s : Ded} (hs : Snd s) {l : List Ty} {g : Ty} (hl : Goods l) (hg : Good g) : fD s (.string (mkB (keyL l g))) = if (l, g) ∈ s then some (iv 1) else none := by
  unfold fD
  by_cases h : (l, g) ∈ s
  · rw [if_pos h, if_pos ⟨_, h, rfl⟩]
  · rw [if_neg h, if_neg (fun ⟨x, hx, e⟩ => by
      injection e with e
      obtain ⟨_, h1, h2⟩ := hs x hx
      obtain ⟨e1, e2⟩ := keyL_inj hl h1 hg h2 (mkB_inj e)
      exact h (by rw [e1, e2]; exact hx))]
theorem MO_cl (s : Ded) (B : Nat) : ClO B (MO s) := fun k a h => by
  unfold fD at h
  split at h
  · injection h with h; subst h; exact Cl.p _
  · cases h
theorem key_some (l : List Ty) (g : Ty) (h : (keyL l g).length ≤ 9223372036854775807) : (keyOf Try.prog 9 (.string (mkB (keyL l g)))).isSome = true := by
  have hu := Try.underlying9
  have hs : (mkB (keyL l g)).size ≤ 9223372036854775807 := by rw [mkB_size]; exact h
  have hml : maxLen = 9223372036854775807 := by decide
  simp [keyOf, mapKey]
  omega
theorem keyedS : Keyed Try.prog 9 := string_keyed Try.underlying9
/-- what a proof's steps are made of is told as data; it is given back with all else as it was, but for the map -/
theorem rt_kids {H H1 : AH} {m : Nat} {o : AO} {r n : Nat} {es : List Pf} {xs : List AV} {ok : AV} {Q : AV → AH → Prop} (hw : WF (H.put m o)) (hle : (H.put m o).le H1) (hn : H.nx ≤ H1.nx) (hr : H.nx ≤ r) (hrow : H1.get r = some (.row 27 8 (es.map Pf.cs))) (hne : n = es.length)
    (hc : Clo H.nx xs) (hok : Cl H.nx ok) (hq : Q (.tup [.agg (xs ++ [.dsl 8 (es.map Pf.cs)]), ok]) (H.put m o)) : Rt Try.prog H.nx (.tup [.agg (xs ++ [.osl r 8 0 n]), ok]) Q H1 := by
  subst hne
  have hs : Sub Try.prog (H1.put r (.frz 8 (es.map Pf.cs))) (.osl r 8 0 es.length) (.dsl 8 (es.map Pf.cs)) := by
    have := Sub.frz (P := Try.prog) (H := H1.put r (.frz 8 (es.map Pf.cs))) (r := r) (off := 0) (n := es.length) (put_get _ _) (by simp)
    rw [List.drop_zero, List.take_of_length_le (by simp)] at this
    exact this
  have hxs : ∀ ys : List AV, Subs Try.prog (H1.put r (.frz 8 (es.map Pf.cs))) (ys ++ [.osl r 8 0 es.length]) (ys ++ [.dsl 8 (es.map Pf.cs)]) := fun ys => by
    induction ys with
    | nil => exact .cons hs .nil
    | cons y ys ih => exact .cons (.refl _) ih
  refine rt_row (n := 0) (H0 := H.put m o) hw hn hr hle hrow (dt_pf es) (.tup (.cons (.agg (hxs xs)) (.cons (.refl _) .nil))) (.tup (.cons (.agg fun a ha => ?_) (.cons hok .nil))) hq
  rcases List.mem_append.1 ha with ha | ha
  · exact hc a ha
  · simp at ha; subst ha; exact Cl.dsl _ _
theorem take7_set {cs : List AV} (h : cs.length = 8) (x : AV) : List.take 8 (List.take 7 cs ++ x :: List.drop 8 cs) = List.take 7 cs ++ [x] := by
  rw [List.drop_of_length_le (by omega)]
  exact List.take_of_length_le (by rw [List.length_append, List.length_take]; simp; omega)
theorem take8_app {cs : List AV} (h : cs.length = 8) (z : List AV) : List.take 8 (cs ++ z) = cs := by
  rw [List.take_append_of_le_length (by omega), List.take_of_length_le (by omega)]
theorem take8_7 {cs : List AV} (h : cs.length = 8) (x : AV) (z : List AV) : List.take 8 (List.take 7 cs ++ [x] ++ z) = List.take 7 cs ++ [x] := take8_app (by rw [List.length_append, List.length_take]; simp; omega) z
def PrAt (H : AH) (pr m : Nat) (s : Ded) : Prop := H.get pr = some (.box 63 [.mp m]) ∧ H.get m = some (MO s)
/-- what a look for a proof does in memory -/
def PrC (N : Nat) : Prop := ∀ (l : List Ty) (g : Ty) (s : Ded) (pr m : Nat) (H : AH), Goods l → Good g → Ty.sls l + g.sl < N → l.length + (Ty.sls l + g.sl) ≤ 16 → Snd s → s.length + cost (Ty.sls l + g.sl) ≤ 9000000000000000000 → PrAt H pr m s →
  Tri Try.prog 34 [.ptr pr 0, tE l, g.av] H (fun r H' => H' = H.put m (MO (proofF N l g s).2.2) ∧ r = .tup [(proofF N l g s).1.av, bv (proofF N l g s).2.1])
set_option maxHeartbeats 2000000 in
theorem c_both {N : Nat} (hP : PrC N) (p : Pf) (d : List Ty) (x : Ty) (rest : List Ty) (s : Ded) (pr m : Nat) (H : AH) (hd : Goods d) (hx : Good x) (hr : Goods rest) (hg : Good p.goal) (h1 : Ty.sls d + x.sl < N) (h2 : Ty.sls rest + p.goal.sl < N) (h3 : d.length + (Ty.sls d + x.sl) ≤ 16) (h4 : rest.length + (Ty.sls rest + p.goal.sl) ≤ 16)
    (hs : Snd s) (hc : s.length + cost (Ty.sls d + x.sl) + cost (Ty.sls rest + p.goal.sl) ≤ 9000000000000000000) (ha : PrAt H pr m s) :
    Tri Try.prog 77 [.ptr pr 0, p.av, tE d, x.av, tE rest] H (fun r H' => H' = H.put m (MO (both (proofF N) p d x rest s).2.2) ∧ r = .tup [(both (proofF N) p d x rest s).1.av, bv (both (proofF N) p d x rest s).2.1]) := tri_wf fun hw => tri_prover_both (by
  have hml : maxLen = 9223372036854775807 := by decide
  obtain ⟨ha1, ha2⟩ := ha
  have hpn := (hw _ _ ha1).1
  have hmn := (hw _ _ ha2).1
  have hpm : pr ≠ m := fun e => by subst e; rw [ha1] at ha2; cases ha2
  have hwM : ∀ s, WF (H.put m (MO s)) := fun s => hw.put hmn (MO_cl s _)
  obtain ⟨t1, t2, t3, t4⟩ := proofF_spec N d x s hd hx h1 h3 hs
  unfold S_prover_both both
  simp (disch := first | omega | simp) [Pf.av, put_get_ne, Ty.av, Ty.cs_len, Ty.cs_take]
  refine ca_of (by kernel_rfl) (hP d x s pr m _ hd hx h1 h3 hs (by omega) ⟨by simp (disch := first | omega | simp) [put_get_ne, ha1], by simp (disch := first | omega | simp) [put_get_ne, ha2]⟩) ?_
  rintro _ _ ⟨rfl, rfl⟩
  generalize proofF N d x s = a at *
  obtain ⟨a1, aok, sa⟩ := a
  dsimp only at t1 t2 t3 t4 ⊢
  simp (disch := first | omega | simp) [Pf.av, bv, Pf.cs_len, Pf.cs_take, put_get_ne]
  cases aok with
  | false =>
    simp (disch := first | omega | simp)
    exact rt_tupP (hwM sa) (by repeat (first | with_reducible assumption | with_reducible apply AH.le.up | (with_reducible refine AH.le.put (hwM _) ?_ ?_; · first | omega | (simp only [put_nx]; done) | (simp only [put_nx]; omega)) | (with_reducible refine AH.le.kill (hwM _) ?_ ?_; · first | omega | (simp only [up_nx, put_nx, kill_nx]; done) | (simp only [up_nx, put_nx, kill_nx]; omega)) | with_reducible refine le_base ?_ | (with_reducible refine AH.le.put hw ?_ ?_; · first | omega | (simp only [up_nx, put_nx, kill_nx]; done) | (simp only [up_nx, put_nx, kill_nx]; omega)) | with_reducible exact AH.le.refl _)) (.cons (.agg (Pf.cl _ _)) (.cons (Cl.p _) .nil)) ⟨rfl, rfl⟩
  | true =>
    simp (disch := first | omega | simp) [Pf.cs_goal]
    generalize hM : AH.up _ 11 = M
    have hMl : (H.put m (MO sa)).le M := by rw [← hM]; exact (by repeat (first | with_reducible assumption | with_reducible apply AH.le.up | (with_reducible refine AH.le.put (hwM _) ?_ ?_; · first | omega | (simp only [put_nx]; done) | (simp only [put_nx]; omega)) | (with_reducible refine AH.le.kill (hwM _) ?_ ?_; · first | omega | (simp only [up_nx, put_nx, kill_nx]; done) | (simp only [up_nx, put_nx, kill_nx]; omega)) | with_reducible refine le_base ?_ | (with_reducible refine AH.le.put hw ?_ ?_; · first | omega | (simp only [up_nx, put_nx, kill_nx]; done) | (simp only [up_nx, put_nx, kill_nx]; omega)) | with_reducible exact AH.le.refl _))
    have hMn : M.nx = H.nx + 25 := by rw [← hM]; rfl
    have hM0 : M.get H.nx = some (.box 27 p.cs) := by rw [← hM]; simp (disch := first | omega | simp) [put_get_ne]
    have hM2 : ∃ cs, M.get (H.nx + 2) = some (.box 27 cs) ∧ cs.length = 8 := by rw [← hM]; exact ⟨_, by simp (disch := first | omega | simp) [put_get_ne]; rfl, rfl⟩
    have hM7 : M.get (H.nx + 4 + 7) = some (.box 27 a1.cs) := by rw [← hM]; simp (disch := first | omega | simp)
    have hMp : M.get pr = some (.box 63 [.mp m]) := hMl _ _ (by rw [AH.get_put_ne hpm]; exact ha1)
    have hMm : M.get m = some (MO sa) := hMl _ _ (put_get _ _)
    clear hM
    obtain ⟨cs2, hM2, hc2⟩ := hM2
    obtain ⟨u1, u2, u3, u4⟩ := proofF_spec N rest p.goal sa hr hg h2 h4 t2
    refine ca_of (by kernel_rfl) (hP rest p.goal sa pr m _ hr hg h2 h4 t2 (by omega) ⟨hMp, hMm⟩) ?_
    rintro _ _ ⟨rfl, rfl⟩
    generalize proofF N rest p.goal sa = b at *
    obtain ⟨b1, bok, sb⟩ := b
    dsimp only at u1 u2 u3 u4 ⊢
    simp (disch := first | omega | simp) [Pf.av, bv, Pf.cs_len, Pf.cs_take, put_get_ne, hM0, hM2, hM7, hc2]
    rw [take7_set (Pf.cs_len p), take8_7 (Pf.cs_len p), take8_app (Pf.cs_len a1), take8_app (Pf.cs_len b1)]
    refine rt_kids (es := [a1, b1]) (hwM sb) ?_ (by first | omega | (simp only [up_nx, put_nx]; done) | (simp only [up_nx, put_nx]; omega)) (by omega) (by simp (disch := first | omega | simp) [put_get_ne]) rfl (fun a ha => Pf.cl p _ a (List.mem_of_mem_take ha)) (Cl.p _) ⟨rfl, ?_⟩
    · have h5 : (H.put m (MO sb)).le (M.put m (MO sb)) := le_rebase hMl
      exact (by repeat (first | with_reducible assumption | with_reducible apply AH.le.up | (with_reducible refine AH.le.put (hwM _) ?_ ?_; · first | omega | (simp only [put_nx]; done) | (simp only [put_nx]; omega)) | (with_reducible refine AH.le.kill (hwM _) ?_ ?_; · first | omega | (simp only [up_nx, put_nx, kill_nx]; done) | (simp only [up_nx, put_nx, kill_nx]; omega)) | with_reducible refine le_base ?_ | (with_reducible refine AH.le.put hw ?_ ?_; · first | omega | (simp only [up_nx, put_nx, kill_nx]; done) | (simp only [up_nx, put_nx, kill_nx]; omega)) | with_reducible exact AH.le.refl _))
    · rw [Pf.cs_eq, Pf.cs_eq]; rfl)
end Go.Proofs.Ytpmnlikgldacaaa

/- The prover: a proof, by a search and what is known. -/
namespace Go.Proofs.Ytpmnlikgldacaaa
open Go.RowKit Go.Maps
/-- what a search does in memory -/
def SrC (N : Nat) : Prop := ∀ (l : List Ty) (g : Ty) (s : Ded) (pr m : Nat) (H : AH), Goods l → Good g → l ≠ [] → Ty.sls l + g.sl ≤ N → l.length + (Ty.sls l + g.sl) ≤ 16 → Snd s → s.length + cost (Ty.sls l + g.sl) ≤ 9000000000000000000 → PrAt H pr m s →
  Tri Try.prog 64 [.ptr pr 0, tE l, g.av] H (fun r H' => H' = H.put m (MO (searchF (proofF N) l g s).2.2) ∧ r = .tup [(searchF (proofF N) l g s).1.av, bv (searchF (proofF N) l g s).2.1])
theorem zero_cs : zeroP.cs = [iv 0, .dsl 3 [], iv 0, iv 0, .dsl 3 [], iv 0, iv 0, .dsl 8 []] := by rw [Pf.cs_eq]; rfl
theorem sub_zero {H : AH} {ok : AV} : Sub Try.prog H (.tup [.agg [.p (.int .i64 0), .p (.slice none 0 0), .p (.int .i64 0), .p (.int .i64 0), .p (.slice none 0 0), .p (.int .i64 0), .p (.int .i64 0), .p (.slice none 0 0)], ok]) (.tup [zeroP.av, ok]) := by
  unfold Pf.av
  rw [zero_cs]
  exact .tup (.cons (.agg (.cons (.refl _) (.cons (Sub.nil 3 0 (Nat.zero_le _)) (.cons (.refl _) (.cons (.refl _) (.cons (Sub.nil 3 0 (Nat.zero_le _)) (.cons (.refl _) (.cons (.refl _) (.cons (Sub.nil 8 0 (Nat.zero_le _)) .nil))))))))) (.cons (.refl _) .nil))
theorem rt_zero {H H1 : AH} {Q : AV → AH → Prop} {b : Bool} (hw : WF H) (hle : H.le H1) (hn : H.nx ≤ H1.nx) (hq : Q (.tup [zeroP.av, bv b]) H) : Rt Try.prog H.nx (.tup [.agg [.p (.int .i64 0), .p (.slice none 0 0), .p (.int .i64 0), .p (.int .i64 0), .p (.slice none 0 0), .p (.int .i64 0), .p (.int .i64 0), .p (.slice none 0 0)], .p (.bool b)]) Q H1 :=
  rt_sub hw hle hn sub_zero (.tup (.cons (.agg (Pf.cl _ _)) (.cons (Cl.p _) .nil))) hq
theorem le_same {H H1 : AH} {m : Nat} {o : AO} (hle : H.le H1) (h : H1.get m = some o) : (H.put m o).le H1 := fun j o' hj => by
  by_cases e : j = m
  · subst e; rw [AH.get_put_self] at hj; injection hj with hj; subst hj; exact h
  · rw [AH.get_put_ne e] at hj; exact hle j o' hj
theorem rt_zeroP {H H1 : AH} {m : Nat} {o : AO} {Q : AV → AH → Prop} {b : Bool} (hw : WF (H.put m o)) (hle : (H.put m o).le H1) (hn : H.nx ≤ H1.nx) (hq : Q (.tup [zeroP.av, bv b]) (H.put m o)) : Rt Try.prog H.nx (.tup [.agg [.p (.int .i64 0), .p (.slice none 0 0), .p (.int .i64 0), .p (.int .i64 0), .p (.slice none 0 0), .p (.int .i64 0), .p (.int .i64 0), .p (.slice none 0 0)], .p (.bool b)]) Q H1 :=
  rt_zero (H := H.put m o) hw hle hn hq
theorem mset_MO {P : Program} {i : Nat} {key a : AV} {H : AH} {k : AH → Prop} {s : Ded} : msetF P 9 i key a H k (some (MO s)) = (9 = 9 ∧ Keyed P 9 ∧ onSome key.val (fun u => (keyOf P 9 u).isSome = true ∧ s.length < maxLen ∧ k (H.put i (.map 9 (s.length + 1) (putA (fD s) u a))))) := rfl
set_option maxHeartbeats 2000000 in
theorem proof_of {N : Nat} (hS : SrC N) : PrC (N + 1) := by
  intro l g s pr m H hl hg hN hK hs hc ha
  refine tri_wf fun hw => tri_prover_proof ?_
  have hml : maxLen = 9223372036854775807 := by decide
  obtain ⟨ha1, ha2⟩ := ha
  have hpn := (hw _ _ ha1).1
  have hmn := (hw _ _ ha2).1
  have hpm : pr ≠ m := fun e => by subst e; rw [ha1] at ha2; cases ha2
  have hwM : ∀ s, WF (H.put m (MO s)) := fun s => hw.put hmn (MO_cl s _)
  unfold S_prover_proof
  rw [proofF]
  by_cases h0 : l = []
  · subst h0
    rw [if_pos (.inl rfl)]
    simp (disch := first | omega | simp) [tE, Ty.av]
    exact rt_zeroP (hwM s) (le_same (by repeat (first | with_reducible assumption | with_reducible exact AH.le.refl _ | with_reducible apply AH.le.up | (with_reducible refine AH.le.put hw ?_ ?_; · first | omega | (simp only [up_nx, put_nx, kill_nx]; done) | (simp only [up_nx, put_nx, kill_nx]; omega)) | (with_reducible refine AH.le.kill hw ?_ ?_; · first | omega | (simp only [up_nx, put_nx, kill_nx]; done) | (simp only [up_nx, put_nx, kill_nx]; omega)))) (by simp (disch := first | omega | simp) [put_get_ne, ha2])) (by first | omega | (simp only [up_nx, put_nx]; done) | (simp only [up_nx, put_nx]; omega)) ⟨rfl, rfl⟩
  have hpos : 0 < l.length := List.length_pos_iff.2 h0
  have h0' : ¬ l.length = 0 := by omega
  have h0'' : ¬ (l.length : Int) = 0 := by omega
  cases hlev : levelB l g with
  | false =>
    rw [if_pos (.inr rfl)]
    unfold tE
    simp (disch := first | omega | simp) [h0', Ty.av, Ty.cs_len, Ty.cs_take, put_get_ne]
    refine ca_pure (by kernel_rfl) (c_balanced hl hg (by omega) _) ?_
    rw [hlev]
    simp (disch := first | omega | simp) [bv]
    exact rt_zeroP (hwM s) (le_same (by repeat (first | with_reducible assumption | with_reducible exact AH.le.refl _ | with_reducible apply AH.le.up | (with_reducible refine AH.le.put hw ?_ ?_; · first | omega | (simp only [up_nx, put_nx, kill_nx]; done) | (simp only [up_nx, put_nx, kill_nx]; omega)) | (with_reducible refine AH.le.kill hw ?_ ?_; · first | omega | (simp only [up_nx, put_nx, kill_nx]; done) | (simp only [up_nx, put_nx, kill_nx]; omega)))) (by simp (disch := first | omega | simp) [put_get_ne, ha2])) (by first | omega | (simp only [up_nx, put_nx]; done) | (simp only [up_nx, put_nx]; omega)) ⟨rfl, rfl⟩
  | true =>
    rw [if_neg (by simp [h0])]
    unfold tE
    simp (disch := first | omega | simp) [h0', Ty.av, Ty.cs_len, Ty.cs_take, put_get_ne]
    refine ca_pure (by kernel_rfl) (c_balanced hl hg (by omega) _) ?_
    rw [hlev]
    simp (disch := first | omega | simp) [bv, Ty.cs_len, Ty.cs_take, put_get_ne]
    refine ca_pure (by kernel_rfl) (c_key hl hg (by omega) _) ?_
    have hkl : (keyL l g).length ≤ 45 * (l.length + 1) := by
      have := keyTake_len (hl.app (.cons hg .nil)) (l ++ [g]).length
      rw [List.take_length] at this
      unfold keyL; simpa using this
    have hks := key_some l g (by omega)
    have ha2' : H.get m = some (.map 9 s.length (fD s)) := ha2
    simp (disch := first | omega | simp) [put_get_ne, ha1, ha2', sv, keyedS, hks]
    rw [fD_at hs hl hg]
    by_cases hin : (l, g) ∈ s
    · rw [if_pos hin, if_pos hin]
      simp (disch := first | omega | simp) [iv]
      exact rt_zeroP (hwM s) (le_same (by repeat (first | with_reducible assumption | with_reducible exact AH.le.refl _ | with_reducible apply AH.le.up | (with_reducible refine AH.le.put hw ?_ ?_; · first | omega | (simp only [up_nx, put_nx, kill_nx]; done) | (simp only [up_nx, put_nx, kill_nx]; omega)) | (with_reducible refine AH.le.kill hw ?_ ?_; · first | omega | (simp only [up_nx, put_nx, kill_nx]; done) | (simp only [up_nx, put_nx, kill_nx]; omega)))) (by simp (disch := first | omega | simp) [put_get_ne, ha2])) (by first | omega | (simp only [up_nx, put_nx]; done) | (simp only [up_nx, put_nx]; omega)) ⟨rfl, rfl⟩
    · rw [if_neg hin, if_neg hin]
      simp (disch := first | omega | simp)
      unfold S_prover_proof_C1
      simp (disch := first | omega | simp) [Ty.cs_len, Ty.cs_take, put_get_ne]
      refine ca_of (by kernel_rfl) (hS l g s pr m _ hl hg h0 (by omega) hK hs hc ⟨by simp (disch := first | omega | simp) [put_get_ne, ha1], by simp (disch := first | omega | simp) [put_get_ne, ha2]⟩) ?_
      obtain ⟨u1, u2, u3, u4⟩ := searchF_spec (T := Ty.sls l + g.sl) (fun l' g' s' b1 b2 b3 b4 b5 => proofF_spec N l' g' s' b1 b2 (by omega) b4 b5) hl hg rfl hK h0 s hs
      rintro _ _ ⟨rfl, rfl⟩
      generalize searchF (proofF N) l g s = a at *
      obtain ⟨a1, aok, sa⟩ := a
      dsimp only at u1 u2 u3 u4 ⊢
      cases aok with
      | true =>
        simp (disch := first | omega | simp) [Pf.av, bv, Pf.cs_len, Pf.cs_take, put_get_ne]
        exact rt_tupP (hwM sa) (by repeat (first | with_reducible assumption | with_reducible apply AH.le.up | (with_reducible refine AH.le.put (hwM _) ?_ ?_; · first | omega | (simp only [put_nx]; done) | (simp only [put_nx]; omega)) | (with_reducible refine AH.le.kill (hwM _) ?_ ?_; · first | omega | (simp only [up_nx, put_nx, kill_nx]; done) | (simp only [up_nx, put_nx, kill_nx]; omega)) | with_reducible refine le_base ?_ | (with_reducible refine AH.le.put hw ?_ ?_; · first | omega | (simp only [up_nx, put_nx, kill_nx]; done) | (simp only [up_nx, put_nx, kill_nx]; omega)) | with_reducible exact AH.le.refl _)) (.cons (.agg (Pf.cl _ _)) (.cons (Cl.p _) .nil)) ⟨rfl, rfl⟩
      | false =>
        simp (disch := first | omega | simp) [Pf.av, bv, Pf.cs_len, Pf.cs_take, put_get_ne, ha1, keyedS, hks]
        show (9 = 9 ∧ sa.length < maxLen ∧ _)
        refine ⟨rfl, by omega, ?_⟩
        have hput : putA (fD sa) (.string (mkB (keyL l g))) (.p (.int .i64 1)) = fD ((l, g) :: sa) := fD_cons sa l g
        rw [hput, show AO.map 9 (sa.length + 1) (fD ((l, g) :: sa)) = MO ((l, g) :: sa) from rfl]
        generalize hX : AH.up _ 6 = X
        have hXl : (H.put m (MO sa)).le X := by rw [← hX]; exact (by repeat (first | with_reducible assumption | with_reducible apply AH.le.up | (with_reducible refine AH.le.put (hwM _) ?_ ?_; · first | omega | (simp only [put_nx]; done) | (simp only [put_nx]; omega)) | (with_reducible refine AH.le.kill (hwM _) ?_ ?_; · first | omega | (simp only [up_nx, put_nx, kill_nx]; done) | (simp only [up_nx, put_nx, kill_nx]; omega)) | with_reducible refine le_base ?_ | (with_reducible refine AH.le.put hw ?_ ?_; · first | omega | (simp only [up_nx, put_nx, kill_nx]; done) | (simp only [up_nx, put_nx, kill_nx]; omega)) | with_reducible exact AH.le.refl _))
        have hXn : X.nx = H.nx + 19 := by rw [← hX]; rfl
        clear hX
        have h5 : (H.put m (MO ((l, g) :: sa))).le (X.put m (MO ((l, g) :: sa))) := le_rebase hXl
        exact rt_tupP (hwM _) (by repeat (first | with_reducible assumption | with_reducible apply AH.le.up | (with_reducible refine AH.le.put (hwM _) ?_ ?_; · first | omega | (simp only [put_nx]; done) | (simp only [put_nx]; omega)) | (with_reducible refine AH.le.kill (hwM _) ?_ ?_; · first | omega | (simp only [up_nx, put_nx, kill_nx]; done) | (simp only [up_nx, put_nx, kill_nx]; omega)) | with_reducible refine le_base ?_ | (with_reducible refine AH.le.put hw ?_ ?_; · first | omega | (simp only [up_nx, put_nx, kill_nx]; done) | (simp only [up_nx, put_nx, kill_nx]; omega)) | with_reducible exact AH.le.refl _)) (.cons (.agg (Pf.cl _ _)) (.cons (Cl.p _) .nil)) ⟨rfl, rfl⟩
end Go.Proofs.Ytpmnlikgldacaaa

/- The prover's search. -/
namespace Go.Proofs.Ytpmnlikgldacaaa
open Go.RowKit Go.Maps
theorem rt_leaf {H H1 : AH} {m : Nat} {o : AO} {xs : List AV} {ok : AV} {Q : AV → AH → Prop} (hw : WF (H.put m o)) (hle : (H.put m o).le H1) (hn : H.nx ≤ H1.nx) (hc : Clo H.nx xs) (hok : Cl H.nx ok) (hq : Q (.tup [.agg (xs ++ [.dsl 8 []]), ok]) (H.put m o)) : Rt Try.prog H.nx (.tup [.agg (xs ++ [.p (.slice none 0 0)]), ok]) Q H1 := by
  have hxs : ∀ ys : List AV, Subs Try.prog H1 (ys ++ [.p (.slice none 0 0)]) (ys ++ [.dsl 8 []]) := fun ys => by
    induction ys with
    | nil => exact .cons (Sub.nil 8 0 (Nat.zero_le _)) .nil
    | cons y ys ih => exact .cons (.refl _) ih
  refine rt_sub (H0 := H.put m o) hw hle hn (.tup (.cons (.agg (hxs xs)) (.cons (.refl _) .nil))) (.tup (.cons (.agg fun a ha => ?_) (.cons hok .nil))) hq
  rcases List.mem_append.1 ha with ha | ha
  · exact hc a ha
  · simp at ha; subst ha; exact Cl.dsl _ _
/-- a call in a drawn region that gets a row as data and changes one thing that was there -/
theorem cap_frz {P : Program} {V H : AH} {b i m t sz : Nat} {o : AO} {es : List (List AV)} {sl : List Nat} {f : FuncId} {first ps cap : List AV} {r : AV} {k : AV → AH → AH → Prop} (hc : callable P f = true) (hi : i ∈ sl) (hv : V.get i = none) (hg : H.get i = some (.row t sz es)) (hd : DtR es) (hm : m < b)
    (h : ∀ H2, (∀ id, id < b ∨ id ∈ sl → H2.get id = (H.put i (.frz sz es)).get id) → Tri P f (first ++ ps ++ cap) H2 (fun v H' => H' = H2.put m o ∧ v = r)) (hk : k r (V.put m o) ((H.put i (.frz sz es)).put m o)) : CaP P V b sl (.fn (.func f) first cap) ps k H := by
  have he : frzL H [i] = H.put i (.frz sz es) := by simp [frzL, frzE, hg, frzO, apE]
  refine ⟨f, first, cap, r, [i], [(m, o)], rfl, hc, fun j hj => ?_, fun p hp => ?_, by rw [he]; exact h, by rw [he]; exact hk⟩
  · simp at hj; subst hj; exact ⟨hi, hv, by rw [hg]; exact hd⟩
  · simp at hp; subst hp; exact hm
def zero8 : List AV := [.p (.int .i64 0), .p (.slice none 0 0), .p (.int .i64 0), .p (.int .i64 0), .p (.slice none 0 0), .p (.int .i64 0), .p (.int .i64 0), .p (.slice none 0 0)]
def pz (st : Int) (l : List Ty) (g : Ty) (z : AV) : List AV := [.p (.int .i64 st), .dsl 3 (l.map Ty.cs), .p (.int .i64 g.kind), .p (.int .i64 g.num), .dsl 3 (g.kids.map Ty.cs), .p (.int .i64 0), .p (.int .i64 0), z]
/-- where a search begins to work -/
structure SM (H M : AH) (pr m : Nat) (s : Ded) (l : List Ty) (g : Ty) : Prop where
  wf : WF H
  wm : WF M
  ne : pr ≠ m
  pn : pr < H.nx
  mn : m < H.nx
  le : (H.put m (MO s)).le M
  nx : M.nx = H.nx + 8
  gb : M.get H.nx = some (.box 24 g.cs)
  zb : M.get (H.nx + 1) = some (.box 27 zero8)
  pb : M.get (H.nx + 3 + 3) = some (.box 27 (pz 0 l g (.p (.slice none 0 0))))
  pr_ : M.get pr = some (.box 63 [.mp m])
  mo : M.get m = some (MO s)
set_option maxHeartbeats 4000000 in
theorem search_o {N : Nat} (hP : PrC N) {H M : AH} {pr m : Nat} {s : Ded} {l : List Ty} {x y : Ty} (h : SM H M pr m s l (Ty.o x y)) (hl : Goods l) (hx : Good x) (hy : Good y) (hN : Ty.sls l + (y.sl + x.sl) < N) (hK : l.length + 1 + (Ty.sls l + (y.sl + x.sl)) ≤ 16) (hs : Snd s) (hc : s.length + cost (Ty.sls l + (y.sl + x.sl)) ≤ 9000000000000000000) :
    S_prover_search_C1 (.ptr pr 0) (.dsl 3 (l.map Ty.cs)) (fun r H' => H' = H.put m (MO (proofF N (l ++ [y]) x s).2.2) ∧ r = .tup [Pf.av ⟨2, l, Ty.o x y, 0, 0, [(proofF N (l ++ [y]) x s).1]⟩, bv (proofF N (l ++ [y]) x s).2.1]) H (.ptr H.nx 0) (.ptr (H.nx + 1) 0) (.ptr (H.nx + 3 + 3) 0) M := by
  have hml : maxLen = 9223372036854775807 := by decide
  obtain ⟨hw, hwm, hpm, hpn, hmn, hMl, hMn, hgb, hzb, hpb, hprb, hmo⟩ := h
  have hwM : ∀ s, WF (H.put m (MO s)) := fun s => hw.put hmn (MO_cl s _)
  unfold S_prover_search_C1
  simp (disch := first | omega | simp) []
  refine car_of 24 3 (l.map Ty.cs) (by kernel_rfl) (ty_len _) (fun H2 _ => c_CloneP l (by omega)) ?_
  simp (disch := first | omega | simp) [iv, Ty.cs_len, Ty.cs_take, hgb, Ty.cs_o]
  have hlen : ∀ z : Ty, l.length + [z.cs].length = (l ++ [z]).length := fun z => by simp
  refine wrf_row rfl (wf_none hwm (by first | omega | (simp only [up_nx, put_nx, kill_nx]; done) | (simp only [up_nx, put_nx, kill_nx]; omega))) (es := l.map Ty.cs) (by simp (disch := first | omega | simp) [put_get_ne]) (by simp) (elF_whole (t := 24) (es := [y.cs]) rfl (by simp (disch := first | omega | simp)) rfl) (by simp; omega) (by simp; omega) ?_
  have hes : ((l.map Ty.cs).drop 0).take l.length ++ [y.cs] = (l ++ [y]).map Ty.cs := by rw [List.drop_zero, List.take_of_length_le (by simp), List.map_append]; rfl
  rw [hlen, hes]
  simp (disch := first | omega | simp) [iv, Ty.cs_len, Ty.cs_take, hgb, Ty.cs_o]
  have hly : Goods (l ++ [y]) := hl.app (.cons hy .nil)
  have hsl : Ty.sls (l ++ [y]) + x.sl = Ty.sls l + (y.sl + x.sl) := by rw [Ty.sls_app, Ty.sls_cons, Ty.sls_nil]; omega
  have hll : (l ++ [y]).length = l.length + 1 := by simp
  generalize hR : proofF N (l ++ [y]) x s = R
  obtain ⟨R1, Rok, Rs⟩ := R
  refine cap_frz (i := M.nx + 8) (m := m) (t := 24) (sz := 3) (es := (l ++ [y]).map Ty.cs) (o := MO Rs) (r := .tup [R1.av, bv Rok]) (by kernel_rfl) (by simp) (wf_none hwm (by first | omega | (simp only [up_nx, put_nx, kill_nx]; done) | (simp only [up_nx, put_nx, kill_nx]; omega))) (by simp (disch := first | omega | simp)) (dt_ty _) (by omega) (fun H2 hag => ?_) ?_
  · have hf : H2.get (M.nx + 8) = some (.frz 3 ((l ++ [y]).map Ty.cs)) := by rw [hag _ (.inr (by simp)), put_get]
    have hsub := Sub.frz (P := Try.prog) (off := 0) (n := (l ++ [y]).length) hf (by simp)
    rw [List.drop_zero, List.take_of_length_le (by simp)] at hsub
    have := hP (l ++ [y]) x s pr m H2 hly hx (by omega) (by omega) hs (by rw [hsl]; exact hc) ⟨by rw [hag _ (.inl (by omega))]; simp (disch := first | omega | simp) [put_get_ne, kill_get_ne, hprb], by rw [hag _ (.inl (by omega))]; simp (disch := first | omega | simp) [put_get_ne, kill_get_ne, hmo]⟩
    rw [hR] at this
    rw [List.length_append] at hsub
    exact Tri.args (.cons (.refl _) (.cons hsub (.cons (.refl _) .nil))) this
  simp (disch := first | omega | simp) [Pf.av, bv, Pf.cs_len, put_get_ne]
  refine ⟨wf_none hwm (by first | omega | (simp only [up_nx, put_nx, kill_nx]; done) | (simp only [up_nx, put_nx, kill_nx]; omega)), [H.nx + 3 + 3], ?_⟩
  generalize hX : AH.up _ 6 = X
  have hXl : (H.put m (MO Rs)).le X := by
    have hM2 : (H.put m (MO Rs)).le (M.put m (MO Rs)) := le_rebase hMl
    have h3 : (H.put m (MO Rs)).le X := by
      rw [← hX]
      refine AH.le.up (AH.le.put (hwM _) (by first | omega | (simp only [put_nx]; done) | (simp only [put_nx]; omega)) (AH.le.put (hwM _) (by first | omega | (simp only [put_nx]; done) | (simp only [put_nx]; omega)) (le_rebase (a := MO s) ?_)))
      exact (by repeat (first | with_reducible assumption | with_reducible apply AH.le.up | (with_reducible refine AH.le.put (hwM _) ?_ ?_; · first | omega | (simp only [put_nx]; done) | (simp only [put_nx]; omega)) | (with_reducible refine AH.le.kill (hwM _) ?_ ?_; · first | omega | (simp only [put_nx]; done) | (simp only [put_nx]; omega)) | with_reducible refine le_base ?_ | (with_reducible refine AH.le.put hw ?_ ?_; · first | omega | (simp only [up_nx, put_nx, kill_nx]; done) | (simp only [up_nx, put_nx, kill_nx]; omega)) | with_reducible exact AH.le.refl _))
    exact h3
  have hXn : X.nx = H.nx + 34 := by rw [← hX]; simp only [up_nx, put_nx, kill_nx]; omega
  have hX6 : X.get (H.nx + 3 + 3) = some (.box 27 (pz 0 l (Ty.o x y) (.p (.slice none 0 0)))) := by rw [← hX]; simp (disch := first | omega | simp) [put_get_ne, kill_get_ne, hpb]
  have hX1 : X.get (H.nx + 1) = some (.box 27 zero8) := by rw [← hX]; simp (disch := first | omega | simp) [put_get_ne, kill_get_ne, hzb]
  have hX17 : X.get (M.nx + 17) = some (.box 27 R1.cs) := by rw [← hX]; simp (disch := first | omega | simp)
  clear hX
  rw [hMn] at hX17 ⊢
  unfold pz at hX6
  unfold zero8 at hX1
  simp (disch := first | omega | simp) [del_get_ne, hX17, Pf.cs_len, Pf.cs_take]
  refine wro_st (t := 27) (by omega) (by simp) (by simp (disch := first | omega | simp) [put_get_ne, hX6]; rfl) rfl (by simp) (by simp) ?_
  simp (disch := first | omega | simp) [put_get_ne, hX1]
  exact rt_kids (r := H.nx + 8 + 20 + 1) (es := [R1]) (xs := [iv 2, .dsl 3 (l.map Ty.cs), iv (Ty.o x y).kind, iv (Ty.o x y).num, .dsl 3 ((Ty.o x y).kids.map Ty.cs), iv 0, iv 0]) (hwM Rs) (by repeat (first | with_reducible assumption | with_reducible apply AH.le.up | (with_reducible refine AH.le.put (hwM _) ?_ ?_; · first | omega | (simp only [put_nx]; done) | (simp only [put_nx]; omega)) | (with_reducible refine AH.le.kill (hwM _) ?_ ?_; · first | omega | (simp only [up_nx, put_nx, kill_nx]; done) | (simp only [up_nx, put_nx, kill_nx]; omega)) | with_reducible refine le_base ?_ | (with_reducible refine AH.le.put hw ?_ ?_; · first | omega | (simp only [up_nx, put_nx, kill_nx]; done) | (simp only [up_nx, put_nx, kill_nx]; omega)) | with_reducible exact AH.le.refl _)) (by first | omega | (simp only [up_nx, put_nx]; done) | (simp only [up_nx, put_nx]; omega)) (by omega) (by simp (disch := first | omega | simp) [put_get_ne]) rfl (by repeat (first | exact Cl.p _ | exact Cl.dsl _ _ | exact Cl.any | refine Cl.tup ?_ | refine Cl.agg ?_ | exact Clo.nil | refine Clo.cons ?_ ?_)) (Cl.p _) ⟨rfl, by rw [Pf.cs_eq]; rfl⟩
set_option maxHeartbeats 4000000 in
theorem search_u {N : Nat} (hP : PrC N) {H M : AH} {pr m : Nat} {s : Ded} {l : List Ty} {x y : Ty} (h : SM H M pr m s l (Ty.u y x)) (hl : Goods l) (hx : Good x) (hy : Good y) (hN : Ty.sls l + (y.sl + x.sl) < N) (hK : l.length + 1 + (Ty.sls l + (y.sl + x.sl)) ≤ 16) (hs : Snd s) (hc : s.length + cost (Ty.sls l + (y.sl + x.sl)) ≤ 9000000000000000000) :
    S_prover_search_C2 (.ptr pr 0) (.dsl 3 (l.map Ty.cs)) (fun r H' => H' = H.put m (MO (proofF N (y :: l) x s).2.2) ∧ r = .tup [Pf.av ⟨3, l, Ty.u y x, 0, 0, [(proofF N (y :: l) x s).1]⟩, bv (proofF N (y :: l) x s).2.1]) H (.ptr H.nx 0) (.ptr (H.nx + 1) 0) (.ptr (H.nx + 3 + 3) 0) M := by
  have hml : maxLen = 9223372036854775807 := by decide
  obtain ⟨hw, hwm, hpm, hpn, hmn, hMl, hMn, hgb, hzb, hpb, hprb, hmo⟩ := h
  have hwM : ∀ s, WF (H.put m (MO s)) := fun s => hw.put hmn (MO_cl s _)
  unfold S_prover_search_C2
  simp (disch := first | omega | simp) []
  simp (disch := first | omega | simp) [iv, Ty.cs_len, Ty.cs_take, hgb, Ty.cs_u]
  refine wrf_row rfl (wf_none hwm (by first | omega | (simp only [up_nx, put_nx, kill_nx]; done) | (simp only [up_nx, put_nx, kill_nx]; omega))) (es := [y.cs]) (by simp (disch := first | omega | simp)) (by simp) (.old _ _ (.dsl _)) (by simp; omega) (by simp; omega) ?_
  have hes : (List.drop 0 [y.cs]).take 1 ++ l.map Ty.cs = (y :: l).map Ty.cs := rfl
  have hlen : 1 + (l.map Ty.cs).length = (y :: l).length := by simp; omega
  rw [hlen, hes]
  simp (disch := first | omega | simp) [iv, Ty.cs_len, Ty.cs_take, hgb, Ty.cs_u]
  have hly : Goods (y :: l) := .cons hy hl
  have hsl : Ty.sls (y :: l) + x.sl = Ty.sls l + (y.sl + x.sl) := by rw [Ty.sls_cons]; omega
  have hll : (y :: l).length = l.length + 1 := by simp
  generalize hR : proofF N (y :: l) x s = R
  obtain ⟨R1, Rok, Rs⟩ := R
  refine cap_frz (i := M.nx + 7) (m := m) (t := 24) (sz := 3) (es := (y :: l).map Ty.cs) (o := MO Rs) (r := .tup [R1.av, bv Rok]) (by kernel_rfl) (by simp) (wf_none hwm (by first | omega | (simp only [up_nx, put_nx, kill_nx]; done) | (simp only [up_nx, put_nx, kill_nx]; omega))) (by simp (disch := first | omega | simp)) (dt_ty _) (by omega) (fun H2 hag => ?_) ?_
  · have hf : H2.get (M.nx + 7) = some (.frz 3 ((y :: l).map Ty.cs)) := by rw [hag _ (.inr (by simp)), put_get]
    have hsub := Sub.frz (P := Try.prog) (off := 0) (n := (y :: l).length) hf (by simp)
    rw [List.drop_zero, List.take_of_length_le (by simp)] at hsub
    have := hP (y :: l) x s pr m H2 hly hx (by omega) (by omega) hs (by rw [hsl]; exact hc) ⟨by rw [hag _ (.inl (by omega))]; simp (disch := first | omega | simp) [put_get_ne, kill_get_ne, hprb], by rw [hag _ (.inl (by omega))]; simp (disch := first | omega | simp) [put_get_ne, kill_get_ne, hmo]⟩
    rw [hR] at this
    rw [List.length_cons] at hsub
    exact Tri.args (.cons (.refl _) (.cons hsub (.cons (.refl _) .nil))) this
  simp (disch := first | omega | simp) [Pf.av, bv, Pf.cs_len, put_get_ne]
  refine ⟨wf_none hwm (by first | omega | (simp only [up_nx, put_nx, kill_nx]; done) | (simp only [up_nx, put_nx, kill_nx]; omega)), [H.nx + 3 + 3], ?_⟩
  generalize hX : AH.up _ 6 = X
  have hXl : (H.put m (MO Rs)).le X := by
    have hM2 : (H.put m (MO Rs)).le (M.put m (MO Rs)) := le_rebase hMl
    have h3 : (H.put m (MO Rs)).le X := by
      rw [← hX]
      refine AH.le.up (AH.le.put (hwM _) (by first | omega | (simp only [put_nx]; done) | (simp only [put_nx]; omega)) (AH.le.put (hwM _) (by first | omega | (simp only [put_nx]; done) | (simp only [put_nx]; omega)) (le_rebase (a := MO s) ?_)))
      exact (by repeat (first | with_reducible assumption | with_reducible apply AH.le.up | (with_reducible refine AH.le.put (hwM _) ?_ ?_; · first | omega | (simp only [put_nx]; done) | (simp only [put_nx]; omega)) | (with_reducible refine AH.le.kill (hwM _) ?_ ?_; · first | omega | (simp only [put_nx]; done) | (simp only [put_nx]; omega)) | with_reducible refine le_base ?_ | (with_reducible refine AH.le.put hw ?_ ?_; · first | omega | (simp only [up_nx, put_nx, kill_nx]; done) | (simp only [up_nx, put_nx, kill_nx]; omega)) | with_reducible exact AH.le.refl _))
    exact h3
  have hXn : X.nx = H.nx + 33 := by rw [← hX]; simp only [up_nx, put_nx, kill_nx]; omega
  have hX6 : X.get (H.nx + 3 + 3) = some (.box 27 (pz 0 l (Ty.u y x) (.p (.slice none 0 0)))) := by rw [← hX]; simp (disch := first | omega | simp) [put_get_ne, kill_get_ne, hpb]
  have hX1 : X.get (H.nx + 1) = some (.box 27 zero8) := by rw [← hX]; simp (disch := first | omega | simp) [put_get_ne, kill_get_ne, hzb]
  have hX16 : X.get (M.nx + 16) = some (.box 27 R1.cs) := by rw [← hX]; simp (disch := first | omega | simp)
  clear hX
  rw [hMn] at hX16 ⊢
  unfold pz at hX6
  unfold zero8 at hX1
  simp (disch := first | omega | simp) [del_get_ne, hX16, Pf.cs_len, Pf.cs_take]
  refine wro_st (t := 27) (by omega) (by simp) (by simp (disch := first | omega | simp) [put_get_ne, hX6]; rfl) rfl (by simp) (by simp) ?_
  simp (disch := first | omega | simp) [put_get_ne, hX1]
  exact rt_kids (r := H.nx + 8 + 19 + 1) (es := [R1]) (xs := [iv 3, .dsl 3 (l.map Ty.cs), iv (Ty.u y x).kind, iv (Ty.u y x).num, .dsl 3 ((Ty.u y x).kids.map Ty.cs), iv 0, iv 0]) (hwM Rs) (by repeat (first | with_reducible assumption | with_reducible apply AH.le.up | (with_reducible refine AH.le.put (hwM _) ?_ ?_; · first | omega | (simp only [put_nx]; done) | (simp only [put_nx]; omega)) | (with_reducible refine AH.le.kill (hwM _) ?_ ?_; · first | omega | (simp only [up_nx, put_nx, kill_nx]; done) | (simp only [up_nx, put_nx, kill_nx]; omega)) | with_reducible refine le_base ?_ | (with_reducible refine AH.le.put hw ?_ ?_; · first | omega | (simp only [up_nx, put_nx, kill_nx]; done) | (simp only [up_nx, put_nx, kill_nx]; omega)) | with_reducible exact AH.le.refl _)) (by first | omega | (simp only [up_nx, put_nx]; done) | (simp only [up_nx, put_nx]; omega)) (by omega) (by simp (disch := first | omega | simp) [put_get_ne]) rfl (by repeat (first | exact Cl.p _ | exact Cl.dsl _ _ | exact Cl.any | refine Cl.tup ?_ | refine Cl.agg ?_ | exact Clo.nil | refine Clo.cons ?_ ?_)) (Cl.p _) ⟨rfl, by rw [Pf.cs_eq]; rfl⟩
end Go.Proofs.Ytpmnlikgldacaaa
