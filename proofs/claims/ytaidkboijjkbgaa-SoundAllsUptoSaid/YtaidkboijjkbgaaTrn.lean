/- Walks of sound.matches, sound.turns, sound.step. -/
import Derived.Test.YtaidkboijjkbgaaRChk
namespace Go.Proofs.Ytaidkboijjkbgaa
open Go.RowKit

def matchS (x : List Int × Bool) (l : List Int) (a : Int) : Bool := if a < 0 ∨ (l.length : Int) ≤ a then x.2 && (a == -1 || a == (l.length : Int)) else x.1.any fun y => y == l.getD a.toNat 0
def leftB : List (List Int × Bool) → Int → List Int → Bool
  | [], _, _ => true
  | s :: r, k, out => matchS s out k && leftB r (k + 1) out
def rightB (r : List (List Int × Bool)) (l : List Int) (k : Int) : Bool := match r with
  | [] => true
  | s :: _ => matchS s l k
def fromB (f inn : List Int) : Bool := decide (f.length ≤ inn.length) && decide (inn.take f.length = f)
def turnsC (f : List Int) (l r : List (List Int × Bool)) (out inn : List Int) : Bool := fromB f inn && (leftB l ((out.length : Int) - (l.length : Int)) out && rightB r inn f.length)

theorem quiet_first {P : Program} {f : FuncId} {args : Array Value} {w : World} {n : Nat} {v : Value}
    (h : Calls P f args (w.drewN n) fun e w' => e = .returned v ∧ ∃ m, w' = (w.drewN n).drewN m) : Calls P f args (w.drewN n) fun e w'' => e = .returned v ∧ ∃ m, w'' = w.drewN m :=
  h.mono fun _ _ ⟨he, m, hm⟩ => ⟨he, n + m, by rw [hm, World.drewN_drewN]⟩
set_option maxRecDepth 100000 in
set_option maxHeartbeats 2000000 in
theorem matches_any (S : Nat → Prop) (x : List Int × Bool) (l : List Int) (a : Int) (A Al : Option Addr) (c cl : Nat) (w : World) (hx : Sl rInt w S A c x.1) (hl : Sl rInt w S Al cl l) (hS : ∀ b, S b → b < w.heap.size) :
    Calls Try.prog 58 #[.agg #[.slice A x.1.length c, .bool x.2], .slice Al l.length cl, .int .i64 a] w fun e w' => e = .returned (.bool (matchS x l a)) ∧ Below w.heap.size w w' := by
  have b1 := hx.le; have b1' := hx.max; have b2 := hl.le; have b2' := hl.max
  unfold maxLen at b1' b2'
  have hX : Below w.heap.size w (w.alloc (.cells #[.slice A x.1.length c, .bool x.2] 60)) := (Below.refl _ _).alloc (Nat.le_refl _) _
  have HX := Lib.hid hX
  have HS := Lib.hid (hx.below hS hX)
  have HL := Lib.hid (hl.below hS hX)
  clear hx hl hS hX
  by_cases h1 : a < 0 ∨ (l.length : Int) ≤ a
  · have HQ : Hid (matchS x l a = (x.2 && (a == -1 || a == (l.length : Int)))) := Lib.hid (by unfold matchS; rw [if_pos h1])
    have h2 : a < 0 ∨ (¬ a < 0 ∧ (l.length : Int) ≤ a) := by omega
    clear h1
    rcases h2 with h2 | ⟨h2, h3⟩
    all_goals
      cases h4 : (a == -1)
      all_goals
        cases hx2 : x.2
        all_goals
          rw [h4, hx2] at HQ
          clear hx2
          go_enter Try.func58, Try.ntmps58
          go_wp2
          go_ret
          exact ⟨by rw [HQ.out]; rfl, (Below.refl _ _).alloc (Nat.le_refl _) _⟩
  · have h2 : 0 ≤ a := by omega
    have h3 : a < (l.length : Int) := by omega
    obtain ⟨k, rfl⟩ := Int.eq_ofNat_of_zero_le h2
    have hlt : k < l.length := by omega
    obtain ⟨ad, rfl, _, _, hcell⟩ := HL.out.int_at hlt
    have HQ : Hid (matchS x l (k : Int) = x.1.any fun y => y == l[k]) := Lib.hid (by
      unfold matchS; rw [if_neg h1, Int.toNat_natCast]
      have : l.getD k 0 = l[k] := by rw [List.getD_eq_getElem?_getD, List.getElem?_eq_getElem hlt]; rfl
      rw [this])
    generalize l[k]'hlt = y at *
    clear h1
    go_enter Try.func58, Try.ntmps58
    go_wp2
    go_quiet ((go_at_call 59; exact quiet_left (containsI_any _ _ _ _ _ _ (by exact HS.out))))
    go_wp2
    go_ret
    exact ⟨by rw [HQ.out]; rfl, below_drewN HX.out _⟩

theorem leftB_step {l : List (List Int × Bool)} {out : List Int} {k : Nat} {k0 : Int} (hk : k < l.length) : leftB (l.drop k) (k0 + (k : Int)) out = (matchS (l[k]'hk) out (k0 + (k : Int)) && leftB (l.drop (k + 1)) (k0 + ((k + 1 : Nat) : Int)) out) := by
  rw [List.drop_eq_getElem_cons hk]
  show (matchS l[k] out _ && leftB (l.drop (k + 1)) (k0 + (k : Int) + 1) out) = _
  rw [show k0 + (k : Int) + 1 = k0 + ((k + 1 : Nat) : Int) from by omega]
theorem leftB_end {l : List (List Int × Bool)} {out : List Int} {k : Nat} {k0 : Int} (hk : l.length ≤ k) : leftB (l.drop k) k0 out = true := by
  rw [List.drop_eq_nil_iff.2 hk]; rfl

set_option maxRecDepth 100000 in
set_option maxHeartbeats 4000000 in
theorem turns_any (S : Nat → Prop) (ks : Int) (f t : List Int) (l r : List (List Int × Bool)) (Af At Al Ar : Option Addr) (cf ct cl cr : Nat) (out inn : List Int) (Ao Ai : Option Addr) (co ci : Nat) (w : World) (hf : Sl rInt w S Af cf f) (hl : Sl rSpot w S Al cl l) (hr : Sl rSpot w S Ar cr r)
    (ho : Sl rInt w S Ao co out) (hin : Sl rInt w S Ai ci inn) (hS : ∀ b, S b → b < w.heap.size) (hr1 : r.length ≤ 1) :
    Calls Try.prog 54 #[.agg #[.int .i64 ks, .slice Af f.length cf, .slice At t.length ct, .slice Al l.length cl, .slice Ar r.length cr], .slice Ao out.length co, .slice Ai inn.length ci] w fun e w' => e = .returned (.bool (turnsC f l r out inn)) ∧ Below w.heap.size w w' := by
  have bf := hf.le; have bf' := hf.max; have bl := hl.le; have bl' := hl.max; have br := hr.le; have br' := hr.max; have bo := ho.le; have bo' := ho.max; have bi := hin.le; have bi' := hin.max
  unfold maxLen at bf' bl' br' bo' bi'
  have hX : Below w.heap.size w (w.alloc (.cells #[.int .i64 ks, .slice Af f.length cf, .slice At t.length ct, .slice Al l.length cl, .slice Ar r.length cr] 25)) := (Below.refl _ _).alloc (Nat.le_refl _) _
  have hB : Blk (w.alloc (.cells #[.int .i64 ks, .slice Af f.length cf, .slice At t.length ct, .slice Al l.length cl, .slice Ar r.length cr] 25)) w.heap.size 25 #[.int .i64 ks, .slice Af f.length cf, .slice At t.length ct, .slice Al l.length cl, .slice Ar r.length cr] := Blk.new _ _ _
  have HF := Lib.hid (hf.below hS hX); have HL := Lib.hid (hl.below hS hX); have HR := Lib.hid (hr.below hS hX); have HO := Lib.hid (ho.below hS hX); have HI := Lib.hid (hin.below hS hX)
  have HS := Lib.hid (in_below hS hX)
  have HX := Lib.hid hX
  have HB := Lib.hid hB
  clear hf hl hr ho hin hS hX hB
  by_cases h1 : inn.length < f.length
  · have HQ : Hid (turnsC f l r out inn = false) := Lib.hid (by unfold turnsC fromB; rw [decide_eq_false (by omega)]; rfl)
    have h1' : (inn.length : Int) < (f.length : Int) := by omega
    go_enter Try.func54, Try.ntmps54
    go_wp2
    go_quiet (fail)
    go_wp2
    go_ret
    exact ⟨by rw [HQ.out]; rfl, below_drewN HX.out _⟩
  · have HQ : Hid (turnsC f l r out inn = (decide (inn.take f.length = f) && (leftB l ((out.length : Int) - (l.length : Int)) out && rightB r inn f.length))) := Lib.hid (by unfold turnsC fromB; rw [decide_eq_true (by omega)]; rfl)
    have h1' : (f.length : Int) ≤ (inn.length : Int) := by omega
    have hle : f.length ≤ ci := by omega
    have hle' : (f.length : Int) ≤ (ci : Int) := by omega
    have hd1 : decide ((inn.length : Int) < (f.length : Int)) = false := by simp; omega
    have hd2 : decide (inn.length < f.length) = false := by simp; omega
    have hz0 : (0 : Int) ≤ (f.length : Int) := by omega
    have hlen : (inn.take f.length).length = f.length := by rw [List.length_take]; omega
    have HC : Hid (∀ w', Sl rInt w' S Ai ci inn → Sl rInt w' S Af cf f → Calls Try.prog 40 #[.slice Ai f.length ci, .slice Af f.length cf] w' fun e w'' => e = .returned (.bool (decide (inn.take f.length = f))) ∧ ∃ n, w'' = w'.drewN n) := Lib.hid (by
      intro w' h h'
      have := equalI_any S Ai Af ci cf (inn.take f.length) f w' (h.top _) h'
      rwa [hlen] at this)
    clear h1 hlen
    generalize decide (inn.take f.length = f) = E at *
    cases E with
    | false =>
      have HV : Hid (turnsC f l r out inn = false) := Lib.hid (by rw [HQ.out]; rfl)
      go_enter Try.func54, Try.ntmps54
      go_wp2
      go_quiet ((go_at_call 40; exact quiet_first (HC.out _ (by exact HI.out) (by exact HF.out))))
      go_wp2
      go_ret
      exact ⟨by rw [HV.out]; rfl, below_drewN HX.out _⟩
    | true =>
      go_enter Try.func54, Try.ntmps54
      go_wp2
      go_quiet ((go_at_call 40; exact quiet_first (HC.out _ (by exact HI.out) (by exact HF.out))))
      have HI2 : Hid (Sl rInt ((w.alloc (.cells #[.int .i64 ks, .slice Af f.length cf, .slice At t.length ct, .slice Al l.length cl, .slice Ar r.length cr] 25)).drewN nq) S Ai ci inn) := HI
      have HV : Hid (turnsC f l r out inn = (leftB l ((out.length : Int) - (l.length : Int)) out && rightB r inn f.length)) := Lib.hid (by rw [HQ.out]; rfl)
      clear HQ HC
      have HX1 : Hid (Below w.heap.size w ((w.alloc (.cells #[.int .i64 ks, .slice Af f.length cf, .slice At t.length ct, .slice Al l.length cl, .slice Ar r.length cr] 25)).drewN nq)) := Lib.hid (below_drewN HX.out nq)
      have HB1 : Hid (Blk ((w.alloc (.cells #[.int .i64 ks, .slice Af f.length cf, .slice At t.length ct, .slice Al l.length cl, .slice Ar r.length cr] 25)).drewN nq) w.heap.size 25 #[.int .i64 ks, .slice Af f.length cf, .slice At t.length ct, .slice Al l.length cl, .slice Ar r.length cr]) := HB
      have HL1 : Hid (Sl rSpot ((w.alloc (.cells #[.int .i64 ks, .slice Af f.length cf, .slice At t.length ct, .slice Al l.length cl, .slice Ar r.length cr] 25)).drewN nq) S Al cl l) := HL
      have HR1 : Hid (Sl rSpot ((w.alloc (.cells #[.int .i64 ks, .slice Af f.length cf, .slice At t.length ct, .slice Al l.length cl, .slice Ar r.length cr] 25)).drewN nq) S Ar cr r) := HR
      have HO1 : Hid (Sl rInt ((w.alloc (.cells #[.int .i64 ks, .slice Af f.length cf, .slice At t.length ct, .slice Al l.length cl, .slice Ar r.length cr] 25)).drewN nq) S Ao co out) := HO
      have HS1 : Hid (∀ b, S b → b < ((w.alloc (.cells #[.int .i64 ks, .slice Af f.length cf, .slice At t.length ct, .slice Al l.length cl, .slice Ar r.length cr] 25)).drewN nq).heap.size) := HS
      clear HX HB HL HR HO HS HI HF
      generalize (w.alloc (.cells #[.int .i64 ks, .slice Af f.length cf, .slice At t.length ct, .slice Al l.length cl, .slice Ar r.length cr] 25)).drewN nq = w1 at *
      obtain ⟨e0, e1, e2, e3, e4⟩ := blk5 HB1.out
      go_wp2
      go_loopw [7, 8, 29] (fun _ _ i wr => ∃ k : Nat, k ≤ l.length ∧ i = .int .i64 (k : Int) ∧ Hid (leftB l ((out.length : Int) - (l.length : Int)) out = leftB (l.drop k) ((out.length : Int) - (l.length : Int) + (k : Int)) out) ∧ Hid (Below w1.heap.size w1 wr)) (fun _ _ i _ => l.length - (intOf i).toNat)
      case atStart => exact ⟨0, by omega, rfl, Lib.hid (by simp), Lib.hid (Below.refl _ _)⟩
      case round =>
        obtain ⟨k, hk, rfl, HN, HX⟩ := hrel
        have hz3 := HX.out.size
        have hBr := HB1.out.below HX.out HB1.out.lt
        have hzb := hBr.lt
        clear e0 e1 e2 e3 e4
        obtain ⟨e0, e1, e2, e3, e4⟩ := blk5 hBr
        have HBR := Lib.hid hBr
        have HSR := Lib.hid (in_below HS1.out HX.out)
        have HOR := Lib.hid (HO1.out.below HS1.out HX.out)
        have HIR := Lib.hid (HI2.out.below HS1.out HX.out)
        clear hBr
        by_cases hlt : k < l.length
        · obtain ⟨ad, A1, c1, hA, _, hsl, hc0, hc1⟩ := spot_at (HL1.out.below HS1.out HX.out) hlt
          subst hA
          have HST := Lib.hid (leftB_step (out := out) (k0 := (out.length : Int) - (l.length : Int)) hlt)
          generalize l[k]'hlt = x at *
          have b1 := hsl.le
          have b1' := hsl.max
          unfold maxLen at b1'
          have hX3 : Below wr.heap.size wr (wr.alloc (.cells #[.slice A1 x.1.length c1, .bool x.2] 60)) := (Below.refl _ _).alloc (Nat.le_refl _) _
          have HC := Lib.hid (matches_any S x out ((out.length : Int) - (l.length : Int) + (k : Int)) A1 Ao c1 co _ (hsl.below HSR.out hX3) (HOR.out.below HSR.out hX3) (in_below HSR.out hX3))
          have HX3 := Lib.hid hX3
          clear hsl hX3
          go_wp2_with fail
          refine HC.out.mono ?_
          rintro e w3 ⟨rfl, hb3⟩
          have HX4 : Hid (Below w1.heap.size w1 w3) := Lib.hid (HX.out.trans ((HX3.out.trans (hb3.mono HX3.out.size)).mono hz3))
          clear hb3 HC HX3
          generalize matchS x out ((out.length : Int) - (l.length : Int) + (k : Int)) = M at *
          cases M with
          | true =>
            have HN2 : Hid (leftB l ((out.length : Int) - (l.length : Int)) out = leftB (l.drop (k + 1)) ((out.length : Int) - (l.length : Int) + ((k + 1 : Nat) : Int)) out) := Lib.hid (by rw [HN.out, HST.out, Bool.true_and])
            go_wp2
            go_roundw
            case rel => exact ⟨k + 1, by omega, by go_num, HN2, HX4⟩
            case measure => simp [intOf]; omega
          | false =>
            have HW : Hid (turnsC f l r out inn = false) := Lib.hid (by rw [HV.out, HN.out, HST.out]; rfl)
            go_wp2
            go_ret
            exact ⟨by rw [HW.out]; rfl, HX1.out.trans (HX4.out.mono HX1.out.size)⟩
        · have HV2 : Hid (turnsC f l r out inn = rightB r inn f.length) := Lib.hid (by rw [HV.out, HN.out, leftB_end (l := l) (k := k) (by omega)]; rfl)
          have HXR := Lib.hid (HX1.out.trans (HX.out.mono HX1.out.size))
          by_cases hr0 : r.length = 0
          · have hr0' : ((r.length : Int) == 0) = true := by rw [beq_iff_eq]; omega
            have hr0'' : (r.length == 0) = true := by rw [beq_iff_eq]; omega
            have HW : Hid (turnsC f l r out inn = true) := Lib.hid (by rw [HV2.out, List.eq_nil_of_length_eq_zero hr0]; rfl)
            clear hr0
            go_wp2
            go_quiet (fail)
            go_wp2
            go_ret
            exact ⟨by rw [HW.out]; rfl, below_drewN HXR.out _⟩
          · have hr0' : ((r.length : Int) == 0) = false := by rw [beq_eq_false_iff_ne]; omega
            have hr0'' : (r.length == 0) = false := by rw [beq_eq_false_iff_ne]; omega
            have hr2 : 0 < r.length := by omega
            have hr3 : (0 : Int) < (r.length : Int) := by omega
            obtain ⟨ad, A1, c1, hA, had, hsl, hc0, hc1⟩ := spot_at (HR1.out.below HS1.out HX.out) hr2
            subst hA
            have hadl := HSR.out _ had
            have HW : Hid (turnsC f l r out inn = matchS (r[0]'hr2) inn f.length) := Lib.hid (by
              rw [HV2.out]
              match r, hr2 with
              | s :: _, _ => rfl)
            generalize r[0]'hr2 = x at *
            replace hc0 : wr.cell? ad = some (.slice A1 x.1.length c1) := hc0
            replace hc1 : wr.cell? ⟨ad.block, ad.off + 1, none⟩ = some (.bool x.2) := hc1
            have HSL := Lib.hid hsl
            clear hsl had hr0
            go_wp2
            go_region_held3 (fun w' => w'.cell? ⟨w.heap.size, 4, none⟩ = some (.slice (some ad) r.length cr) ∧ w'.cell? ⟨w.heap.size, 1, none⟩ = some (.slice Af f.length cf) ∧ w'.cell? ad = some (.slice A1 x.1.length c1) ∧ w'.cell? ⟨ad.block, ad.off + 1, none⟩ = some (.bool x.2))
              (first
                | go_keep
                | (rw [hb6.cell (by simp; omega), hb6.cell (by simp; omega), hb6.cell (by simp; omega), hb6.cell (by simp; omega)]; go_keep))
              ((go_at_call 58; refine (matches_any S x inn f.length A1 Ai c1 ci _ (by exact HSL.out) (by exact HIR.out) (by exact HSR.out)).mono ?_; rintro e w6 ⟨rfl, hb6⟩))
            have HX6 : Hid (Below w.heap.size w w6) := Lib.hid (Below.trans (by first | exact HXR.out | exact HXR.out.drew | exact HXR.out.drew.drew | exact below_drewN HXR.out _) (hb6.mono (by simp; omega)))
            clear hb6
            go_wp2
            go_ret
            exact ⟨by rw [HW.out]; rfl, HX6.out⟩

def stepC (f t : List Int) (l r : List (List Int × Bool)) (out inn : List Int) : Nat × List Int := if turnsC f l r out inn = true then (f.length, t) else (1, inn.take 1)

set_option maxRecDepth 100000 in
set_option maxHeartbeats 2000000 in
theorem step_any (S : Nat → Prop) (ks : Int) (f t : List Int) (l r : List (List Int × Bool)) (Af At Al Ar : Option Addr) (cf ct cl cr : Nat) (out inn : List Int) (Ao Ai : Option Addr) (co ci : Nat) (w : World) (hf : Sl rInt w S Af cf f) (ht : Sl rInt w S At ct t) (hl : Sl rSpot w S Al cl l) (hr : Sl rSpot w S Ar cr r)
    (ho : Sl rInt w S Ao co out) (hin : Sl rInt w S Ai ci inn) (hS : ∀ b, S b → b < w.heap.size) (hr1 : r.length ≤ 1) (hne : 0 < inn.length) :
    Calls Try.prog 45 #[.agg #[.int .i64 ks, .slice Af f.length cf, .slice At t.length ct, .slice Al l.length cl, .slice Ar r.length cr], .slice Ao out.length co, .slice Ai inn.length ci] w fun e w' =>
      (∃ A c, e = .returned (.tuple #[.int .i64 ((stepC f t l r out inn).1 : Int), .slice A (stepC f t l r out inn).2.length c]) ∧ Sl rInt w' S A c (stepC f t l r out inn).2) ∧ Below w.heap.size w w' := by
  have bf := hf.le; have bf' := hf.max; have bt := ht.le; have bt' := ht.max; have bi := hin.le; have bi' := hin.max
  unfold maxLen at bf' bt' bi'
  have hX : Below w.heap.size w (w.alloc (.cells #[.int .i64 ks, .slice Af f.length cf, .slice At t.length ct, .slice Al l.length cl, .slice Ar r.length cr] 25)) := (Below.refl _ _).alloc (Nat.le_refl _) _
  have hB : Blk (w.alloc (.cells #[.int .i64 ks, .slice Af f.length cf, .slice At t.length ct, .slice Al l.length cl, .slice Ar r.length cr] 25)) w.heap.size 25 #[.int .i64 ks, .slice Af f.length cf, .slice At t.length ct, .slice Al l.length cl, .slice Ar r.length cr] := Blk.new _ _ _
  have HC := Lib.hid (turns_any S ks f t l r Af At Al Ar cf ct cl cr out inn Ao Ai co ci _ (hf.below hS hX) (hl.below hS hX) (hr.below hS hX) (ho.below hS hX) (hin.below hS hX) (in_below hS hX) hr1)
  have HT := Lib.hid (ht.below hS hX); have HI := Lib.hid (hin.below hS hX)
  have HS := Lib.hid (in_below hS hX)
  have HX := Lib.hid hX
  have HB := Lib.hid hB
  have HQ : Hid (stepC f t l r out inn = if turnsC f l r out inn = true then (f.length, t) else (1, inn.take 1)) := Lib.hid rfl
  clear hf hl hr ho hin ht hS hX hB
  go_enter Try.func45, Try.ntmps45
  go_wp2_with fail
  refine HC.out.mono ?_
  rintro e w1 ⟨rfl, hb⟩
  have hB1 := HB.out.below hb HB.out.lt
  have HT1 := Lib.hid (HT.out.below HS.out hb)
  have HI1 := Lib.hid (HI.out.below HS.out hb)
  have HX1 := Lib.hid (HX.out.trans (hb.mono HX.out.size))
  obtain ⟨e0, e1, e2, e3, e4⟩ := blk5 hB1
  clear hb hB1 HC HB HT HI HX HS
  generalize turnsC f l r out inn = T at *
  cases T with
  | true =>
    have HE : Hid (stepC f t l r out inn = (f.length, t)) := Lib.hid (by rw [HQ.out]; rfl)
    go_wp2
    go_quiet (fail)
    go_wp2
    go_ret2
    rw [HE.out]
    exact ⟨⟨At, ct, rfl, HT1.out⟩, below_drewN HX1.out _⟩
  | false =>
    have HE : Hid (stepC f t l r out inn = (1, inn.take 1)) := Lib.hid (by rw [HQ.out]; rfl)
    have hlen : (inn.take 1).length = 1 := by rw [List.length_take]; omega
    have HLN := Lib.hid hlen
    clear hlen
    have h1 : (1 : Int) ≤ (ci : Int) := by omega
    have h1' : 1 ≤ ci := by omega
    go_wp2
    go_quiet (fail)
    go_wp2
    go_ret2
    rw [HE.out]
    exact ⟨⟨Ai, ci, by rw [HLN.out]; rfl, HI1.out.top 1⟩, below_drewN HX1.out _⟩
end Go.Proofs.Ytaidkboijjkbgaa
