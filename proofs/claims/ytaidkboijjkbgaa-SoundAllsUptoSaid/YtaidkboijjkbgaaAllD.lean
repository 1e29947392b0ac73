/- All changes, one behind the other, as plain data; slices of changes; slices.Clone; sound.checkAll, R.CheckChanges. -/
import Derived.Test.YtaidkboijjkbgaaApl
namespace Go.Proofs.Ytaidkboijjkbgaa
open Go.RowKit

def Chg : Type := Int × List Int × List Int × List (List Int × Bool) × List (List Int × Bool)
def changeE (c : Chg) : Int := checkC c.1 c.2.1 c.2.2.1 c.2.2.2.1 c.2.2.2.2
def firstE : List Chg → Int
  | [] => 0
  | c :: r => if changeE c = 0 then firstE r else changeE c
def kindsOf : List Chg → Int
  | [] => 60
  | c :: _ => c.1
def difB (k : Int) (c : Chg) : Bool := c.1 != k
def checksE (cs : List Chg) : Int := if 3 < cs.length then 7 else if firstE cs = 0 then (if cs.any (difB (kindsOf cs)) = true then 7 else 0) else firstE cs
def chg (c : Chg) (text : List Int) : List Int := changeC c.2.1 c.2.2.1 c.2.2.2.1 c.2.2.2.2 text
def allL : List Chg → List Int → Int × List Int
  | [], text => (0, text)
  | c :: r, text => if 60 < text.length then (2, []) else allL r (chg c text)
def allC (cs : List Chg) (text : List Int) : Int × List Int := if checksE cs = 0 then (if 60 < text.length then (2, []) else if text.any (outB (kindsOf cs)) = true then (3, []) else allL cs text) else (checksE cs, [])
theorem firstE_step {cs : List Chg} {k : Nat} (h : k < cs.length) : firstE (cs.drop k) = if changeE (cs[k]'h) = 0 then firstE (cs.drop (k + 1)) else changeE (cs[k]'h) := by
  rw [List.drop_eq_getElem_cons h]; rfl
theorem firstE_ok : ∀ {cs : List Chg}, firstE cs = 0 → ∀ c ∈ cs, changeE c = 0
  | [], _, c, h => by simp at h
  | d :: r, h, c, hc => by
    rw [firstE] at h
    split at h
    · rename_i h0
      rcases List.mem_cons.1 hc with rfl | hc
      · exact h0
      · exact firstE_ok h c hc
    · rename_i h0; exact absurd h h0
theorem allL_step {cs : List Chg} {k : Nat} {t : List Int} (h : k < cs.length) : allL (cs.drop k) t = if 60 < t.length then (2, []) else allL (cs.drop (k + 1)) (chg (cs[k]'h) t) := by
  rw [List.drop_eq_getElem_cons h]; rfl
theorem kindsOf_zero {cs : List Chg} (h : 0 < cs.length) : kindsOf cs = (cs[0]'h).1 := by
  match cs, h with
  | c :: r, _ => rfl

def rChg : Rep Chg := rChange
theorem opens_chgs : Opens Try.prog 33 (rList rChg) := opens_slice Try.underlying33 rfl (by decide) opens_change
/-- a change among others -/
theorem chg_at {w : World} {S : Nat → Prop} {A : Option Addr} {c k : Nat} {xs : List Chg} (h : Sl rChg w S A c xs) (hk : k < xs.length) : ∃ ad Af cf At ct Al cl Ar cr, A = some ad ∧ S ad.block ∧
    (Sl rInt w S Af cf (xs[k]'hk).2.1 ∧ Sl rInt w S At ct (xs[k]'hk).2.2.1 ∧ Sl rSpot w S Al cl (xs[k]'hk).2.2.2.1 ∧ Sl rSpot w S Ar cr (xs[k]'hk).2.2.2.2) ∧
    w.cell? (ad.add (k * 5)) = some (.int .i64 (xs[k]'hk).1) ∧ w.cell? ⟨(ad.add (k * 5)).block, (ad.add (k * 5)).off + 1, none⟩ = some (.slice Af (xs[k]'hk).2.1.length cf) ∧ w.cell? ⟨(ad.add (k * 5)).block, (ad.add (k * 5)).off + 2, none⟩ = some (.slice At (xs[k]'hk).2.2.1.length ct) ∧
    w.cell? ⟨(ad.add (k * 5)).block, (ad.add (k * 5)).off + 3, none⟩ = some (.slice Al (xs[k]'hk).2.2.2.1.length cl) ∧ w.cell? ⟨(ad.add (k * 5)).block, (ad.add (k * 5)).off + 4, none⟩ = some (.slice Ar (xs[k]'hk).2.2.2.2.length cr) ∧ I64 (xs[k]'hk).1 := by
  obtain ⟨ad, u, hA, hs, hu, h0, h1⟩ := h.fields hk
  obtain ⟨Af, cf, At, ct, Al, cl, Ar, cr, rfl, hki, hf, ht, hl, hr⟩ := change_open hu
  exact ⟨ad, Af, cf, At, ct, Al, cl, Ar, cr, hA, hs, ⟨hf, ht, hl, hr⟩, h0 _ rfl, h1 0 _ rfl, h1 1 _ rfl, h1 2 _ rfl, h1 3 _ rfl, hki⟩

set_option maxRecDepth 100000 in
set_option maxHeartbeats 1000000 in
theorem cloneI_any (S : Nat → Prop) (A : Option Addr) (c : Nat) (xs : List Int) (w : World) (h : Sl rInt w S A c xs) (hS : ∀ b, S b → b < w.heap.size) (hn : xs.length ≤ 4294967296) :
    Calls Try.prog 34 #[.slice A xs.length c] w fun e w' => (∃ v, e = .returned v ∧ w'.ownsRow w.heap.size 3 1 v xs.length (ints xs)) ∧ Below w.heap.size w w' := by
  obtain ⟨i0, hi, hz0, hz1, hz2⟩ := info_parts infoIn
  have hl := h.le
  have hm := h.max
  unfold maxLen at hm
  have q22 : ∀ (w : World) (a : Option Addr) (n c n' c' : Nat), (binOp .eql 22 (.slice a n c) (.slice none n' c')).run Try.prog w = .ok (.bool a.isNone) w := fun w a n c n' c' => Lib.run_eql_slice_nil w _ _ a n c n' c' Try.underlying22
  have HR := Lib.hid (h.int_reads (B := w.heap.size) hS)
  cases A with
  | none =>
    have hx : xs = [] := by
      cases xs with
      | nil => rfl
      | cons x r => obtain ⟨ad, e, _⟩ := h.int_at (k := 0) (by simp); cases e
    subst hx
    clear h hS
    go_enter Try.func34, Try.ntmps34
    go_wp2
    go_ret
    exact ⟨⟨_, rfl, ownsRow_none _ _ _ _⟩, Below.refl _ _⟩
  | some ad =>
    clear h hS
    go_enter Try.func34, Try.ntmps34
    have HE := Lib.hid (own_empty w 3 1)
    go_wp2_with (at_builtin; refine wpList_append_any _ rfl _ _ 22 rfl w.heap.size 3 i0 _ 1 8 Try.underlying22 hi hz0 hz1 hz2 rfl (by decide) _ _ [] rfl HE.out w.heap.size (some ad) xs.length c (ints xs) rfl (HR.out.alloc (Nat.le_refl _) _) (ints_one xs) ?c3 ?c4 ?c5 ?_)
    case c3 => unfold maxLen; omega
    case c4 => omega
    case c5 => simp
    intro v' w1 hown1 hg1 hat1
    have HB : Hid (Below w.heap.size w w1) := Lib.hid (((Below.refl _ _).alloc (Nat.le_refl _) _).grown hg1 (by simp) (own_ge HE.out))
    have HO : Hid (w1.ownsRow w.heap.size 3 1 v' xs.length (ints xs)) := Lib.hid (by simpa using hown1)
    clear hown1 hg1 hat1
    go_wp2
    go_ret
    exact ⟨⟨_, rfl, HO.out⟩, HB.out⟩

/-- a predicate on changes that looks at the kinds alone -/
def TellsC (P : Program) (g : Nat) (lb : Array Value) (p : Int → Bool) (w : World) : Prop :=
  ∀ (W : World) (k : Int) (v1 v2 v3 v4 : Value), Below w.heap.size w W → v1.oneCell' = true → v2.oneCell' = true → v3.oneCell' = true → v4.oneCell' = true → Calls P g (#[.agg #[.int .i64 k, v1, v2, v3, v4]] ++ lb) W fun e W' => e = .returned (.bool (p k)) ∧ Below W.heap.size W W'

set_option maxRecDepth 100000 in
set_option maxHeartbeats 1000000 in
theorem indexFuncC_any (g : Nat) (lb : Array Value) (eg : ∀ args w, (callFunc g args).run Try.prog w = .ok (.enter g args) w) (p : Int → Bool) (S : Nat → Prop) (A : Option Addr) (c : Nat) (xs : List Chg) (w : World)
    (h : Sl rChg w S A c xs) (hS : ∀ b, S b → b < w.heap.size) (hp : 0 < xs.length → TellsC Try.prog g lb p w) :
    Calls Try.prog 56 #[.slice A xs.length c, .func (.func g) #[] lb] w fun e w' => (∃ n : Int, e = .returned (.int .i64 n) ∧ decide (0 ≤ n) = xs.any fun x => p x.1) ∧ Below w.heap.size w w' := by
  have hl := h.le
  have hm := h.max
  unfold maxLen at hm
  have HS := Lib.hid h
  have HP := Lib.hid hp
  have HB := Lib.hid hS
  clear h hp hS
  go_enter Try.func56, Try.ntmps56
  go_wp2
  go_loopw [5, 8] (fun _ i wr => ∃ k : Nat, k ≤ xs.length ∧ i = .int .i64 (k : Int) ∧ Hid ((xs.take k).any (fun x => p x.1) = false) ∧ Hid (Below w.heap.size w wr)) (fun _ i _ => xs.length - (intOf i).toNat)
  case atStart => exact ⟨0, by omega, rfl, Lib.hid (by simp), Lib.hid (Below.refl _ _)⟩
  case round =>
    obtain ⟨k, hk, rfl, HN, HX⟩ := hrel
    by_cases hlt : k < xs.length
    · obtain ⟨ad, Af, cf, At, ct, Al, cl, Ar, cr, hA, _, _, hc0, hc1, hc2, hc3, hc4, _⟩ := chg_at (HS.out.below HB.out HX.out) hlt
      subst hA
      have hcall := HP.out (by omega) wr (xs[k]'hlt).1 (.slice Af (xs[k]'hlt).2.1.length cf) (.slice At (xs[k]'hlt).2.2.1.length ct) (.slice Al (xs[k]'hlt).2.2.2.1.length cl) (.slice Ar (xs[k]'hlt).2.2.2.2.length cr) HX.out rfl rfl rfl rfl
      have HY := Lib.hid (fun h => any_next (p := fun x : Chg => p x.1) HN.out hlt h)
      have HH := Lib.hid (fun h => any_hit (p := fun x : Chg => p x.1) hlt h)
      generalize xs[k]'hlt = x at *
      cases hq : p x.1 with
      | true =>
        rw [hq] at hcall
        have HQ := Lib.hid hq
        clear hq
        go_wp2_with fail
        refine hcall.mono ?_
        rintro e w' ⟨rfl, hb'⟩
        replace hb' := Lib.hid (HX.out.trans (hb'.mono HX.out.size))
        clear hcall
        go_wp2
        go_ret
        refine ⟨⟨_, rfl, ?_⟩, hb'.out⟩
        rw [HH.out HQ.out]; simp
      | false =>
        rw [hq] at hcall
        have HQ := Lib.hid hq
        clear hq
        go_wp2_with fail
        refine hcall.mono ?_
        rintro e w' ⟨rfl, hb'⟩
        replace hb' := Lib.hid (HX.out.trans (hb'.mono HX.out.size))
        clear hcall
        go_wp2
        go_roundw
        case rel => exact ⟨k + 1, by omega, by go_num, Lib.hid (HY.out HQ.out), hb'⟩
        case measure => simp [intOf]; omega
    · have HE := Lib.hid (any_none HN.out (by omega))
      go_wp2
      go_ret
      exact ⟨⟨_, rfl, by rw [HE.out]; rfl⟩, HX.out⟩

set_option maxRecDepth 100000 in
set_option maxHeartbeats 1000000 in
theorem containsFuncC_any (g : Nat) (lb : Array Value) (eg : ∀ args w, (callFunc g args).run Try.prog w = .ok (.enter g args) w) (p : Int → Bool) (S : Nat → Prop) (A : Option Addr) (c : Nat) (xs : List Chg) (w : World)
    (h : Sl rChg w S A c xs) (hS : ∀ b, S b → b < w.heap.size) (hp : 0 < xs.length → TellsC Try.prog g lb p w) :
    Calls Try.prog 49 #[.slice A xs.length c, .func (.func g) #[] lb] w fun e w' => e = .returned (.bool (xs.any fun x => p x.1)) ∧ Below w.heap.size w w' := by
  have HC := Lib.hid (indexFuncC_any g lb eg p S A c xs w h hS hp)
  clear h hS hp eg
  go_enter Try.func49, Try.ntmps49
  go_wp2_with fail
  refine HC.out.mono ?_
  rintro e w' ⟨⟨n, rfl, hn⟩, hb⟩
  have HN := Lib.hid hn
  clear hn
  go_wp2
  all_goals go_ret
  all_goals exact ⟨by rw [← HN.out]; rfl, hb⟩

set_option maxRecDepth 100000 in
set_option maxHeartbeats 1000000 in
theorem checkAll1_tells (w : World) (B : Nat) (ad : Addr) (n c : Nat) (k0 : Int) (hn : 0 < n) (hB : B < w.heap.size) (hc : w.cell? ⟨B, 0, none⟩ = some (.slice (some ad) n c)) (hk : w.cell? ad = some (.int .i64 k0)) :
    TellsC Try.prog 50 #[.pointer (some ⟨B, 0, none⟩)] (fun k => k != k0) w := by
  intro W k v1 v2 v3 v4 hb o1 o2 o3 o4
  have hc' : W.cell? ⟨B, 0, none⟩ = some (.slice (some ad) n c) := (hb.cell (p := ⟨B, 0, none⟩) hB).trans hc
  have hk' : W.cell? ad = some (.int .i64 k0) := (hb.cell (World.block_lt_of_cell? _ _ hk)).trans hk
  have hn' : (0 : Int) < (n : Int) := by omega
  have hl := World.block_lt_of_cell? _ _ hk'
  have hB2 : B < W.heap.size := World.block_lt_of_cell? _ _ hc'
  clear hc hb hk
  have hX : Below W.heap.size W (W.alloc (.cells #[.int .i64 k, v1, v2, v3, v4] 25)) := (Below.refl _ _).alloc (Nat.le_refl _) _
  have HX := Lib.hid hX
  clear hX
  go_enter Try.func50, Try.ntmps50
  go_wp2
  go_quiet (fail)
  go_wp2
  go_ret
  exact ⟨rfl, below_drewN HX.out _⟩
end Go.Proofs.Ytaidkboijjkbgaa
