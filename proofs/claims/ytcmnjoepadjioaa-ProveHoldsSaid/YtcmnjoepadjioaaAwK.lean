/- Loops, joins and calls of abstract walks, as one uses them. Nothing of the program is named here. -/
import Derived.Test.YtcmnjoepadjioaaAwJ
namespace Go.Proofs.Ytcmnjoepadjioaa
open Go.RowKit Go.Maps

section
variable {P : Program} {w : World} {S : Nat → Prop} {σ : Nat → Option Value} {H H0 H1 H2 V : AH} {B : Nat}
theorem AH.le.refl (H : AH) : H.le H := fun _ _ h => h
theorem AH.le.trans (h : H0.le H1) (k : H1.le H2) : H0.le H2 := fun _ _ q => k _ _ (h _ _ q)
theorem AH.le.up {n : Nat} (h : H0.le H1) : H0.le (H1.up n) := h
theorem AH.le.put {i : Nat} {o : AO} (hw : WF H0) (hi : H0.nx ≤ i) (h : H0.le H1) : H0.le (H1.put i o) := fun id o' ho => by
  rw [AH.get_put_ne (by have := (hw id o' ho).1; omega)]; exact h _ _ ho
theorem AH.le.kill {i : Nat} (hw : WF H0) (hi : H0.nx ≤ i) (h : H0.le H1) : H0.le (H1.kill i) := AH.le.put hw hi h
theorem AH.le.get_ {i : Nat} {o : AO} (h : H0.le H1) (hg : H0.get i = some o) : H1.get i = some o := h _ _ hg
theorem wf_none (hw : WF H) {i : Nat} (h : H.nx ≤ i) : H.get i = none := by
  cases hg : H.get i with
  | none => rfl
  | some o => have := (hw i o hg).1; omega
theorem least {S : Nat → Prop} : ∀ n, S n → ∃ n, S n ∧ ∀ m, S m → n ≤ m := by
  intro n
  induction n using Nat.strongRecOn with
  | ind n ih =>
    intro h
    by_cases hx : ∃ m, m < n ∧ S m
    · obtain ⟨m, h1, h2⟩ := hx; exact ih m h1 h2
    · exact ⟨n, h, fun m hm => Nat.le_of_not_lt fun hl => hx ⟨m, hl, hm⟩⟩
open Classical in
noncomputable def low (S : Nat → Prop) : Nat := if h : ∃ n, S n then Classical.choose (least h.choose h.choose_spec) else 0
theorem low_spec {S : Nat → Prop} {n : Nat} (h : S n) : S (low S) ∧ low S ≤ n := by
  have hx : ∃ n, S n := ⟨n, h⟩
  have := Classical.choose_spec (least hx.choose hx.choose_spec)
  unfold low
  rw [dif_pos hx]
  exact ⟨this.1, this.2 n h⟩
/-- a loop, by what holds at its head -/
theorem loop_st {α : Type} (enc : α → List AV) {m : Nat} (Inv : α → AH → Prop) (μ : α → Nat) (a0 : α) {vs0 : List AV} {F : List AV → (List AV → AH → Prop) → AH → Prop} (h0 : GW P H.nx vs0 H (enc a0) H0) (hi : Inv a0 H0)
    (hB : ∀ a H1, H.nx ≤ H1.nx → Inv a H1 → ∀ k : List AV → AH → Prop, (∀ a' H2 vs' H', GW P H.nx vs' H' (enc a') H2 → Inv a' H2 → μ a' < μ a → k vs' H') → F (enc a) k H1) : LoopA P m F vs0 H := by
  refine ⟨fun vs H' => ∃ a, vs = enc a ∧ Inv a H', fun vs H' => low fun n => ∃ a, vs = enc a ∧ Inv a H' ∧ μ a = n, ⟨_, _, h0, a0, rfl, hi⟩, ?_⟩
  rintro vs H1 _ hn ⟨a, rfl, ha⟩
  obtain ⟨⟨b, hb, hbi, hbm⟩, _⟩ := low_spec (S := fun n => ∃ b, enc a = enc b ∧ Inv b H1 ∧ μ b = n) ⟨a, rfl, ha, rfl⟩
  rw [hb] at hbm ⊢
  refine hB b H1 hn hbi _ fun a' H2 vs' H' hg hi2 hlt => ⟨_, _, hg, ⟨a', rfl, hi2⟩, ?_⟩
  have h2 := (low_spec (S := fun n => ∃ b, enc a' = enc b ∧ Inv b H2 ∧ μ b = n) ⟨a', rfl, hi2, rfl⟩).2
  dsimp only
  rw [← hbm]
  exact Nat.lt_of_le_of_lt h2 hlt
/-- a join, by what holds there -/
theorem cut_st {α : Type} (enc : α → List AV) {m : Nat} (Inv : α → AH → Prop) {F : (List AV → AH → Prop) → AH → Prop} {K : List AV → AH → Prop} (hA : ∀ k : List AV → AH → Prop, (∀ a' H2 vs' H', GW P H.nx vs' H' (enc a') H2 → Inv a' H2 → k vs' H') → F k H)
    (hK : ∀ a H', H.nx ≤ H'.nx → Inv a H' → K (enc a) H') : CutA P m F K H :=
  ⟨fun vs H' => ∃ a, vs = enc a ∧ Inv a H', hA _ fun a' H2 vs' H' hg hi => ⟨_, _, hg, a', rfl, hi⟩, fun vs H' _ hn ⟨a, e, hi⟩ => by subst e; exact hK a H' hn hi⟩
/-- how long a slice can be -/
theorem tri_len {f : FuncId} {ps : List AV} {Q : AV → AH → Prop} (i : Nat) {sz : Nat} {xs : List (List AV)} (hi : ps[i]? = some (.dsl sz xs)) (h : xs.length ≤ maxLen → (∀ e ∈ xs, e.length = sz) → Tri P f ps H Q) : Tri P f ps H Q := fun w S σ us hs hr => by
  obtain ⟨v, hv, hrv⟩ := hr.at_ hi
  obtain ⟨A, c, z, rfl, h1, h2, h3, _⟩ := hrv.dsl_inv.dsl_inv
  exact h (by omega) h3 w S σ us hs hr
theorem ivn {i : Nat} (h : i < 9223372036854775807) : IntKind.i64.wrap ((i : Int) + 1) = ((i + 1 : Nat) : Int) := by rw [IntKind.wrap_i64]; omega
/-- a slice of one's own that grows: nil, or a row laid since -/
def Grows (t sz : Nat) (H0 H1 : AH) (v : AV) (es : List (List AV)) : Prop :=
  (v = .p (.slice none 0 0) ∧ es = []) ∨ ∃ r xs, v = .osl r sz 0 es.length ∧ H0.nx ≤ r ∧ r < H1.nx ∧ H1.get r = some (.row t sz xs) ∧ xs.take es.length = es ∧ DtR xs
theorem Grows.nil (t sz : Nat) (H0 H1 : AH) : Grows t sz H0 H1 (.p (.slice none 0 0)) [] := .inl ⟨rfl, rfl⟩
theorem Grows.row {t sz r n : Nat} {xs : List (List AV)} (h1 : H0.nx ≤ r) (h2 : r < H1.nx) (h3 : H1.get r = some (.row t sz xs)) (h4 : DtR xs) (h5 : n = xs.length) : Grows t sz H0 H1 (.osl r sz 0 n) xs :=
  .inr ⟨r, xs, by rw [h5], h1, h2, h3, List.take_length, h4⟩
theorem Grows.keep {t sz : Nat} {v : AV} {es : List (List AV)} (h : Grows t sz H0 H1 v es) (hn : H1.nx ≤ H2.nx) (hk : ∀ j o, H0.nx ≤ j → H1.get j = some o → H2.get j = some o) : Grows t sz H0 H2 v es := by
  rcases h with h | ⟨r, xs, h1, h2, h3, h4, h5, h6⟩
  · exact .inl h
  · exact .inr ⟨r, xs, h1, h2, by omega, hk _ _ h2 h4, h5, h6⟩
theorem DtR.app {xs ys : List (List AV)} (h : DtR xs) (k : DtR ys) : DtR (xs ++ ys) := fun e he => (List.mem_append.1 he).elim (h e) (k e)
theorem DtR.take {xs : List (List AV)} {n : Nat} (h : DtR xs) : DtR (xs.take n) := fun e he => h e (List.mem_of_mem_take he)
theorem DtR.drop {xs : List (List AV)} {n : Nat} (h : DtR xs) : DtR (xs.drop n) := fun e he => h e (List.mem_of_mem_drop he)
theorem Grows.len {t sz : Nat} {v : AV} {es : List (List AV)} {k : AV → AH → Prop} {H : AH} (h : Grows t sz H0 H1 v es) : Pu P .len [v] k H = k (.p (.int .i64 es.length)) H := by
  rcases h with ⟨rfl, rfl⟩ | ⟨r, xs, rfl, _⟩
  · rw [q_len_nil]; rfl
  · rw [q_len_osl]
/-- what is appended stands behind -/
theorem Grows.app {t sz bytes id : Nat} {v x : AV} {es ys : List (List AV)} {k : AV → AH → AH → Prop} (hw : WF H0) (hg : Grows t sz H0 H1 v es) (hle : H0.le H1) (hid : H0.nx ≤ id) (hid2 : id < H1.nx) (hx : elF H1 sz x = some ys) (hd : DtR ys) (h1 : es.length + ys.length ≤ maxLen) (h2 : (es.length + ys.length) * bytes ≤ 140737488355328)
    (hk : ∀ v' H2, Grows t sz H0 H2 v' (es ++ ys) → H0.le H2 → H2.nx = H1.nx → (∀ j, j ≠ id → (∀ n, v ≠ .osl j sz 0 n) → H2.get j = H1.get j) → (∃ n, v' = .osl id sz 0 n) → k v' H2 H2) : Wr P id (.app t sz bytes) [v, x] k H1 := by
  rcases hg with ⟨rfl, rfl⟩ | ⟨r, xs, rfl, g1, g2, g3, g4, g5⟩
  · rw [wr_app_nil, hx]
    simp only [List.length_nil, Nat.zero_add] at h1 h2
    refine ⟨h1, h2, hk _ _ ?_ (.put hw hid hle) rfl (fun j hj _ => AH.get_put_ne hj) ⟨_, rfl⟩⟩
    exact .row hid hid2 (by rw [AH.get_put_self]; rfl) (by simpa using hd) (by simp)
  · rw [wr_app_osl, hx, g3]
    refine ⟨rfl, rfl, ?_, h1, h2, hk _ _ ?_ (.put hw hid (.kill hw g1 hle)) rfl (fun j hj hv => ?_) ⟨_, rfl⟩⟩
    · have := congrArg List.length g4
      rw [List.length_take] at this
      omega
    · refine .inr ⟨id, _, by rw [List.length_append], hid, hid2, AH.get_put_self, ?_, ?_⟩
      · rw [List.drop_zero, g4, List.take_length]
      · rw [List.drop_zero, g4]; exact DtR.app (by rw [← g4]; exact g5.take) hd
    · have hr : j ≠ r := fun e => hv es.length (by rw [e])
      rw [AH.get_put_ne hj, AH.kill, AH.get_put_ne hr]
theorem Grows.not {t sz j : Nat} {v : AV} {es : List (List AV)} (h : Grows t sz H0 H1 v es) (hj : ∀ xs, H1.get j ≠ some (.row t sz xs)) : ∀ n, v ≠ .osl j sz 0 n := fun n hn => by
  rcases h with ⟨h1, _⟩ | ⟨r, xs, h1, _, _, h4, _⟩
  · rw [h1] at hn; cases hn
  · rw [h1] at hn; injection hn with hn; subst hn; exact hj _ h4
theorem Grows.part {t sz : Nat} {v : AV} {es : List (List AV)} (h : Grows t sz H0 H1 v es) : AV.part v = true ∧ AV.cells v = [v] := by
  rcases h with ⟨rfl, _⟩ | ⟨r, xs, rfl, _⟩ <;> exact ⟨rfl, rfl⟩
theorem Grows.lt {t sz j n : Nat} {v : AV} {es : List (List AV)} (h : Grows t sz H0 H1 v es) (hj : v = .osl j sz 0 n) : j < H1.nx := by
  rcases h with ⟨h1, _⟩ | ⟨r, xs, h1, _, h3, _⟩
  · rw [h1] at hj; cases hj
  · rw [h1] at hj; injection hj with hj; omega
theorem Grows.same {t sz : Nat} {v : AV} {es : List (List AV)} (h : Grows t sz H0 H1 v es) (hn : H1.nx ≤ H2.nx) (hk : ∀ j, j < H1.nx → (∃ n, v = .osl j sz 0 n) → H2.get j = H1.get j) : Grows t sz H0 H2 v es := by
  rcases h with h | ⟨r, xs, h1, h2, h3, h4, h5, h6⟩
  · exact .inl h
  · exact .inr ⟨r, xs, h1, h2, by omega, by rw [hk r h3 ⟨_, h1⟩]; exact h4, h5, h6⟩
theorem Grows.at_ {t sz : Nat} {v : AV} {es : List (List AV)} (h : Grows t sz H0 H1 v es) (hn : 0 < es.length) : ∃ r xs, v = .osl r sz 0 es.length ∧ r < H1.nx ∧ H1.get r = some (.row t sz xs) ∧ ∀ i, i < es.length → xs[i]? = es[i]? := by
  rcases h with ⟨_, h2⟩ | ⟨r, xs, h1, h2, h3, h4, h5, h6⟩
  · rw [h2] at hn; simp at hn
  · refine ⟨r, xs, h1, h3, h4, fun i hi => ?_⟩
    rw [← h5, List.getElem?_take, if_pos hi]
theorem Grows.el {t sz : Nat} {v : AV} {es : List (List AV)} (h : Grows t sz H0 H1 v es) : elF H1 sz v = some es := by
  rcases h with ⟨rfl, rfl⟩ | ⟨r, xs, rfl, _, _, h3, h4, _⟩
  · rfl
  · rw [elF_osl, h3, elRow_row, List.drop_zero, h4]
    have := congrArg List.length h4
    rw [List.length_take] at this
    omega
/-- it is handed over as data, in a memory that keeps all else -/
theorem Grows.fz {t sz : Nat} {v : AV} {es : List (List AV)} (h : Grows t sz H0 H1 v es) (hw : WF H0) (hle : H0.le H1) (hn : H0.nx ≤ H1.nx) : ∃ H2, Gst P H1 H2 ∧ H0.le H2 ∧ H2.nx = H1.nx ∧ (∀ j, (∀ n, v ≠ .osl j sz 0 n) → H2.get j = H1.get j) ∧ Sub P H2 v (.dsl sz es) := by
  rcases h with ⟨rfl, rfl⟩ | ⟨r, xs, rfl, h1, h2, h3, h4, h5⟩
  · exact ⟨H1, ⟨Nat.le_refl _, fun w S σ hs => ⟨S, hs, fun _ h => h, fun _ h => .inl h, fun _ h => h⟩⟩, hle, rfl, fun _ _ => rfl, .nil _ _ (Nat.zero_le _)⟩
  · refine ⟨_, .freeze h3 h5, .put hw h1 hle, rfl, fun j hj => AH.get_put_ne fun e => hj es.length (by rw [e]), ?_⟩
    have := Sub.frz (P := P) (H := H1.put r (.frz sz xs)) (r := r) (sz := sz) (off := 0) (n := es.length) AH.get_put_self (by
      have := congrArg List.length h4
      rw [List.length_take] at this
      omega)
    rwa [List.drop_zero, h4] at this
theorem Grows.rt {t sz : Nat} {v : AV} {es : List (List AV)} {Q : AV → AH → Prop} (h : Grows t sz H0 H1 v es) (hw : WF H0) (hle : H0.le H1) (hn : H0.nx ≤ H1.nx) (hq : Q (.dsl sz es) H0) : Rt P H0.nx v Q H1 := by
  obtain ⟨H2, k1, k2, k3, _, k4⟩ := h.fz (P := P) hw hle hn
  exact Gh.step ((GW.st k1 hn).trans (GW.sub (.cons k4 .nil) (by omega))) (Gh.back hw k2 (.one (.dsl _ _)) ⟨_, rfl, hq⟩)
/-- the cells of a box are told anew -/
theorem Gst.box {b : Nat} {t : TypeId} {cs cs' : List AV} (hg : H.get b = some (.box t cs)) (hs : Subs P H cs cs') : Gst P H (H.put b (.box t cs')) := by
  refine ⟨Nat.le_refl _, fun w S σ h => ?_⟩
  have hget : ∀ id o, (H.put b (.box t cs')).get id = some o → ∃ o', H.get id = some o' ∧ o'.owned = o.owned ∧ (id = b ∨ o' = o) := by
    intro id o ho
    by_cases e : id = b
    · subst e; rw [AH.get_put_self] at ho; injection ho with ho; subst ho; exact ⟨_, hg, rfl, .inl rfl⟩
    · rw [AH.get_put_ne e] at ho; exact ⟨_, ho, rfl, .inr rfl⟩
  refine ⟨S, ⟨h.sb, h.dom, fun id o ho => ?_, fun i j o o' x h1 h2 k1 k2 b1 b2 => ?_, fun i o x h1 k1 b1 => ?_, h.sl⟩, fun _ q => q, fun _ q => .inl q, ?_⟩
  · by_cases e : id = b
    · subst e
      rw [AH.get_put_self] at ho; injection ho with ho; subst ho
      obtain ⟨g, arr, h1, h2, h3, h4⟩ := h.obj id _ hg
      exact ⟨g, arr, h1, h2, hs.rps h h3, h4⟩
    · rw [AH.get_put_ne e] at ho; exact h.obj id o ho
  · obtain ⟨p1, q1, r1, _⟩ := hget i o h1
    obtain ⟨p2, q2, r2, _⟩ := hget j o' h2
    exact h.dj i j p1 p2 x q1 q2 (r1.trans k1) (r2.trans k2) b1 b2
  · obtain ⟨p1, q1, r1, _⟩ := hget i o h1
    exact h.sep i p1 x q1 (r1.trans k1) b1
  · rintro x ⟨i, o, h1, k1, b1⟩
    obtain ⟨p1, q1, r1, _⟩ := hget i o h1
    exact ⟨i, p1, q1, r1.trans k1, b1⟩
end
end Go.Proofs.Ytcmnjoepadjioaa
