/- Texts that the proof rests on, part 12: what each holds stands at its head. -/
import Derived.Test.YtcmnjoepadjioaaMc11

/- Abstract walks of functions, written by a program (wip/aw/aw.py): each equation is checked by the kernel. -/
namespace Go.Proofs.Ytcmnjoepadjioaa
open Go.RowKit

/-! wordhoard/wordhoardlaw.ProveHolds -/
def ac_wordhoardlaw_ProveHolds : AC := (.seq (.reg 0) (.seq (.reg 1) (.seq (.reg 2) (.cut [7] [(16, 20)] (.seq (.reg 3) (.cond (.tmp 17) (.reg 4) .skip)) (.seq (.reg 5) .ret)))))
def S_wordhoardlaw_ProveHolds (a0 a1 : AV) (Q : AV → AH → Prop) (H : AH) : Prop := (
    Rg 2 fun b =>
    Al (b + 0) (.bx 24) [a1] fun v3 =>
    RdS Try.prog (.ld 3 true) [v3] fun v10 =>
    Ca Try.prog (.fn (.func 7) [] []) [a0, v10] fun v11 =>
    Pu Try.prog (.ext 0) [v11] fun v12 =>
    Pu Try.prog (.ext 1) [v11] fun v13 =>
    Ca Try.prog (.fn (.func 8) [] []) [a0] fun v15 =>
    CutA Try.prog 1 (fun k =>
      Pu Try.prog (.bin .eql 25) [v15, (.p (.int .i64 0))] fun v17 =>
      CdA v17
        (
        RdS Try.prog (.ld 3 true) [v3] fun v18 =>
        Ca Try.prog (.fn (.func 9) [] []) [v18] fun v19 =>
        k [v19]
        ) (
        k [v15]
        )
      ) fun vs =>
    Vw fun V =>
    CaV Try.prog V (.fn (.func 10) [] []) [] fun v20 =>
    GdV v20 true (fun k_16 => Rd Try.prog V (.ld 3 true) [v3] (fun a => k_16 a V)) V fun v22 V_17 =>
    GdV v20 true (fun k_19 => CaV Try.prog V_17 (.fn (.func 11) [] []) [v22] (fun a => k_19 a V_17)) V_17 fun v23 V_20 =>
    GdV v20 true (fun k_22 => Rd Try.prog V_20 (.ld 3 true) [v3] (fun a => k_22 a V_20)) V_20 fun v24 V_23 =>
    GdV v20 true (fun k_25 => CaV Try.prog V_23 (.fn (.func 9) [] []) [v24] (fun a => k_25 a V_23)) V_23 fun v25 V_26 =>
    GdV v20 true (fun k_28 => Pu Try.prog (.bin .eql 25) [v23, v25] (fun a => k_28 a V_26)) V_26 fun v26 V_29 =>
    Pu Try.prog .pick [v20, v26, (.p (.bool false))] fun v27 =>
    GdV v27 true (fun k_32 => k_32 v13 V_29) V_29 fun v29 V_33 =>
    GdV v27 true (fun k_35 => k_35 (vs.getD 0 .any) V_33) V_33 fun v30 V_36 =>
    GdV v27 true (fun k_38 => Pu Try.prog (.bin .eql 25) [v29, v30] (fun a => k_38 a V_36)) V_36 fun v31 V_39 =>
    Pu Try.prog .pick [v27, v31, (.p (.bool false))] fun v32 =>
    GdV v32 true (fun k_42 => k_42 v12 V_39) V_39 fun v34 V_43 =>
    GdV v32 true (fun k_45 => k_45 (vs.getD 0 .any) V_43) V_43 fun v35 V_46 =>
    GdV v32 true (fun k_48 => Pu Try.prog (.bin .eql 25) [v35, (.p (.int .i64 0))] (fun a => k_48 a V_46)) V_46 fun v36 V_49 =>
    GdV v32 true (fun k_51 => k_51 v36 V_49) V_49 fun v37 V_52 =>
    GdV v37 true (fun k_54 => k_54 a0 V_52) V_52 fun v38 V_55 =>
    GdV v37 true (fun k_57 => Rd Try.prog V_55 (.ld 3 true) [v3] (fun a => k_57 a V_55)) V_55 fun v39 V_58 =>
    GdV v37 true (fun k_60 => CaV Try.prog V_58 (.fn (.func 12) [] []) [v38, v39] (fun a => k_60 a V_58)) V_58 fun v40 V_61 =>
    GdV v32 true (fun k_63 => Pu Try.prog .pick [v37, v40, (.p (.bool false))] (fun a => k_63 a V_61)) V_61 fun v41 V_64 =>
    GdV v32 true (fun k_66 => Pu Try.prog (.bin .eql 4) [v34, v41] (fun a => k_66 a V_64)) V_64 fun v42 _ =>
    Pu Try.prog .pick [v32, v42, (.p (.bool false))] fun v43 =>
    Rt Try.prog H.nx v43 Q
    ) H
theorem eq_wordhoardlaw_ProveHolds (a0 a1 : AV) (Q : AV → AH → Prop) (H : AH) : FnA Try.prog 44 (regsF Try.f3) ac_wordhoardlaw_ProveHolds [.tm 4] [a0, a1] H Q = S_wordhoardlaw_ProveHolds a0 a1 Q H := by kernel_rfl
theorem tri_wordhoardlaw_ProveHolds {a0 a1 : AV} {H : AH} {Q : AV → AH → Prop} (h : S_wordhoardlaw_ProveHolds a0 a1 Q H) : Tri Try.prog 3 [a0, a1] H Q :=
  tri_of (Ms := [#[], #[], #[], #[], #[], #[0, 1, 3, 7, 3, 31, 63, 127, 255, 511, 511, 2047, 4095, 8191, 16383, 16383, 49151, 114687, 245759, 245759, 1032191, 2080767, 4194303, 8388607, 16777215]]) mixed Try.func3 rfl (by kernel_rfl) (by kernel_rfl) rfl (of_decide_eq_true rfl : 2 ≤ 44) ((eq_wordhoardlaw_ProveHolds a0 a1 Q H).symm ▸ h : FnA Try.prog 44 (regsF Try.f3) ac_wordhoardlaw_ProveHolds [.tm 4] [a0, a1] H Q)

/-! wordhoard/wordhoardlaw.proveBegun -/
def ac_wordhoardlaw_proveBegun : AC := (.seq (.reg 0) (.seq (.reg 1) (.seq (.reg 2) .ret)))
def S_wordhoardlaw_proveBegun (Q : AV → AH → Prop) (H : AH) : Prop := (
    Rg 12 fun b =>
    Pu Try.prog (.bld [.p (.bool false), .p (.int .i64 0), .p (.int .i64 0)] [(1, 1), (2, 1)]) [(.p (.int .i64 1)), (.p (.int .i64 2))] fun v5 =>
    Pu Try.prog (.bld [.p (.bool false), .p (.int .i64 0), .p (.int .i64 0)] [(0, 1), (1, 1), (2, 1)]) [(.p (.bool true)), (.p (.int .i64 3)), (.p (.int .i64 1))] fun v6 =>
    Al (b + 2) (.bs 24 3 2 [.p (.bool false), .p (.int .i64 0), .p (.int .i64 0)] [(0, 3), (3, 3)]) [v5, v6] fun v7 =>
    Pu Try.prog (.bld [.p (.bool false), .p (.int .i64 0), .p (.int .i64 0)] [(0, 1), (1, 1), (2, 1)]) [(.p (.bool true)), (.p (.int .i64 3)), (.p (.int .i64 2))] fun v8 =>
    Ca Try.prog (.fn (.func 16) [] []) [v7, v8] fun v9 =>
    Pu Try.prog (.ext 0) [v9] fun v10 =>
    Pu Try.prog (.ext 1) [v9] fun v11 =>
    Pu Try.prog (.ext 2) [v9] fun v12 =>
    Pu Try.prog (.bin .eql 25) [v12, (.p (.int .i64 0))] fun v14 =>
    Gd v14 true (fun k => k v11) fun v16 =>
    Pu Try.prog .pick [v14, v16, (.p (.bool false))] fun v17 =>
    Gd v17 true (fun k_15 => k_15 v10) fun v19 =>
    Gd v17 true (fun k_17 => Pu Try.prog .len [v19] k_17) fun v20 =>
    Gd v17 true (fun k_19 => Pu Try.prog (.bin .gtr 3) [v20, (.p (.int .i64 0))] k_19) fun v21 =>
    Pu Try.prog .pick [v17, v21, (.p (.bool false))] fun v22 =>
    Rt Try.prog H.nx v22 Q
    ) H
theorem eq_wordhoardlaw_proveBegun (Q : AV → AH → Prop) (H : AH) : FnA Try.prog 23 (regsF Try.f10) ac_wordhoardlaw_proveBegun [.tm 0] [] H Q = S_wordhoardlaw_proveBegun Q H := by kernel_rfl
theorem tri_wordhoardlaw_proveBegun {H : AH} {Q : AV → AH → Prop} (h : S_wordhoardlaw_proveBegun Q H) : Tri Try.prog 10 [] H Q :=
  tri_of (Ms := [#[], #[], #[]]) mixed Try.func10 rfl (by kernel_rfl) (by kernel_rfl) rfl (of_decide_eq_true rfl : 0 ≤ 23) ((eq_wordhoardlaw_proveBegun Q H).symm ▸ h : FnA Try.prog 23 (regsF Try.f10) ac_wordhoardlaw_proveBegun [.tm 0] [] H Q)

/-! wordhoard/wordhoardref.Follows -/
def ac_wordhoardref_Follows : AC := (.seq (.reg 0) (.seq (.reg 1) (.seq (.seq (.reg 2) (.block 0 (.loop [5, 6] [(7, 9), (14, 46)] (.seq (.seq (.reg 3) (.cond (.tmp 15) .skip (.exit 0))) (.seq (.block 1 (.seq (.reg 4) (.seq (.seq (.reg 5) (.block 2 (.loop [7, 8] [(18, 41)] (.seq (.seq (.reg 6) (.cond (.tmp 21) .skip (.exit 2))) (.seq (.block 3 (.reg 7)) (.reg 8)))))) (.seq (.reg 9) (.cond (.tmp 41) (.reg 10) .skip))))) (.reg 11)))))) (.seq (.gh (.reg 12)) (.seq (.seq (.reg 13) (.block 4 (.loop [9, 10] [(4, 5), (11, 14), (46, 89)] (.seq (.seq (.reg 14) (.cond (.tmp 49) .skip (.exit 4))) (.seq (.block 5 (.seq (.seq (.reg 15) (.cond (.tmp 57) (.exit 5) .skip)) (.seq (.reg 16) (.seq (.seq (.reg 17) (.block 6 (.loop [11, 12, 13] [(58, 84)] (.seq (.seq (.reg 18) (.cond (.tmp 61) .skip (.exit 6))) (.seq (.block 7 (.seq (.reg 19) (.cond (.tmp 73) (.seq (.reg 20) (.reg 21)) .skip))) (.reg 22)))))) (.seq (.seq (.reg 23) (.cond (.tmp 84) (.seq (.reg 24) .ret) .skip)) (.reg 25)))))) (.reg 26)))))) (.seq (.seq (.reg 27) (.cond (.tmp 90) (.seq (.reg 28) .ret) .skip)) (.seq (.reg 29) .ret)))))))
def S_wordhoardref_Follows (a0 a1 : AV) (Q : AV → AH → Prop) (H : AH) : Prop := (
    Rg 2 fun b =>
    Al (b + 0) (.bx 24) [a1] fun v3 =>
    LoopA Try.prog 2 (fun vs k =>
      Pu Try.prog (.bin .lss 3) [(vs.getD 1 .any), (.p (.int .i64 64))] fun v15 =>
      CdA v15
        (
        LoopA Try.prog 2 (fun vs_7 k_6 =>
          Pu Try.prog .len [a0] fun v20 =>
          Pu Try.prog (.bin .lss 3) [(vs_7.getD 1 .any), v20] fun v21 =>
          CdA v21
            (
            Rg 18 fun b_10 =>
            Gd (vs_7.getD 0 .any) true (fun k_12 => k_12 a0) fun v26 =>
            Gd (vs_7.getD 0 .any) true (fun k_14 => k_14 (vs_7.getD 1 .any)) fun v27 =>
            Gd (vs_7.getD 0 .any) true (fun k_16 => Pu Try.prog (.idx 3) [v26, v27] k_16) fun v28 =>
            Gd (vs_7.getD 0 .any) true (fun k_18 => Pu Try.prog (.addOff 0) [v28] k_18) fun v29 =>
            Gd (vs_7.getD 0 .any) true (fun k_20 => RdS Try.prog (.ld 1 false) [v29] k_20) fun v30 =>
            Gd (vs_7.getD 0 .any) true (fun k_22 => k_22 v30) fun v31 =>
            Gd v31 false (fun k_24 => k_24 (vs.getD 1 .any)) fun v32 =>
            Gd v31 false (fun k_26 => Al (b_10 + 9) (.bs 3 1 1 [.p (.int .i64 0)] [(0, 1)]) [v32] k_26) fun v33 =>
            Gd v31 false (fun k_28 => k_28 a0) fun v34 =>
            Gd v31 false (fun k_30 => k_30 (vs_7.getD 1 .any)) fun v35 =>
            Gd v31 false (fun k_32 => Pu Try.prog (.idx 3) [v34, v35] k_32) fun v36 =>
            Gd v31 false (fun k_34 => RdS Try.prog (.ld 3 true) [v36] k_34) fun v37 =>
            Gd v31 false (fun k_36 => Ca Try.prog (.fn (.func 12) [] []) [v33, v37] k_36) fun v38 =>
            Gd (vs_7.getD 0 .any) true (fun k_38 => Pu Try.prog .pick [v31, (.p (.bool true)), v38] k_38) fun v39 =>
            Pu Try.prog .pick [(vs_7.getD 0 .any), v39, (.p (.bool false))] fun v40 =>
            Pu Try.prog (.bin .add 3) [(vs_7.getD 1 .any), (.p (.int .i64 1))] fun v23 =>
            k_6 [v40, v23]
            ) (
            CdA (vs_7.getD 0 .any)
              (
              Rg 5 fun b_41 =>
              Al (b_41 + 2) (.bs 3 1 1 [.p (.int .i64 0)] [(0, 1)]) [(vs.getD 1 .any)] fun v44 =>
              WrS Try.prog (b_41 + 3) (.app 3 1 8) [(vs.getD 0 .any), v44] fun v45 =>
              Pu Try.prog (.bin .add 3) [(vs.getD 1 .any), (.p (.int .i64 1))] fun v17 =>
              k [v45, v17]
              ) (
              Pu Try.prog (.bin .add 3) [(vs.getD 1 .any), (.p (.int .i64 1))] fun v17_45 =>
              k [(vs.getD 0 .any), v17_45]
              )
            )
          ) [(.p (.bool true)), (.p (.int .i64 0))]
        ) (
        Gq Try.prog <|
        LoopA Try.prog 2 (fun vs_47 k_46 =>
          Pu Try.prog .len [a0] fun v48 =>
          Pu Try.prog (.bin .lss 3) [(vs_47.getD 1 .any), v48] fun v49 =>
          CdA v49
            (
            Pu Try.prog (.idx 3) [a0, (vs_47.getD 1 .any)] fun v54 =>
            Pu Try.prog (.addOff 0) [v54] fun v55 =>
            RdS Try.prog (.ld 1 false) [v55] fun v56 =>
            Pu Try.prog (.un .not) [v56] fun v57 =>
            CdA v57
              (
              Pu Try.prog (.bin .add 3) [(vs_47.getD 1 .any), (.p (.int .i64 1))] fun v51 =>
              k_46 [(vs_47.getD 0 .any), v51]
              ) (
              LoopA Try.prog 3 (fun vs_56 k_55 =>
                Pu Try.prog .len [(vs.getD 0 .any)] fun v60 =>
                Pu Try.prog (.bin .lss 3) [(vs_56.getD 2 .any), v60] fun v61 =>
                CdA v61
                  (
                  Vw fun V =>
                  Pu Try.prog (.bin .add 3) [(vs_56.getD 2 .any), (.p (.int .i64 1))] fun v67 =>
                  Pu Try.prog (.slc 1 true true) [(vs.getD 0 .any), (vs_56.getD 2 .any), v67] fun v68 =>
                  Pu Try.prog (.idx 3) [a0, (vs_47.getD 1 .any)] fun v71 =>
                  Rd Try.prog V (.ld 3 true) [v71] fun v72 =>
                  CaV Try.prog V (.fn (.func 12) [] []) [v68, v72] fun v73 =>
                  CdA v73
                    (
                    Vw fun V_65 =>
                    GdV (vs_56.getD 1 .any) true (fun k_67 => k_67 (vs.getD 0 .any) V_65) V_65 fun v76 V_68 =>
                    GdV (vs_56.getD 1 .any) true (fun k_70 => k_70 (vs_56.getD 2 .any) V_68) V_68 fun v77 V_71 =>
                    GdV (vs_56.getD 1 .any) true (fun k_73 => k_73 (vs_56.getD 2 .any) V_71) V_71 fun v78 V_74 =>
                    GdV (vs_56.getD 1 .any) true (fun k_76 => Pu Try.prog (.bin .add 3) [v78, (.p (.int .i64 1))] (fun a => k_76 a V_74)) V_74 fun v79 V_77 =>
                    GdV (vs_56.getD 1 .any) true (fun k_79 => Pu Try.prog (.slc 1 true true) [v76, v77, v79] (fun a => k_79 a V_77)) V_77 fun v80 V_80 =>
                    GdV (vs_56.getD 1 .any) true (fun k_82 => Rd Try.prog V_80 (.ld 3 true) [v3] (fun a => k_82 a V_80)) V_80 fun v81 V_83 =>
                    GdV (vs_56.getD 1 .any) true (fun k_85 => CaV Try.prog V_83 (.fn (.func 12) [] []) [v80, v81] (fun a => k_85 a V_83)) V_83 fun v82 _ =>
                    Pu Try.prog .pick [(vs_56.getD 1 .any), v82, (.p (.bool false))] fun v83 =>
                    Pu Try.prog (.bin .add 3) [(vs_56.getD 2 .any), (.p (.int .i64 1))] fun v63 =>
                    k_55 [(.p (.bool false)), v83, v63]
                    ) (
                    Pu Try.prog (.bin .add 3) [(vs_56.getD 2 .any), (.p (.int .i64 1))] fun v63_89 =>
                    k_55 [(vs_56.getD 0 .any), (vs_56.getD 1 .any), v63_89]
                    )
                  ) (
                  CdA (vs_56.getD 0 .any)
                    (
                    Rt Try.prog H.nx (.p (.bool true)) Q
                    ) (
                    Gd (vs_47.getD 0 .any) false (fun k_91 => k_91 (vs_56.getD 1 .any)) fun v87 =>
                    Pu Try.prog .pick [(vs_47.getD 0 .any), (.p (.bool true)), v87] fun v88 =>
                    Pu Try.prog (.bin .add 3) [(vs_47.getD 1 .any), (.p (.int .i64 1))] fun v51_93 =>
                    k_46 [v88, v51_93]
                    )
                  )
                ) [(.p (.bool true)), (.p (.bool true)), (.p (.int .i64 0))]
              )
            ) (
            Pu Try.prog (.addOff 0) [v3] fun v89 =>
            RdS Try.prog (.ld 1 false) [v89] fun v90 =>
            CdA v90
              (
              Rt Try.prog H.nx (vs_47.getD 0 .any) Q
              ) (
              RdS Try.prog (.ld 3 true) [v3] fun v93 =>
              Ca Try.prog (.fn (.func 12) [] []) [(vs.getD 0 .any), v93] fun v94 =>
              Rt Try.prog H.nx v94 Q
              )
            )
          ) [(.p (.bool false)), (.p (.int .i64 0))]
        )
      ) [(.p (.slice none 0 0)), (.p (.int .i64 0))]
    ) H
theorem eq_wordhoardref_Follows (a0 a1 : AV) (Q : AV → AH → Prop) (H : AH) : FnA Try.prog 95 (regsF Try.f18) ac_wordhoardref_Follows [.tm 4] [a0, a1] H Q = S_wordhoardref_Follows a0 a1 Q H := by kernel_rfl
theorem tri_wordhoardref_Follows {a0 a1 : AV} {H : AH} {Q : AV → AH → Prop} (h : S_wordhoardref_Follows a0 a1 Q H) : Tri Try.prog 18 [a0, a1] H Q :=
  tri_of (Ms := [#[], #[], #[], #[], #[], #[], #[], #[], #[], #[], #[], #[], #[], #[], #[], #[], #[], #[], #[], #[0, 0, 0, 4, 15, 0, 0, 96, 224, 511], #[], #[0, 1, 3, 3, 3, 19, 63, 3, 255, 511, 1023], #[], #[], #[], #[], #[], #[], #[], #[]]) mixed Try.func18 rfl (by kernel_rfl) (by kernel_rfl) rfl (of_decide_eq_true rfl : 2 ≤ 95) ((eq_wordhoardref_Follows a0 a1 Q H).symm ▸ h : FnA Try.prog 95 (regsF Try.f18) ac_wordhoardref_Follows [.tm 4] [a0, a1] H Q)
end Go.Proofs.Ytcmnjoepadjioaa

/- Readings of what came in: each argument that can be read as data stands for a plain thing whose bulk is no greater. Nothing of the program is named here. -/
namespace Go.Proofs.Ytcmnjoepadjioaa
open Go.ChangeShapes Go.WideShapes Go.RowKit

/-- what can be read at a type stands for something -/
def Opens {α : Type} (P : Program) (t : TypeId) (ρ : Rep α) : Prop :=
  ∀ (H : Type) (enc : TypeId × Value → H) (w : World) (base : Nat) (spare : Nat → Bool) (held : Bool) (fuel : Nat) (cs : List Value) (x : DataW H × List MemPlace),
    DataW.trod enc P w base spare held fuel t cs = some x → ∃ y, ρ.R w (fun b => b < w.heap.size) cs y ∧ ρ.bulk y ≤ Rows.uptoBulk x.1

theorem bulk_pos {H : Type} (d : DataW H) : 1 ≤ Rows.uptoBulk d := by
  cases d with
  | lit l => cases l <;> simp [Rows.uptoBulk]
  | _ => simp [Rows.uptoBulk]
theorem opens_int {P : Program} {t : TypeId} (ht : P.underlying t = some (.int .i64)) : Opens P t rInt := by
  intro H enc w base spare held fuel cs x h
  obtain ⟨n, rfl, rfl, hw⟩ := DataW.trod_int ht h
  refine ⟨n, ⟨rfl, ?_⟩, bulk_pos _⟩
  simp only [Lit.wf, Bool.and_eq_true, decide_eq_true_eq] at hw
  exact hw
theorem opens_bool {P : Program} {t : TypeId} (ht : P.underlying t = some .bool) : Opens P t rBool := by
  intro H enc w base spare held fuel cs x h
  obtain ⟨b, rfl, rfl⟩ := DataW.trod_bool ht h
  exact ⟨b, rfl, bulk_pos _⟩
theorem opens_string {P : Program} {t : TypeId} (ht : P.underlying t = some .string) : Opens P t rStr := by
  intro H enc w base spare held fuel cs x h
  obtain ⟨s, rfl, rfl, hs⟩ := DataW.trod_string ht h
  refine ⟨s, ⟨rfl, hs⟩, ?_⟩
  have : s.data.toList.length = s.size := by rw [Array.length_toList]; rfl
  simp only [rStr, Rows.uptoBulk]; omega
theorem pick {α : Type} {Q : Nat → α → Prop} : ∀ n, (∀ i, i < n → ∃ y, Q i y) → ∃ ys : List α, ys.length = n ∧ ∀ i y, ys[i]? = some y → Q i y
  | 0, _ => ⟨[], rfl, by simp⟩
  | n + 1, h => by
    obtain ⟨ys, hl, hq⟩ := pick n fun i hi => h i (by omega)
    obtain ⟨y, hy⟩ := h n (by omega)
    refine ⟨ys ++ [y], by simp [hl], fun i z hz => ?_⟩
    by_cases hi : i < ys.length
    · rw [List.getElem?_append_left hi] at hz; exact hq i z hz
    · rw [List.getElem?_append_right (by omega)] at hz
      have h0 : i - ys.length = 0 := by have := (List.getElem?_eq_some_iff.1 hz).1; simp at this; omega
      rw [h0] at hz
      simp at hz; subst hz
      obtain rfl : i = n := by omega
      exact hy
theorem sum_le {α H : Type} (f : α → Nat) : ∀ (ys : List α) (ds : List (DataW H)), ys.length = ds.length → (∀ (i : Nat) (y : α) (d : DataW H), ys[i]? = some y → ds[i]? = some d → f y ≤ Rows.uptoBulk d) → (ys.map f).sum ≤ Rows.uptoBulkAll ds
  | [], _, _, _ => by simp
  | y :: ys, [], h, _ => by simp at h
  | y :: ys, d :: ds, h, hf => by
    have ih := sum_le f ys ds (by simpa using h) fun i y d hy hd => hf (i + 1) y d (by simpa using hy) (by simpa using hd)
    have h0 := hf 0 y d rfl rfl
    simp only [List.map_cons, List.sum_cons, Rows.uptoBulkAll]; omega
theorem opens_slice {α : Type} {ρ : Rep α} {P : Program} {t e : TypeId} (ht : P.underlying t = some (.slice e)) (hs : P.cellsOf e = ρ.size) (hp : 0 < ρ.size) (he : Opens P e ρ) : Opens P t (rList ρ) := by
  intro H enc w base spare held fuel cs x h
  rcases DataW.trod_slice ht h with ⟨rfl, rfl⟩ | ⟨a, len, cap, elems, rest, n, _, rfl, rfl, _, hl, hm, hlen, hel, _, _⟩
  · exact ⟨[], ⟨none, 0, rfl, Sl.nil_⟩, by simp [rList, Rows.uptoBulk]⟩
  · have key : ∀ i, i < len → ∃ y, (a.block < w.heap.size ∧ (∃ u, ρ.R w (fun b => b < w.heap.size) u y ∧ ∀ j z, u[j]? = some z → w.cell? (a.add (i * ρ.size + j)) = some z)) ∧ ∀ d, (elems.map (·.1))[i]? = some d → ρ.bulk y ≤ Rows.uptoBulk d := by
      intro i hi
      have h1 := hel i hi
      rw [List.getElem?_eq_getElem (by omega)] at h1
      cases hc : w.cells? base (a.add (i * P.cellsOf e)) (P.cellsOf e) with
      | none => rw [hc] at h1; simp at h1
      | some us =>
        rw [hc] at h1
        simp only [Option.bind_some] at h1
        obtain ⟨y, hy, hb⟩ := he H enc w base spare held n us _ h1
        obtain ⟨_, hcl, hat⟩ := World.cells?_some hc
        have hcell : ∀ j z, us[j]? = some z → w.cell? (a.add (i * ρ.size + j)) = some z := by
          intro j z hz
          have hj : j < P.cellsOf e := by have := (List.getElem?_eq_some_iff.1 hz).1; omega
          have := hat j hj
          rw [hz, add_of_add, hs] at this; exact this
        refine ⟨y, ⟨?_, us, hy, hcell⟩, fun d hd => ?_⟩
        · have h0 : 0 < us.length := by rw [ρ.len hy]; exact hp
          have := World.block_lt_of_cell? w _ (hcell 0 _ (List.getElem?_eq_getElem h0))
          rwa [block_of_add] at this
        · rw [List.getElem?_map, List.getElem?_eq_getElem (by omega)] at hd
          simp at hd; subst hd; exact hb
    obtain ⟨ys, hyl, hq⟩ := pick len key
    refine ⟨ys, ⟨some a, cap, by rw [hyl], by omega, hm, fun i y hy => ?_⟩, ?_⟩
    · obtain ⟨⟨hb, u, hr, hc⟩, _⟩ := hq i y hy
      exact ⟨a, u, rfl, hb, hr, hc⟩
    · have := sum_le ρ.bulk ys (elems.map (·.1)) (by rw [List.length_map]; omega) fun i y d hy hd => (hq i y hy).2 d hd
      simp only [rList, Rows.uptoBulk]; omega
/-- fields from a place on -/
def OpensL {α : Type} (P : Program) (l : List Field) (off : Nat) (ρ : Rep α) : Prop :=
  ∀ (H : Type) (enc : TypeId × Value → H) (w : World) (base : Nat) (spare : Nat → Bool) (held : Bool) (fuel : Nat) (cs : List Value) (xs : List (DataW H × List MemPlace)),
    cs.length = off + ρ.size → xs.length = l.length → (∀ (i : Nat) (f : Field), l[i]? = some f → DataW.trod enc P w base spare held fuel f.type ((cs.drop f.offset).take (P.cellsOf f.type)) = xs[i]?) →
    ∃ y, ρ.R w (fun b => b < w.heap.size) (cs.drop off) y ∧ ρ.bulk y ≤ Rows.uptoBulkAll (xs.map (·.1))
theorem opens_last {α : Type} {ρ : Rep α} {P : Program} {f : Field} {off : Nat} (ho : f.offset = off) (hs : P.cellsOf f.type = ρ.size) (hf : Opens P f.type ρ) : OpensL P [f] off ρ := by
  intro H enc w base spare held fuel cs xs hl hx h
  match xs, hx with
  | [x], _ =>
    have h0 := h 0 f rfl
    rw [ho, hs, List.take_of_length_le (by rw [List.length_drop]; omega)] at h0
    obtain ⟨y, hy, hb⟩ := hf H enc w base spare held fuel _ x h0
    exact ⟨y, hy, by simp only [List.map_cons, List.map_nil, Rows.uptoBulkAll]; omega⟩
theorem opens_more {α β : Type} {ρ : Rep α} {σ : Rep β} {P : Program} {f : Field} {l : List Field} {off : Nat} (ho : f.offset = off) (hs : P.cellsOf f.type = ρ.size) (hf : Opens P f.type ρ) (hl : OpensL P l (off + ρ.size) σ) :
    OpensL P (f :: l) off (rPair ρ σ) := by
  intro H enc w base spare held fuel cs xs hcs hx h
  match xs, hx with
  | x :: xs, hx =>
    have h0 := h 0 f rfl
    rw [ho, hs] at h0
    have hz : (rPair ρ σ).size = ρ.size + σ.size := rfl
    obtain ⟨y, hy, hb⟩ := hf H enc w base spare held fuel _ x h0
    obtain ⟨z, hz, hb'⟩ := hl H enc w base spare held fuel cs xs (by omega) (by simpa using hx) fun i f hi => h (i + 1) f (by simpa using hi)
    refine ⟨(y, z), ⟨_, _, ?_, hy, hz⟩, ?_⟩
    · rw [← List.drop_drop, List.take_append_drop]
    · simp only [rPair, List.map_cons, Rows.uptoBulkAll]; omega
theorem opens_struct {α : Type} {ρ : Rep α} {P : Program} {t : TypeId} {l : List Field} (ht : P.underlying t = some (.struct l.toArray)) (hs : P.cellsOf t = ρ.size) (hl : OpensL P l 0 ρ) : Opens P t ρ := by
  intro H enc w base spare held fuel cs x h
  obtain ⟨xs, n, _, rfl, hcs, hx, hf⟩ := DataW.trod_struct ht h
  obtain ⟨y, hy, hb⟩ := hl H enc w base spare held n cs xs (by omega) (by simpa using hx) fun i f hi => hf i f (by simpa using hi)
  exact ⟨y, by simpa using hy, by simp only [Rows.uptoBulk]; omega⟩
section
variable {H : Type} {enc : TypeId × Value → H} {P : Program} {w : World} {base b0 : Nat} {spare : Nat → Bool} {held : Bool} {r : Reach} {t : TypeId} {v : Value} {d : DataW H} {ps : List MemPlace} {α : Type} {ρ : Rep α}
/-- an argument that is a struct -/
theorem arg_struct {fs : Array Field} (ho : Opens P t ρ) (hs : P.underlying t = some (.struct fs)) (hv : Value.okWide P w r b0 t v) (h : DataW.Trod enc P w base spare held t v d ps) :
    ∃ cs y, v = .agg cs ∧ ρ.R w (fun b => b < w.heap.size) cs.toList y ∧ ρ.bulk y ≤ Rows.uptoBulk d := by
  obtain ⟨cs, rfl, hsz⟩ := okWide_struct hs hv
  obtain ⟨fuel, hf⟩ := h
  obtain ⟨y, hy, hb⟩ := ho H enc w base spare held fuel _ _ hf
  exact ⟨cs, y, rfl, hy, hb⟩
/-- an argument that is a slice -/
theorem arg_slice {e : TypeId} (ho : Opens P t (rList ρ)) (hs : P.underlying t = some (.slice e)) (hv : Value.okWide P w r b0 t v) (h : DataW.Trod enc P w base spare held t v d ps) :
    ∃ A c ys, v = .slice A ys.length c ∧ Sl ρ w (fun b => b < w.heap.size) A c ys ∧ (ys.map ρ.bulk).sum + 1 ≤ Rows.uptoBulk d := by
  obtain ⟨a, n, c, rfl⟩ := okWide_slice hs hv
  obtain ⟨fuel, hf⟩ := h
  obtain ⟨ys, ⟨A, c', e, hy⟩, hb⟩ := ho H enc w base spare held fuel _ _ hf
  simp only [Value.cells, List.cons.injEq, and_true, Value.slice.injEq] at e
  obtain ⟨rfl, rfl, rfl⟩ := e
  exact ⟨_, _, ys, rfl, hy, hb⟩
end
end Go.Proofs.Ytcmnjoepadjioaa

/- From what came in to abstract values, and from an abstract walk to a law's end. Nothing of the program is named here. -/
namespace Go.Proofs.Ytcmnjoepadjioaa
open Go.RowKit Go.Maps Go.ChangeShapes Go.WideShapes

/-- cells that stand for abstract data -/
def RpsD (w : World) (S : Nat → Prop) (ps : List AV) (cs : List Value) : Prop := ps.length = cs.length ∧ ∀ (i : Nat) (a : AV) (v : Value), ps[i]? = some a → cs[i]? = some v → RpD w S a v
/-- what a reading stands for, told abstractly -/
def AvsG {α β : Type} (ρ : Rep α) (g : α → β) (av : β → List AV) (ok : β → Prop) : Prop := ∀ w S cs y, ρ.R w S cs y → ok (g y) ∧ RpsD w S (av (g y)) cs
theorem RpsD.one {w : World} {S : Nat → Prop} {a : AV} {v : Value} (h : RpD w S a v) : RpsD w S [a] [v] := by
  refine ⟨rfl, fun i b u hb hu => ?_⟩
  cases i with
  | zero => simp at hb hu; subst hb; subst hu; exact h
  | succ i => simp at hb
theorem RpsD.append {w : World} {S : Nat → Prop} {ps bs : List AV} {vs us : List Value} (h : RpsD w S ps vs) (h' : RpsD w S bs us) : RpsD w S (ps ++ bs) (vs ++ us) := by
  refine ⟨by simp [h.1, h'.1], fun i a v ha hv => ?_⟩
  by_cases hi : i < ps.length
  · rw [List.getElem?_append_left hi] at ha
    rw [List.getElem?_append_left (by rw [← h.1]; exact hi)] at hv
    exact h.2 i a v ha hv
  · rw [List.getElem?_append_right (by omega)] at ha
    rw [List.getElem?_append_right (by rw [← h.1]; omega), ← h.1] at hv
    exact h'.2 _ a v ha hv
theorem avs_int : AvsG rInt id (fun i => [.p (.int .i64 i)]) I64 := fun w S cs y h => by
  obtain ⟨rfl, h⟩ := h; exact ⟨h, .one (.p _ rfl)⟩
theorem avs_bool : AvsG rBool id (fun b => [.p (.bool b)]) (fun _ => True) := fun w S cs y h => by
  have h : cs = [.bool y] := h
  subst h; exact ⟨trivial, .one (.p _ rfl)⟩
theorem avs_str : AvsG rStr id (fun b => [.p (.string b)]) (fun s => s.size ≤ maxLen) := fun w S cs y h => by
  obtain ⟨rfl, h⟩ := h; exact ⟨h, .one (.p _ rfl)⟩
section
variable {α β γ δ : Type} {ρ : Rep α} {σ : Rep γ} {g : α → β} {h : γ → δ} {av : β → List AV} {bv : δ → List AV} {ok : β → Prop} {ok' : δ → Prop}
theorem AvsG.map (k : AvsG ρ g av ok) (f : β → γ) (av' : γ → List AV) (ok' : γ → Prop) (h1 : ∀ y, av y = av' (f y)) (h2 : ∀ y, ok y → ok' (f y)) : AvsG ρ (fun x => f (g x)) av' ok' := fun w S cs y hr => by
  obtain ⟨q1, q2⟩ := k w S cs y hr
  exact ⟨h2 _ q1, by rw [← h1]; exact q2⟩
theorem AvsG.pair (k : AvsG ρ g av ok) (l : AvsG σ h bv ok') : AvsG (rPair ρ σ) (fun x => (g x.1, h x.2)) (fun z => av z.1 ++ bv z.2) (fun z => ok z.1 ∧ ok' z.2) := fun w S cs y hr => by
  obtain ⟨c, d, rfl, h1, h2⟩ := hr
  obtain ⟨q1, q2⟩ := k w S c y.1 h1
  obtain ⟨r1, r2⟩ := l w S d y.2 h2
  exact ⟨⟨q1, r1⟩, q2.append r2⟩
theorem sl_rpd (k : AvsG ρ g av ok) (hs : 0 < ρ.size) {w : World} {S : Nat → Prop} {A : Option Addr} {c : Nat} {xs : List α} (h : Sl ρ w S A c xs) : (∀ y ∈ xs, ok (g y)) ∧ RpD w S (.dsl ρ.size ((xs.map g).map av)) (.slice A xs.length c) := by
  obtain ⟨h1, h2, h3⟩ := h
  refine ⟨fun y hy => ?_, ?_⟩
  · obtain ⟨i, hi⟩ := List.getElem?_of_mem hy
    obtain ⟨ad, u, _, _, hr, _⟩ := h3 i y hi
    exact (k w S u y hr).1
  have hl : ((xs.map g).map av).length = xs.length := by simp
  have hcell : ∀ (i : Nat) (x : α), xs[i]? = some x → ∃ g' o, A = some ⟨g', o, none⟩ ∧ S g' ∧ ∃ u, ρ.R w S u x ∧ ∀ j z, u[j]? = some z → w.cell? ⟨g', o + i * ρ.size + j, none⟩ = some z := by
    intro i x hx
    have h0 : 0 < xs.length := by have := (List.getElem?_eq_some_iff.1 hx).1; omega
    obtain ⟨ad0, u0, e0, s0, r0, c0⟩ := h3 0 _ (List.getElem?_eq_getElem h0)
    have hu0 : 0 < u0.length := by rw [ρ.len r0]; exact hs
    have hc := c0 0 _ (List.getElem?_eq_getElem hu0)
    obtain ⟨b, o, sp⟩ := ad0
    have hsp : sp = none := by
      simp only [Nat.zero_mul, Nat.add_zero, Addr.add, if_pos] at hc
      unfold World.cell? at hc
      split at hc
      · split at hc
        · cases hc
        · rename_i hsp; cases sp with
          | none => rfl
          | some _ => exact absurd rfl hsp
      · cases hc
    subst hsp
    obtain ⟨ad, u, e, s, r, c⟩ := h3 i x hx
    rw [e0] at e; injection e with e; subst e
    refine ⟨b, o, e0, s, u, r, fun j z hz => ?_⟩
    have := c j z hz
    rw [addr_add] at this
    rw [Nat.add_assoc]; exact this
  have hel : ∀ (i : Nat) (e : List AV), ((xs.map g).map av)[i]? = some e → ∃ x, xs[i]? = some x ∧ e = av (g x) := by
    intro i e he
    rw [List.getElem?_map, List.getElem?_map] at he
    cases hx : xs[i]? with
    | none => rw [hx] at he; cases he
    | some x => rw [hx] at he; injection he with he; exact ⟨x, rfl, he.symm⟩
  have := RpD.dsl (w := w) (S := S) ρ.size ((xs.map g).map av) A c
    (fun i j => match A with
      | some a => if (xs[i]?).isSome ∧ j < ρ.size then (w.cell? ⟨a.block, a.off + i * ρ.size + j, none⟩).getD (.bool false) else .bool false
      | none => .bool false) (by omega) h2 (fun e he => ?_) (fun i e j a he ha => ?_) (fun i e j a he ha => ?_) (fun i j => ?_)
  · rw [hl] at this; exact this
  · obtain ⟨i, hi⟩ := List.getElem?_of_mem he
    obtain ⟨x, hx, rfl⟩ := hel i e hi
    obtain ⟨_, _, _, _, u, hr, _⟩ := hcell i x hx
    rw [(k w S u x hr).2.1, ρ.len hr]
  · obtain ⟨x, hx, rfl⟩ := hel i e he
    obtain ⟨g', o, rfl, hg, u, hr, hc⟩ := hcell i x hx
    have hj : j < u.length := by rw [← (k w S u x hr).2.1]; exact (List.getElem?_eq_some_iff.1 ha).1
    have hjs : j < ρ.size := by rw [← ρ.len hr]; exact hj
    refine ⟨g', o, rfl, hg, ?_⟩
    have := hc j _ (List.getElem?_eq_getElem hj)
    simp only [hx, Option.isSome_some, hjs, and_self, if_true, this, Option.getD_some]
  · obtain ⟨x, hx, rfl⟩ := hel i e he
    obtain ⟨g', o, rfl, hg, u, hr, hc⟩ := hcell i x hx
    have hj : j < u.length := by rw [← (k w S u x hr).2.1]; exact (List.getElem?_eq_some_iff.1 ha).1
    have hjs : j < ρ.size := by rw [← ρ.len hr]; exact hj
    have := hc j _ (List.getElem?_eq_getElem hj)
    simp only [hx, Option.isSome_some, hjs, and_self, if_true, this, Option.getD_some]
    exact (k w S u x hr).2.2 j a _ ha (List.getElem?_eq_getElem hj)
  · cases A with
    | none => rfl
    | some a =>
      dsimp only
      split
      · rename_i hij
        obtain ⟨x, hx⟩ := Option.isSome_iff_exists.1 hij.1
        obtain ⟨g', o, e, hg, u, hr, hc⟩ := hcell i x hx
        injection e with e; subst e
        have hj : j < u.length := by rw [ρ.len hr]; exact hij.2
        rw [hc j _ (List.getElem?_eq_getElem hj)]
        exact ρ.one hr _ (List.getElem_mem hj)
      · rfl
theorem AvsG.list (k : AvsG ρ g av ok) (hs : 0 < ρ.size) : AvsG (rList ρ) (List.map g) (fun zs => [.dsl ρ.size (zs.map av)]) (fun zs => ∀ z ∈ zs, ok z) := fun w S cs y hr => by
  obtain ⟨A, c, rfl, hsl⟩ := hr
  obtain ⟨q1, q2⟩ := sl_rpd k hs hsl
  refine ⟨fun z hz => ?_, .one q2⟩
  obtain ⟨x, hx, rfl⟩ := List.mem_map.1 hz
  exact q1 x hx
/-- an argument that is a struct, told abstractly -/
theorem AvsG.agg (k : AvsG ρ g av ok) {w : World} {S : Nat → Prop} {σ' : Nat → Option Value} {cs : Array Value} {y : α} (hr : ρ.R w S cs.toList y) : ok (g y) ∧ Rp w S σ' (.agg (av (g y))) (.agg cs) := by
  obtain ⟨q1, q2, q3⟩ := k w S cs.toList y hr
  exact ⟨q1, .data _ _ (.agg _ _ (by simpa using q2) (fun i a v ha hv => q3 i a v ha (by simpa using hv)) fun v hv => ρ.one hr v (by simpa using hv))⟩
/-- an argument that is a slice, told abstractly -/
theorem AvsG.sl (k : AvsG ρ g av ok) (hs : 0 < ρ.size) {w : World} {S : Nat → Prop} {σ' : Nat → Option Value} {A : Option Addr} {c : Nat} {xs : List α} (h : Sl ρ w S A c xs) : (∀ z ∈ xs.map g, ok z) ∧ Rp w S σ' (.dsl ρ.size ((xs.map g).map av)) (.slice A xs.length c) := by
  obtain ⟨q1, q2⟩ := sl_rpd k hs h
  refine ⟨fun z hz => ?_, .data _ _ q2⟩
  obtain ⟨x, hx, rfl⟩ := List.mem_map.1 hz
  exact q1 x hx
end
/-- a walk from nothing held, to the law's end -/
theorem law_calls {P : Program} {f : FuncId} {ps : List AV} {us : List Value} {W : World} {r : Value} (h : Tri P f ps ⟨0, []⟩ (fun v _ => v = .p r)) (hr : Rps W (fun b => b < W.heap.size) (fun _ => none) ps us) :
    Calls P f us.toArray W fun e W' => e = .returned r ∧ Below W.heap.size W W' := by
  have hs : Sat P W (fun b => b < W.heap.size) (fun _ => none) ⟨0, []⟩ := ⟨fun b hb => hb, fun id u hu => by (cases hu), fun id o ho => by (cases ho), fun i j o o' b hi => by (cases hi), fun i o b hi => by (cases hi), fun i A n c h => by (cases h)⟩
  refine (h W _ _ us hs hr).mono fun e W' ⟨v, S', σ', r', H', h1, h2, h3, h4, h5, _⟩ => ?_
  subst h2
  obtain ⟨rfl, _⟩ := h4.p_inv
  exact ⟨h1, h5.os, h5.tape, h5.output, h5.size, fun b hb => h5.keep b hb fun ⟨i, o, hi, _⟩ => by (cases hi)⟩
/-- a result may be told with less -/
theorem Tri.res {P : Program} {f : FuncId} {ps : List AV} {H : AH} {Q Q' : AV → AH → Prop} (h : Tri P f ps H Q) (hq : ∀ r H', Q r H' → ∃ r', Sub P H' r r' ∧ Q' r' H') : Tri P f ps H Q' := fun w S σ us hs hr =>
  (h w S σ us hs hr).mono fun e w' ⟨v, S', σ', r, H', h1, h2, h3, h4, h5⟩ => by
    obtain ⟨r', q1, q2⟩ := hq r H' h2
    exact ⟨v, S', σ', r', H', h1, q2, h3, q1 _ _ _ _ h3 h4, h5⟩
end Go.Proofs.Ytcmnjoepadjioaa

/- The law ProveHolds, walked. -/
namespace Go.Proofs.Ytcmnjoepadjioaa
open Go.RowKit Go.Maps
def begP : List Clm := [⟨false, 1, 2⟩, ⟨true, 3, 1⟩]
def begC : Clm := ⟨true, 3, 2⟩
theorem beg_ok : okP begP [begC] = 0 := by decide
theorem beg_no : agB begP begC = false := by decide
theorem c_begun : PF Try.prog 10 [] (bv true) := fun H => tri_wf fun hw => tri_wordhoardlaw_proveBegun (by
  unfold S_wordhoardlaw_proveBegun
  simp (disch := first | omega | simp) [put_get_ne]
  refine ca_row (ps := []) (qs := [begC.av]) (es := begP.map Clm.cs) (by kernel_rfl) (put_get _ _) (dt_cs begP) rfl (c_Argue begP begC _) ?_
  rintro r H1 ⟨rfl, h⟩
  rcases h with ⟨h, _⟩ | ⟨_, _, out, rfl, _, _, hl, init, y, he, _⟩ | ⟨_, h, _⟩
  · exact absurd beg_ok h
  · have : 0 < out.length := by rw [he]; simp
    have h0 : (0 : Int) < (out.length : Int) := by omega
    simp (disch := first | omega | simp) [bv, iv, h0]
    exact rt_one hw (by repeat (first | with_reducible assumption | with_reducible exact AH.le.refl _ | with_reducible apply AH.le.up | (with_reducible refine AH.le.put hw ?_ ?_; · first | omega | (simp only [up_nx, put_nx, kill_nx]; done) | (simp only [up_nx, put_nx, kill_nx]; omega)) | (with_reducible refine AH.le.kill hw ?_ ?_; · first | omega | (simp only [up_nx, put_nx, kill_nx]; done) | (simp only [up_nx, put_nx, kill_nx]; omega)))) (by repeat (first | exact Cl.p _ | exact Cl.dsl _ _ | exact Cl.any | refine Cl.tup ?_ | refine Cl.agg ?_ | exact Clo.nil | refine Clo.cons ?_ ?_)) ⟨rfl, by simp; omega⟩
  · rw [beg_no] at h; cases h)
theorem okW_in {xs : List Int} (h : okW xs = 0) : ∀ x ∈ xs, inWd x := by
  unfold okW at h
  split at h
  · cases h
  · split at h
    · rename_i h2; intro x hx; simpa using (List.all_eq_true.1 h2) x hx
    · cases h
theorem c_ProveHolds (xs : List Int) (c : Clm) (H : AH) : Tri Try.prog 3 [wE xs, c.av] H (fun r _ => r = .p (.bool true)) := tri_wf fun hw => tri_wordhoardlaw_ProveHolds (by
  unfold S_wordhoardlaw_ProveHolds
  simp (disch := first | omega | simp) [put_get_ne, Clm.av, Clm.cs]
  refine ca_pure (by kernel_rfl) (c_Holds xs c _) ?_
  simp
  refine ca_pure (by kernel_rfl) (c_RCheckWorld xs _) ?_
  refine cut_st (fun e : Int => [iv e]) (fun e H' => e = (if okW xs = 0 then (if c.ok then 0 else 3) else okW xs) ∧ H'.get H.nx = some (.box 24 c.cs)) (fun k hk => ?_) ?_
  · by_cases h0 : okW xs = 0
    · simp (disch := first | omega | simp) [iv, h0, Clm.cs]
      refine ca_pure (by kernel_rfl) (c_RCheckClaim c _) ?_
      exact hk _ _ _ _ (.refl (by first | omega | (simp only [up_nx, put_nx, kill_nx]; done) | (simp only [up_nx, put_nx, kill_nx]; omega))) ⟨by rw [if_pos h0], by rw [put_get]; rfl⟩
    · simp (disch := first | omega | simp) [iv, h0, Clm.cs]
      exact hk _ _ _ _ (.refl (by first | omega | (simp only [up_nx, put_nx, kill_nx]; done) | (simp only [up_nx, put_nx, kill_nx]; omega))) ⟨by rw [if_neg h0], by rw [put_get]; rfl⟩
  · rintro e H1 hn ⟨rfl, hb⟩
    simp only [up_nx, put_nx] at hn
    unfold Clm.cs at hb
    simp
    refine cav_pure (by kernel_rfl) (fun H2 _ => c_begun H2) ?_
    simp (disch := first | omega | simp) [bv, hb]
    refine cav_pure (by kernel_rfl) (fun H2 _ => c_Check c H2) ?_
    simp (disch := first | omega | simp) [bv, hb]
    refine cav_pure (by kernel_rfl) (fun H2 _ => c_RCheckClaim c H2) ?_
    by_cases h0 : okW xs = 0
    · by_cases h1 : c.ok
      · simp (disch := first | omega | simp) [bv, iv, hb, h0, h1]
        refine cav_pure (by kernel_rfl) (fun H2 _ => c_RHoldsIn (okW_in h0) h1 H2) ?_
        simp (disch := first | omega | simp) [bv, iv]
        exact rt_refl rfl (by first | omega | (simp only [up_nx, put_nx, kill_nx]; done) | (simp only [up_nx, put_nx, kill_nx]; omega))
      · simp (disch := first | omega | simp) [bv, iv, hb, h0, h1]
        exact rt_refl rfl (by first | omega | (simp only [up_nx, put_nx, kill_nx]; done) | (simp only [up_nx, put_nx, kill_nx]; omega))
    · simp (disch := first | omega | simp) [bv, iv, hb, h0]
      exact rt_refl rfl (by first | omega | (simp only [up_nx, put_nx, kill_nx]; done) | (simp only [up_nx, put_nx, kill_nx]; omega)))
end Go.Proofs.Ytcmnjoepadjioaa

/- Against: a world against what does not follow; what the claims of an argument must be. -/
namespace Go.Proofs.Ytcmnjoepadjioaa
open Go.RowKit Go.Maps
theorem c_RCheckClaims (p l : List Clm) (hb : l.length * 24 ≤ 140737488354328) : PF Try.prog 14 [cE p, cE l] (iv (okP p l)) := fun H => tri_wf fun hw => tri_wordhoardref_CheckClaims (by
  have hml : maxLen = 9223372036854775807 := by decide
  unfold S_wordhoardref_CheckClaims
  simp +contextual [cE]
  refine ⟨fun h => rt_refl ⟨rfl, by unfold okP; rw [if_pos (by omega)]; rfl⟩ (Nat.le_refl _), fun h => ?_⟩
  have hokp : okP p l = okL (p ++ l) := by unfold okP; rw [if_neg (by omega)]
  rw [hokp]
  refine ⟨by omega, by omega, by omega, by omega, ?_⟩
  refine loop_st (fun i : Nat => [iv i]) (fun i H' => H.le H' ∧ H.nx + 6 ≤ H'.nx ∧ H'.get (H.nx + 4) = some (.row 24 3 ((p ++ l).map Clm.cs)) ∧ i ≤ (p ++ l).length ∧ ∀ y ∈ (p ++ l).take i, decide y.ok = true) (fun i => (p ++ l).length - i) 0 (.refl (by first | omega | (simp only [up_nx, put_nx, kill_nx]; done) | (simp only [up_nx, put_nx, kill_nx]; omega))) ⟨(by repeat (first | with_reducible assumption | with_reducible exact AH.le.refl _ | with_reducible apply AH.le.up | (with_reducible refine AH.le.put hw ?_ ?_; · first | omega | (simp only [up_nx, put_nx, kill_nx]; done) | (simp only [up_nx, put_nx, kill_nx]; omega)) | (with_reducible refine AH.le.kill hw ?_ ?_; · first | omega | (simp only [up_nx, put_nx, kill_nx]; done) | (simp only [up_nx, put_nx, kill_nx]; omega)))), (by first | omega | (simp only [up_nx, put_nx, kill_nx]; done) | (simp only [up_nx, put_nx, kill_nx]; omega)), by rw [put_get, List.take_of_length_le (by simp), ← List.map_append], Nat.zero_le _, by simp⟩ ?_
  rintro i H1 hn1 ⟨hle, hn, hrow, hi, hall⟩ k hk
  have hlen : p.length + l.length = (p ++ l).length := by simp
  have hb2 : (p ++ l).length < 9223372036854775807 := by rw [List.length_append]; omega
  rw [hlen]
  generalize p ++ l = xs at *
  by_cases hi2 : i < xs.length
  · have hg := List.getElem?_eq_getElem hi2
    simp (disch := first | omega | simp) [iv, hi2, Clm.cs, hrow]
    refine ca_pure (by kernel_rfl) (c_RCheckClaim xs[i] _) ?_
    by_cases hok : xs[i].ok
    · simp [hok, iv]
      rw [ivn (by omega)]
      exact hk (i + 1) _ _ _ (.refl (by first | omega | (simp only [up_nx, put_nx, kill_nx]; done) | (simp only [up_nx, put_nx, kill_nx]; omega))) ⟨hle, hn, hrow, hi2, all_take hall hg (by simp [hok])⟩ (by omega)
    · simp [hok, iv]
      refine rt_one hw (by repeat (first | with_reducible assumption | with_reducible exact AH.le.refl _ | with_reducible apply AH.le.up | (with_reducible refine AH.le.put hw ?_ ?_; · first | omega | (simp only [up_nx, put_nx, kill_nx]; done) | (simp only [up_nx, put_nx, kill_nx]; omega)) | (with_reducible refine AH.le.kill hw ?_ ?_; · first | omega | (simp only [up_nx, put_nx, kill_nx]; done) | (simp only [up_nx, put_nx, kill_nx]; omega)))) (by repeat (first | exact Cl.p _ | exact Cl.dsl _ _ | exact Cl.any | refine Cl.tup ?_ | refine Cl.agg ?_ | exact Clo.nil | refine Clo.cons ?_ ?_)) ⟨rfl, ?_⟩
      unfold okL
      rw [if_neg]
      simp
      exact ⟨_, List.getElem_mem hi2, hok⟩
  · simp [iv, hi2]
    refine rt_one hw (by repeat (first | with_reducible assumption | with_reducible exact AH.le.refl _ | with_reducible apply AH.le.up | (with_reducible refine AH.le.put hw ?_ ?_; · first | omega | (simp only [up_nx, put_nx, kill_nx]; done) | (simp only [up_nx, put_nx, kill_nx]; omega)) | (with_reducible refine AH.le.kill hw ?_ ?_; · first | omega | (simp only [up_nx, put_nx, kill_nx]; done) | (simp only [up_nx, put_nx, kill_nx]; omega)))) (by repeat (first | exact Cl.p _ | exact Cl.dsl _ _ | exact Cl.any | refine Cl.tup ?_ | refine Cl.agg ?_ | exact Clo.nil | refine Clo.cons ?_ ?_)) ⟨rfl, ?_⟩
    unfold okL
    rw [List.take_of_length_le (by omega)] at hall
    rw [if_pos (by simpa using hall)])
theorem c_IndexFunc_clm {H : AH} {xs : List Clm} {g : FuncId} {first cap : List AV} {p : Clm → Bool} (hg : callable Try.prog g = true) (hp : ∀ x ∈ xs, Tri Try.prog g (first ++ [x.av] ++ cap) H (fun v H' => H' = H ∧ v = bv (p x))) :
    Tri Try.prog 44 [cE xs, .fn (.func g) first cap] H (fun v H' => H' = H ∧ ∃ i : Int, v = iv i ∧ decide (i ≥ 0) = xs.any p) := tri_wf fun hw => tri_len 0 rfl fun hl _ => tri_slices_IndexFunc_s_api_Claim_api_Claim (by
  have hml : maxLen = 9223372036854775807 := by decide
  rw [List.length_map] at hl
  unfold S_slices_IndexFunc_s_api_Claim_api_Claim cE
  simp
  refine loop_st (fun i : Nat => [iv i]) (fun i H' => H' = H ∧ i ≤ xs.length ∧ ∀ y ∈ xs.take i, p y = false) (fun i => xs.length - i) 0 (.refl (Nat.le_refl _)) ⟨rfl, Nat.zero_le _, by simp⟩ ?_
  rintro i _ _ ⟨rfl, hi, hno⟩ k hk
  by_cases h : i < xs.length
  · have hx := List.getElem?_eq_getElem h
    simp [iv, h, Clm.cs]
    refine ca_pure hg (hp _ (List.getElem_mem h)) ?_
    cases hq : p xs[i]
    · simp [bv]
      rw [ivn (by omega)]
      exact hk (i + 1) _ _ _ (.refl (Nat.le_refl _)) ⟨rfl, h, any_take hno hx hq⟩ (by omega)
    · simp [bv]
      exact rt_refl ⟨rfl, _, rfl, by simp; exact ⟨_, List.getElem_mem h, hq⟩⟩ (Nat.le_refl _)
  · simp [iv, h]
    have : xs.any p = false := by
      rw [List.any_eq_false]; intro y hy; rw [hno y (by rw [List.take_of_length_le (by omega)]; exact hy)]; simp
    exact rt_refl ⟨rfl, _, rfl, by rw [this]; rfl⟩ (Nat.le_refl _))
theorem c_ContainsFunc_clm {H : AH} {xs : List Clm} {g : FuncId} {first cap : List AV} {p : Clm → Bool} (hg : callable Try.prog g = true) (hp : ∀ x ∈ xs, Tri Try.prog g (first ++ [x.av] ++ cap) H (fun v H' => H' = H ∧ v = bv (p x))) :
    Tri Try.prog 31 [cE xs, .fn (.func g) first cap] H (fun v H' => H' = H ∧ v = bv (xs.any p)) := tri_wf fun hw => tri_slices_ContainsFunc_s_api_Claim_api_Claim (by
  unfold S_slices_ContainsFunc_s_api_Claim_api_Claim
  refine ca_of (by kernel_rfl) (c_IndexFunc_clm hg hp) ?_
  rintro _ _ ⟨rfl, i, rfl, hi⟩
  simp only [iv, ↓q_geq_i]
  exact rt_refl ⟨rfl, by rw [hi]; rfl⟩ (Nat.le_refl _))
theorem c_Ag1 {H : AH} {w : Nat} (hw64 : w < 64) {p : Clm} (hp : p.ok) {i : Nat} {t : TypeId} (hg : H.get i = some (.box t [iv w])) : Tri Try.prog 32 [p.av, .ptr i 0] H (fun v H' => H' = H ∧ v = bv (!(p.so || holdsC [w] p))) := tri_wf fun hw => tri_prove_Against_fn1 (by
  have hlt := (hw _ _ hg).1
  have hne : i ≠ H.nx := by omega
  have hc : ∀ H', Tri Try.prog 21 [wE [(w : Int)], p.av] H' _ := fun H' => c_holds (xs := [(w : Int)]) (fun x hx => by simp at hx; subst hx; unfold inWd; omega) hp H'
  unfold iv at hg
  unfold S_prove_Against_fn1
  cases hs : p.so with
  | true =>
    simp (disch := first | omega | simp) [Clm.av, Clm.cs, put_get_ne, hs]
    exact rt_one hw (by repeat (first | with_reducible assumption | with_reducible exact AH.le.refl _ | with_reducible apply AH.le.up | (with_reducible refine AH.le.put hw ?_ ?_; · first | omega | (simp only [up_nx, put_nx, kill_nx]; done) | (simp only [up_nx, put_nx, kill_nx]; omega)) | (with_reducible refine AH.le.kill hw ?_ ?_; · first | omega | (simp only [up_nx, put_nx, kill_nx]; done) | (simp only [up_nx, put_nx, kill_nx]; omega)))) (by repeat (first | exact Cl.p _ | exact Cl.dsl _ _ | exact Cl.any | refine Cl.tup ?_ | refine Cl.agg ?_ | exact Clo.nil | refine Clo.cons ?_ ?_)) ⟨rfl, rfl⟩
  | false =>
    simp (disch := first | omega | simp) [Clm.av, Clm.cs, put_get_ne, hs, hg]
    have hpv : p.av = .agg [.p (.bool false), .p (.int .i64 p.a), .p (.int .i64 p.b)] := by unfold Clm.av Clm.cs; rw [hs]
    rw [hpv] at hc
    refine ca_row (ps := []) (es := [[iv w]]) (by kernel_rfl) (put_get _ _) (dt_ints [(w : Int)]) rfl (hc _) ?_
    rintro _ H1 ⟨rfl, rfl⟩
    simp (disch := first | omega | simp) [bv]
    exact rt_one hw (by repeat (first | with_reducible assumption | with_reducible exact AH.le.refl _ | with_reducible apply AH.le.up | (with_reducible refine AH.le.put hw ?_ ?_; · first | omega | (simp only [up_nx, put_nx, kill_nx]; done) | (simp only [up_nx, put_nx, kill_nx]; omega)) | (with_reducible refine AH.le.kill hw ?_ ?_; · first | omega | (simp only [up_nx, put_nx, kill_nx]; done) | (simp only [up_nx, put_nx, kill_nx]; omega)))) (by repeat (first | exact Cl.p _ | exact Cl.dsl _ _ | exact Cl.any | refine Cl.tup ?_ | refine Cl.agg ?_ | exact Clo.nil | refine Clo.cons ?_ ?_)) ⟨rfl, rfl⟩)
theorem c_Ag2 {H : AH} {w : Int} (hw64 : inWd w) {c : Clm} (hp : c.ok) {i : Nat} {t : TypeId} (hg : H.get i = some (.box t c.cs)) : Tri Try.prog 34 [iv w, .ptr i 0] H (fun v H' => H' = H ∧ v = bv (holdsC [w.toNat] c)) := tri_wf fun hw => tri_prove_Against_fn2 (by
  have hlt := (hw _ _ hg).1
  have hc : ∀ H', Tri Try.prog 21 [wE [w], c.av] H' _ := fun H' => c_holds (xs := [w]) (fun x hx => by simp at hx; subst hx; exact hw64) hp H'
  unfold Clm.cs at hg
  unfold S_prove_Against_fn2
  simp (disch := first | omega | simp) [iv, put_get_ne, hg]
  refine ca_row (ps := []) (qs := [c.av]) (es := [[iv w]]) (by kernel_rfl) (put_get _ _) (dt_ints [w]) rfl (hc _) ?_
  rintro _ H1 ⟨rfl, rfl⟩
  simp (disch := first | omega | simp) [bv]
  exact rt_one hw (by repeat (first | with_reducible assumption | with_reducible exact AH.le.refl _ | with_reducible apply AH.le.up | (with_reducible refine AH.le.put hw ?_ ?_; · first | omega | (simp only [up_nx, put_nx, kill_nx]; done) | (simp only [up_nx, put_nx, kill_nx]; omega)) | (with_reducible refine AH.le.kill hw ?_ ?_; · first | omega | (simp only [up_nx, put_nx, kill_nx]; done) | (simp only [up_nx, put_nx, kill_nx]; omega)))) (by repeat (first | exact Cl.p _ | exact Cl.dsl _ _ | exact Cl.any | refine Cl.tup ?_ | refine Cl.agg ?_ | exact Clo.nil | refine Clo.cons ?_ ?_)) ⟨rfl, rfl⟩)
theorem c_Ag3 {H : AH} {w : Int} (hw64 : inWd w) {c : Clm} (hp : c.ok) {i : Nat} {t : TypeId} (hg : H.get i = some (.box t c.cs)) : Tri Try.prog 35 [iv w, .ptr i 0] H (fun v H' => H' = H ∧ v = bv (!holdsC [w.toNat] c)) := tri_wf fun hw => tri_prove_Against_fn3 (by
  have hlt := (hw _ _ hg).1
  have hc : ∀ H', Tri Try.prog 21 [wE [w], c.av] H' _ := fun H' => c_holds (xs := [w]) (fun x hx => by simp at hx; subst hx; exact hw64) hp H'
  unfold Clm.cs at hg
  unfold S_prove_Against_fn3
  simp (disch := first | omega | simp) [iv, put_get_ne, hg]
  refine ca_row (ps := []) (qs := [c.av]) (es := [[iv w]]) (by kernel_rfl) (put_get _ _) (dt_ints [w]) rfl (hc _) ?_
  rintro _ H1 ⟨rfl, rfl⟩
  simp (disch := first | omega | simp) [bv]
  exact rt_one hw (by repeat (first | with_reducible assumption | with_reducible exact AH.le.refl _ | with_reducible apply AH.le.up | (with_reducible refine AH.le.put hw ?_ ?_; · first | omega | (simp only [up_nx, put_nx, kill_nx]; done) | (simp only [up_nx, put_nx, kill_nx]; omega)) | (with_reducible refine AH.le.kill hw ?_ ?_; · first | omega | (simp only [up_nx, put_nx, kill_nx]; done) | (simp only [up_nx, put_nx, kill_nx]; omega)))) (by repeat (first | exact Cl.p _ | exact Cl.dsl _ _ | exact Cl.any | refine Cl.tup ?_ | refine Cl.agg ?_ | exact Clo.nil | refine Clo.cons ?_ ?_)) ⟨rfl, rfl⟩)
theorem c_Ag4 {H : AH} {xs : List Int} (hx : ∀ x ∈ xs, inWd x) {p : Clm} (hp : p.ok) {i : Nat} {t : TypeId} (hg : H.get i = some (.box t [wE xs])) : Tri Try.prog 36 [p.av, .ptr i 0] H (fun v H' => H' = H ∧ v = bv (!holdsC (natL xs) p)) := tri_wf fun hw => tri_prove_Against_fn4 (by
  have hlt := (hw _ _ hg).1
  unfold S_prove_Against_fn4
  simp (disch := first | omega | simp) [Clm.av, Clm.cs, put_get_ne, hg]
  refine ca_pure (by kernel_rfl) (c_holds hx hp _) ?_
  simp (disch := first | omega | simp) [bv]
  exact rt_one hw (by repeat (first | with_reducible assumption | with_reducible exact AH.le.refl _ | with_reducible apply AH.le.up | (with_reducible refine AH.le.put hw ?_ ?_; · first | omega | (simp only [up_nx, put_nx, kill_nx]; done) | (simp only [up_nx, put_nx, kill_nx]; omega)) | (with_reducible refine AH.le.kill hw ?_ ?_; · first | omega | (simp only [up_nx, put_nx, kill_nx]; done) | (simp only [up_nx, put_nx, kill_nx]; omega)))) (by repeat (first | exact Cl.p _ | exact Cl.dsl _ _ | exact Cl.any | refine Cl.tup ?_ | refine Cl.agg ?_ | exact Clo.nil | refine Clo.cons ?_ ?_)) ⟨rfl, rfl⟩)
theorem c_IndexFunc_el {H : AH} {a : AV} {xs : List Int} {g : FuncId} {first cap : List AV} {p : Int → Bool} (ha : elF H 1 a = some (intE xs)) (hl : xs.length < 1000000000) (hg : callable Try.prog g = true) (hp : ∀ x ∈ xs, Tri Try.prog g (first ++ [iv x] ++ cap) H (fun v H' => H' = H ∧ v = bv (p x))) :
    Tri Try.prog 37 [a, .fn (.func g) first cap] H (fun v H' => H' = H ∧ ((v = iv (-1) ∧ ∀ x ∈ xs, p x = false) ∨ ∃ k : Nat, v = iv k ∧ ∃ x, xs[k]? = some x ∧ p x = true ∧ ∀ y ∈ xs.take k, p y = false)) := tri_wf fun hw => tri_slices_IndexFunc_s_int_int (by
  have hlen : (intE xs).length = xs.length := by simp [intE]
  unfold S_slices_IndexFunc_s_int_int
  simp [elF_len ha, hlen]
  refine loop_st (fun i : Nat => [iv i]) (fun i H' => H' = H ∧ i ≤ xs.length ∧ ∀ y ∈ xs.take i, p y = false) (fun i => xs.length - i) 0 (.refl (Nat.le_refl _)) ⟨rfl, Nat.zero_le _, by simp⟩ ?_
  rintro i _ _ ⟨rfl, hi, hno⟩ k hk
  by_cases h : i < xs.length
  · obtain ⟨x, hx⟩ : ∃ x, xs[i]? = some x := ⟨_, List.getElem?_eq_getElem h⟩
    obtain ⟨q, q1, q2, q3⟩ := elF_acc (by decide) ha (i := i) (e := [iv x]) (by simp [intE, hx])
    simp [iv, h, q1, q3]
    refine ca_pure hg (hp x (List.mem_of_getElem? hx)) ?_
    cases hq : p x
    · simp [bv]
      rw [ivn (by omega)]
      exact hk (i + 1) _ _ _ (.refl (Nat.le_refl _)) ⟨rfl, h, any_take hno hx hq⟩ (by omega)
    · simp [bv]
      exact rt_refl ⟨rfl, .inr ⟨i, rfl, x, hx, hq, hno⟩⟩ (Nat.le_refl _)
  · simp [iv, h]
    exact rt_refl ⟨rfl, .inl ⟨rfl, fun y hy => hno y (by rw [List.take_of_length_le (by omega)]; exact hy)⟩⟩ (Nat.le_refl _))
theorem filter_take_next {α : Type} {xs : List α} {p : α → Bool} {j : Nat} {x : α} (h : xs[j]? = some x) : (xs.take (j + 1)).filter p = (xs.take j).filter p ++ if p x then [x] else [] := by
  rw [List.take_add_one, h, List.filter_append]
  congr 1
  simp [List.filter_cons]
theorem filter_len_le {α : Type} (xs : List α) (p : α → Bool) (j : Nat) : ((xs.take j).filter p).length ≤ j := Nat.le_trans (List.length_filter_le _ _) (by rw [List.length_take]; omega)
theorem c_DeleteFunc {H0 H : AH} {v : AV} {xs : List Int} {g : FuncId} {first cap : List AV} {p : Int → Bool} (hw : WF H0) (hle : H0.le H) (hn : H0.nx ≤ H.nx) (hv : Grows 3 1 H0 H v (intE xs)) (hl : xs.length < 1000000000) (hg : callable Try.prog g = true)
    (hp : ∀ x ∈ xs, ∀ H', (∀ j, j < H.nx → (∀ n, v ≠ .osl j 1 0 n) → H'.get j = H.get j) → Tri Try.prog g (first ++ [iv x] ++ cap) H' (fun u H'' => H'' = H' ∧ u = bv (p x))) :
    Tri Try.prog 33 [v, .fn (.func g) first cap] H (fun r H' => Grows 3 1 H0 H' r (intE (xs.filter fun x => !p x)) ∧ H0.le H' ∧ H.nx ≤ H'.nx ∧ ∀ j, j < H.nx → (∀ n, v ≠ .osl j 1 0 n) → H'.get j = H.get j ∧ ∀ n, r ≠ .osl j 1 0 n) := tri_wf fun hwf => tri_slices_DeleteFunc_s_int_int (by
  have hlen : (intE xs).length = xs.length := by simp [intE]
  unfold S_slices_DeleteFunc_s_int_int
  refine ca_of (by kernel_rfl) (c_IndexFunc_el hv.el hl hg fun x hx => hp x hx H fun _ _ _ => rfl) ?_
  rintro _ H1 ⟨rfl, ⟨rfl, hno⟩ | ⟨i, rfl, x, hx, hpx, hno⟩⟩
  · simp [iv]
    have hf : xs.filter (fun x => !p x) = xs := List.filter_eq_self.2 fun x hx => by rw [hno x hx]; rfl
    rw [hf]
    exact rt_refl ⟨hv, hle, Nat.le_refl _, fun j _ h => ⟨rfl, h⟩⟩ (Nat.le_refl _)
  · have hi := (List.getElem?_eq_some_iff.1 hx).1
    rcases hv with ⟨_, h⟩ | ⟨r, es, rfl, h2, h3, h4, h5, h6⟩
    · rw [h] at hlen; simp at hlen; omega
    have hlen0 := hlen
    rw [hlen] at hp h5
    have hm1 : ¬ ((i : Int) = -1) := by omega
    have hiv := ivn (i := i) (by omega)
    have hesl : xs.length ≤ es.length := by have := congrArg List.length h5; rw [List.length_take, hlen] at this; omega
    have hat : ∀ k x, xs[k]? = some x → es[k]? = some [iv x] := fun k x hk => by
      have hkl := (List.getElem?_eq_some_iff.1 hk).1
      have : (es.take xs.length)[k]? = some [iv x] := by rw [h5]; simp [intE, hk]
      rwa [List.getElem?_take, if_pos hkl] at this
    simp [iv, hm1, hiv, hlen]
    refine loop_st (fun s : Nat × Nat => [iv (s.1 : Int), iv (s.2 : Int)]) (fun s H' => s.1 < s.2 ∧ s.2 ≤ xs.length ∧ H0.le H' ∧ H1.nx ≤ H'.nx ∧ (∀ j, j < H1.nx → j ≠ r → H'.get j = H1.get j) ∧ ∃ es', H'.get r = some (.row 3 1 es') ∧ es'.length = es.length ∧ DtR es' ∧ es'.take s.1 = intE ((xs.take s.2).filter fun x => !p x) ∧ (∀ k, s.2 ≤ k → es'[k]? = es[k]?) ∧ ∀ k, k < xs.length → ∃ z, es'[k]? = some [iv z]) (fun s => xs.length - s.2) (i, i + 1) (.refl (Nat.le_refl _))
      ⟨Nat.lt_succ_self i, hi, hle, Nat.le_refl _, fun _ _ _ => rfl, es, h4, rfl, h6, ?_, fun _ _ => rfl, fun k hk => ⟨_, hat k _ (List.getElem?_eq_getElem hk)⟩⟩ ?_
    · dsimp only
      rw [filter_take_next hx, hpx, List.filter_eq_self.2 fun y hy => by rw [hno y hy]; rfl]
      simp
      have := congrArg (List.take i) h5
      rw [List.take_take, show min i xs.length = i by omega] at this
      rw [this]; simp [intE, List.map_take]
    rintro ⟨a, b⟩ H2 hn2 ⟨hab, hb, hle2, hn2', hfr, es', hrow, hel, hdt, htk, htail, hone⟩ k hk
    dsimp only at hab hb htk htail hk
    by_cases hbl : b < xs.length
    · obtain ⟨y, hy⟩ : ∃ y, xs[b]? = some y := ⟨_, List.getElem?_eq_getElem hbl⟩
      have hyb : es'[b]? = some [.p (.int .i64 y)] := by rw [htail b (Nat.le_refl _)]; exact hat b y hy
      have hyg : ∀ h, es'[b]'h = [.p (.int .i64 y)] := fun h => (List.getElem?_eq_some_iff.1 hyb).2
      have hbe : b < es'.length := by omega
      have haa : (a : Int) < (xs.length : Int) := by omega
      have hal : a < es'.length := by omega
      have hav := ivn (i := a) (by omega)
      have hbv := ivn (i := b) (by omega)
      obtain ⟨z0, hz0⟩ := hone a (by omega)
      have hzg : ∀ h, es'[a]'h = [iv z0] := fun h => (List.getElem?_eq_some_iff.1 hz0).2
      unfold iv at hzg
      simp (disch := first | omega | simp) [iv, hbl, hrow, hyg, hbe]
      refine ca_pure hg (hp y (List.mem_of_getElem? hy) H2 fun j hj hne => hfr j hj fun e => hne xs.length (by rw [e])) ?_
      cases hpy : p y with
      | true =>
        simp (disch := first | omega | simp) [bv, hbv]
        refine hk (a, b + 1) _ _ _ (.refl hn2) ⟨by dsimp only; omega, hbl, hle2, hn2', hfr, es', hrow, hel, hdt, ?_, fun k hk => htail k (by dsimp only at hk; omega), hone⟩ (by dsimp only; omega)
        dsimp only
        rw [filter_take_next hy, hpy, htk]; simp
      | false =>
        simp (disch := first | omega | simp) [bv, hav, hbv, haa, hrow, hal, hzg]
        refine hk (a + 1, b + 1) _ _ _ (.refl (by first | omega | (simp only [up_nx, put_nx, kill_nx]; done) | (simp only [up_nx, put_nx, kill_nx]; omega))) ⟨by dsimp only; omega, hbl, .put hw h2 (.up hle2), (by first | omega | (simp only [up_nx, put_nx, kill_nx]; done) | (simp only [up_nx, put_nx, kill_nx]; omega)), fun j hj hne => by rw [put_get_ne _ _ _ hne]; exact hfr j hj hne, _, put_get _ _, by rw [List.length_set]; exact hel, hdt.set (by intro z hz; simp at hz; subst hz; exact Dt.p _), ?_, fun k hk => ?_, fun k hk => ?_⟩ (by dsimp only; omega)
        · dsimp only
          rw [filter_take_next hy, hpy, List.take_add_one, List.getElem?_set_self (by omega), List.take_set_of_le (by omega), htk]
          simp [intE]
          rfl
        · dsimp only at hk
          rw [List.getElem?_set_ne (by omega)]; exact htail k (by omega)
        · rw [List.getElem?_set]
          by_cases e : a = k
          · subst e; rw [if_pos rfl, if_pos hal]; exact ⟨y, rfl⟩
          · rw [if_neg e]; exact hone k hk
    · have hbe : b = xs.length := by omega
      subst hbe
      rw [List.take_length] at htk
      have hal : (intE (xs.filter fun x => !p x)).length = a := by have := congrArg List.length htk; rw [List.length_take] at this; omega
      simp (disch := first | omega | simp) [iv, hrow]
      refine ⟨by omega, by omega, by omega, rt_refl ⟨.inr ⟨r, _, by rw [hal], h2, (by first | omega | (simp only [up_nx, put_nx, kill_nx]; done) | (simp only [up_nx, put_nx, kill_nx]; omega)), put_get _ _, ?_, ?_⟩, .put hw h2 (.up hle2), (by first | omega | (simp only [up_nx, put_nx, kill_nx]; done) | (simp only [up_nx, put_nx, kill_nx]; omega)), fun j hj hne => ⟨?_, fun n e => hne (by injection e)⟩⟩ (by first | omega | (simp only [up_nx, put_nx, kill_nx]; done) | (simp only [up_nx, put_nx, kill_nx]; omega))⟩
      · rw [hal, List.take_append_of_le_length (by rw [List.length_take]; omega), List.take_take, Nat.min_self]; exact htk
      · exact hdt.take.app ((DtR.app (fun e he z hz => by
          obtain ⟨_, rfl⟩ := List.mem_replicate.1 he
          simp at hz; subst hz; exact Dt.p _) hdt.drop))
      · rw [put_get_ne _ _ _ (fun e => hne e.symm)]; exact hfr j hj (fun e => hne e.symm))
end Go.Proofs.Ytcmnjoepadjioaa

/- Against, walked. -/
namespace Go.Proofs.Ytcmnjoepadjioaa
open Go.RowKit Go.Maps
def nI (l : List Nat) : List Int := l.map fun n : Nat => (n : Int)
theorem natL_nI (l : List Nat) : natL (nI l) = l := by
  simp only [natL, nI, List.map_map]
  exact List.map_id'' (fun _ => rfl) l
theorem nI_in {l : List Nat} (h : ∀ w ∈ l, w < 64) : ∀ x ∈ nI l, inWd x := fun x hx => by
  obtain ⟨n, hn, rfl⟩ := List.mem_map.1 hx
  have := h n hn
  unfold inWd; omega
theorem may_lt {p : List Clm} : ∀ w ∈ mayL p, w < 64 := fun w hw => (mem_may.1 hw).1
theorem agW_lt {p : List Clm} {c : Clm} : ∀ w ∈ agW p c, w < 64 := fun w hw => may_lt w (agW_may hw)
theorem nI_filter (l : List Nat) (f : Int → Bool) : (nI l).filter f = nI (l.filter fun n => f (n : Int)) := by
  unfold nI; rw [List.filter_map]; rfl
theorem holds_one (w : Nat) (c : Clm) : holdsC [w] c = (holds1 w c == c.so) := by simp [holdsC]
/-- what Against answers -/
def agR (p : List Clm) (c : Clm) : AV :=
  if okP p [c] ≠ 0 then .tup [.p (.slice none 0 0), bv false, iv (okP p [c])]
  else if agB p c then .tup [wE (nI (agW p c)), bv true, iv 0] else .tup [.p (.slice none 0 0), bv false, iv 0]
/-- the last question: does some premise not hold there -/
theorem c_ag_last {H6 : AH} {p : List Clm} {L : List Nat} {b : Nat} (hpo : ∀ q ∈ p, q.ok) (hL : ∀ w ∈ L, w < 64) (hb : H6.get b = some (.box 22 [wE (nI L)])) {k : AV → AH → Prop} (hk : k (bv (p.any fun q => !holdsC L q)) H6) :
    Ca Try.prog (.fn (.func 31) [] []) [.dsl 3 (p.map Clm.cs), .fn (.func 36) [] [.ptr b 0]] k H6 :=
  ca_pure (by kernel_rfl) (c_ContainsFunc_clm (p := fun q => !holdsC L q) (by kernel_rfl) fun q hq => by have := c_Ag4 (nI_in hL) (hpo q hq) hb; rwa [natL_nI] at this) hk
theorem all_not_any {α : Type} {p : List α} {f : α → Bool} : p.all f = !(p.any fun q => !f q) := by
  induction p with
  | nil => rfl
  | cons a r ih => rw [List.all_cons, List.any_cons, ih]; cases f a <;> simp
set_option maxHeartbeats 1000000 in
theorem c_Against (p : List Clm) (c : Clm) (H : AH) : Tri Try.prog 17 [cE p, c.av] H (fun r H' => H' = H ∧ r = agR p c) := tri_wf fun hw => tri_prove_Against (by
  unfold S_prove_Against
  have hmx : maxLen = 9223372036854775807 := by decide
  simp (disch := first | omega | simp) [cE, Clm.av, Clm.cs, put_get_ne]
  refine ca_row (ps := [.dsl 3 (p.map Clm.cs)]) (qs := []) (es := [c].map Clm.cs) (by kernel_rfl) (put_get _ _) (dt_cs [c]) rfl (c_checkAll p [c] (by simp) _) ?_
  rintro _ H1 ⟨rfl, rfl⟩
  generalize hokv : okP p [c] = e
  simp (disch := first | omega | simp) [iv]
  refine ⟨fun he => ?_, fun he => ?_⟩
  · exact rt_tup hw (by repeat (first | with_reducible assumption | with_reducible exact AH.le.refl _ | with_reducible apply AH.le.up | (with_reducible refine AH.le.put hw ?_ ?_; · first | omega | (simp only [up_nx, put_nx, kill_nx]; done) | (simp only [up_nx, put_nx, kill_nx]; omega)) | (with_reducible refine AH.le.kill hw ?_ ?_; · first | omega | (simp only [up_nx, put_nx, kill_nx]; done) | (simp only [up_nx, put_nx, kill_nx]; omega)))) (by repeat (first | exact Cl.p _ | exact Cl.dsl _ _ | exact Cl.any | refine Cl.tup ?_ | refine Cl.agg ?_ | exact Clo.nil | refine Clo.cons ?_ ?_)) ⟨rfl, by unfold agR; rw [if_pos (by rw [hokv]; exact he), hokv]; rfl⟩
  subst he
  obtain ⟨hpl, hpo⟩ := okP_zero hokv
  have hco : c.ok := hpo c (by simp)
  have hpo' : ∀ q ∈ p, q.ok := fun q hq => hpo q (List.mem_append_left _ hq)
  refine loop_st (fun w : Nat => [iv w]) (fun w H' => w ≤ 64 ∧ H.le H' ∧ H.nx + 10 ≤ H'.nx ∧ H'.get H.nx = some (.box 24 c.cs) ∧ ∃ v, Grows 3 1 H H' v (intE (nI ((List.range w).filter (mayB p)))) ∧ H'.get (H.nx + 9) = some (.box 22 [v])) (fun w => 64 - w) 0 (.refl (Nat.le_refl _)) ⟨Nat.zero_le _, (by repeat (first | with_reducible assumption | with_reducible exact AH.le.refl _ | with_reducible apply AH.le.up | (with_reducible refine AH.le.put hw ?_ ?_; · first | omega | (simp only [up_nx, put_nx, kill_nx]; done) | (simp only [up_nx, put_nx, kill_nx]; omega)) | (with_reducible refine AH.le.kill hw ?_ ?_; · first | omega | (simp only [up_nx, put_nx, kill_nx]; done) | (simp only [up_nx, put_nx, kill_nx]; omega)))), (by first | omega | (simp only [up_nx, put_nx, kill_nx]; done) | (simp only [up_nx, put_nx, kill_nx]; omega)), by simp (disch := first | omega | simp) [put_get_ne]; rfl, .p (.slice none 0 0), (show Grows 3 1 H _ _ [] from .nil _ _ _ _), put_get _ _⟩ ?_
  rintro w H1 hn1 ⟨hwl, hle, hn, hcb, v, hv, hvb⟩ k hk
  by_cases hw64 : w < 64
  · have hwi : (w : Int) < 64 := by omega
    have hwv := ivn (i := w) (by omega)
    simp (disch := first | omega | simp) [iv, hwi]
    refine ca_pure (by kernel_rfl) (c_ContainsFunc_clm (p := fun q => !(q.so || holdsC [w] q)) (by kernel_rfl) fun q hq => c_Ag1 hw64 (hpo' q hq) (put_get _ _)) ?_
    have hmay : (p.any fun q => !(q.so || holdsC [w] q)) = !mayB p w := by
      unfold mayB
      rw [Bool.eq_iff_iff]; simp
    rw [hmay]
    have hrs : (List.range (w + 1)).filter (mayB p) = (List.range w).filter (mayB p) ++ if mayB p w then [w] else [] := by
      rw [List.range_succ, List.filter_append]; congr 1; simp [List.filter_cons]
    cases hm : mayB p w with
    | false =>
      simp (disch := first | omega | simp) [bv, hwv]
      refine hk (w + 1) _ _ _ (.refl (by first | omega | (simp only [up_nx, put_nx, kill_nx]; done) | (simp only [up_nx, put_nx, kill_nx]; omega))) ⟨by omega, (by repeat (first | with_reducible assumption | with_reducible exact AH.le.refl _ | with_reducible apply AH.le.up | (with_reducible refine AH.le.put hw ?_ ?_; · first | omega | (simp only [up_nx, put_nx, kill_nx]; done) | (simp only [up_nx, put_nx, kill_nx]; omega)) | (with_reducible refine AH.le.kill hw ?_ ?_; · first | omega | (simp only [up_nx, put_nx, kill_nx]; done) | (simp only [up_nx, put_nx, kill_nx]; omega)))), (by first | omega | (simp only [up_nx, put_nx, kill_nx]; done) | (simp only [up_nx, put_nx, kill_nx]; omega)), ?_, v, ?_, ?_⟩ (by omega)
      · simp (disch := first | omega | simp) [put_get_ne]; exact hcb
      · rw [hrs, hm]; simpa using hv.up_ (by first | omega | (simp only [up_nx, put_nx, kill_nx]; done) | (simp only [up_nx, put_nx, kill_nx]; omega)) fun j o hj _ ho => by simp (disch := first | omega | simp) [put_get_ne]; exact ho
      · simp (disch := first | omega | simp) [put_get_ne]; exact hvb
    | true =>
      have hlen : (intE (nI ((List.range w).filter (mayB p)))).length ≤ 64 := by
        simp only [intE, nI, List.length_map]
        have := List.length_filter_le (mayB p) (List.range w)
        rw [List.length_range] at this; omega
      have hvn : ∀ n, v ≠ .osl (H.nx + 9) 1 0 n := hv.not fun xs e => by rw [hvb] at e; cases e
      have hcn : ∀ n, v ≠ .osl H.nx 1 0 n := hv.not fun xs e => by rw [hcb] at e; cases e
      simp (disch := first | omega | simp) [bv, hwv, put_get_ne, hvb]
      refine Grows.app (t := 3) hw (hv.up_ (by first | omega | (simp only [up_nx, put_nx, kill_nx]; done) | (simp only [up_nx, put_nx, kill_nx]; omega)) fun j o hj _ ho => by simp (disch := first | omega | simp) [put_get_ne]; exact ho) (by repeat (first | with_reducible assumption | with_reducible exact AH.le.refl _ | with_reducible apply AH.le.up | (with_reducible refine AH.le.put hw ?_ ?_; · first | omega | (simp only [up_nx, put_nx, kill_nx]; done) | (simp only [up_nx, put_nx, kill_nx]; omega)) | (with_reducible refine AH.le.kill hw ?_ ?_; · first | omega | (simp only [up_nx, put_nx, kill_nx]; done) | (simp only [up_nx, put_nx, kill_nx]; omega)))) (by first | omega | (simp only [up_nx, put_nx, kill_nx]; done) | (simp only [up_nx, put_nx, kill_nx]; omega)) (by first | omega | (simp only [up_nx, put_nx, kill_nx]; done) | (simp only [up_nx, put_nx, kill_nx]; omega)) (ys := [[iv w]]) ?_ (dt_ints [(w : Int)]) ?_ ?_ fun v' H2 g2 l2 n2 k2 hfr => ?_
      · simp [iv]
      · simp; omega
      · simp; omega
      obtain ⟨hp1, hp2⟩ := g2.part
      obtain ⟨n', hn'⟩ := hfr
      have hb2 : H2.get (H.nx + 9) = some (.box 22 [v]) := by rw [k2 _ (by omega) hvn]; simp (disch := first | omega | simp) [put_get_ne]; exact hvb
      have hc2 : H2.get H.nx = some (.box 24 c.cs) := by rw [k2 _ (by omega) hcn]; simp (disch := first | omega | simp) [put_get_ne]; exact hcb
      have n2' : H2.nx = H1.nx + 8 := by rw [n2]; simp only [up_nx, put_nx]
      simp (disch := first | omega | simp) [hb2, hp1, hp2, hwv]
      refine hk (w + 1) _ _ _ (.refl (by first | omega | (simp only [up_nx, put_nx, kill_nx]; done) | (simp only [up_nx, put_nx, kill_nx]; omega))) ⟨by omega, (by repeat (first | with_reducible assumption | with_reducible exact AH.le.refl _ | with_reducible apply AH.le.up | (with_reducible refine AH.le.put hw ?_ ?_; · first | omega | (simp only [up_nx, put_nx, kill_nx]; done) | (simp only [up_nx, put_nx, kill_nx]; omega)) | (with_reducible refine AH.le.kill hw ?_ ?_; · first | omega | (simp only [up_nx, put_nx, kill_nx]; done) | (simp only [up_nx, put_nx, kill_nx]; omega)))), (by first | omega | (simp only [up_nx, put_nx, kill_nx]; done) | (simp only [up_nx, put_nx, kill_nx]; omega)), by rw [put_get_ne _ _ _ (by omega)]; exact hc2, v', ?_, put_get _ _⟩ (by omega)
      rw [hrs, hm]
      have := g2.up_ (H2 := H2.put (H.nx + 9) (.box 22 [v'])) (Nat.le_refl _) fun j o hj ⟨n, hjn⟩ ho => by
        rw [put_get_ne _ _ _ (fun e => by rw [hn'] at hjn; injection hjn with e1; omega)]; exact ho
      simpa [nI, intE, iv] using this
  have hw6 : w = 64 := by omega
  subst hw6
  have hmay : (List.range 64).filter (mayB p) = mayL p := rfl
  rw [hmay] at hv
  have hcb' := hcb
  unfold Clm.cs at hcb
  cases hso : c.so with
  | true =>
    simp (disch := first | omega | simp) [iv, hcb, hvb, hso]
    have hf2 : (nI (mayL p)).filter (fun x => !holdsC [x.toNat] c) = nI (agW p c) := by
      rw [nI_filter]
      unfold agW
      rw [if_pos hso]
      congr 2
      funext w
      rw [Int.toNat_natCast, holds_one, hso]; simp
    have hvn : ∀ n, v ≠ .osl (H.nx + 9) 1 0 n := hv.not fun xs e => by rw [hvb] at e; cases e
    have hcn : ∀ n, v ≠ .osl H.nx 1 0 n := hv.not fun xs e => by rw [hcb] at e; cases e
    have hml : (nI (mayL p)).length < 1000000000 := by
      have := List.length_filter_le (mayB p) (List.range 64)
      rw [List.length_range] at this
      simp only [nI, List.length_map, mayL]; omega
    refine ca_of (by kernel_rfl) (c_DeleteFunc (H0 := H) hw (by repeat (first | with_reducible assumption | with_reducible exact AH.le.refl _ | with_reducible apply AH.le.up | (with_reducible refine AH.le.put hw ?_ ?_; · first | omega | (simp only [up_nx, put_nx, kill_nx]; done) | (simp only [up_nx, put_nx, kill_nx]; omega)) | (with_reducible refine AH.le.kill hw ?_ ?_; · first | omega | (simp only [up_nx, put_nx, kill_nx]; done) | (simp only [up_nx, put_nx, kill_nx]; omega)))) (by first | omega | (simp only [up_nx, put_nx, kill_nx]; done) | (simp only [up_nx, put_nx, kill_nx]; omega)) (hv.up_ (by first | omega | (simp only [up_nx, put_nx, kill_nx]; done) | (simp only [up_nx, put_nx, kill_nx]; omega)) fun j o hj _ ho => ho) hml (p := fun x => holdsC [x.toNat] c) (by kernel_rfl) fun x hx H' hk => c_Ag2 (nI_in may_lt x hx) hco ((hk H.nx (by first | omega | (simp only [up_nx, put_nx, kill_nx]; done) | (simp only [up_nx, put_nx, kill_nx]; omega)) hcn).trans hcb')) ?_
    rintro r H2 ⟨g2, l2, n2, k2⟩
    rw [hf2] at g2
    simp only [up_nx] at n2
    obtain ⟨kb, rb⟩ := k2 (H.nx + 9) (by first | omega | (simp only [up_nx, put_nx, kill_nx]; done) | (simp only [up_nx, put_nx, kill_nx]; omega)) hvn
    obtain ⟨hp1, hp2⟩ := g2.part
    have hb2 : H2.get (H.nx + 9) = some (.box 22 [v]) := kb.trans hvb
    simp (disch := first | omega | simp) [hb2, hp1, hp2]
    have g3 := g2.up_ (H2 := H2.put (H.nx + 9) (.box 22 [r])) (Nat.le_refl _) fun j o hj ⟨n, hjn⟩ ho => by
      rw [put_get_ne _ _ _ (fun e => by subst e; exact rb n hjn)]; exact ho
    obtain ⟨H6, f1, f2, f3, f4, f5⟩ := g3.fzbox (P := Try.prog) hw (by repeat (first | with_reducible assumption | with_reducible exact AH.le.refl _ | with_reducible apply AH.le.up | (with_reducible refine AH.le.put hw ?_ ?_; · first | omega | (simp only [up_nx, put_nx, kill_nx]; done) | (simp only [up_nx, put_nx, kill_nx]; omega)) | (with_reducible refine AH.le.kill hw ?_ ?_; · first | omega | (simp only [up_nx, put_nx, kill_nx]; done) | (simp only [up_nx, put_nx, kill_nx]; omega)))) (by first | omega | (simp only [up_nx, put_nx, kill_nx]; done) | (simp only [up_nx, put_nx, kill_nx]; omega)) (put_get _ _) (by omega)
    refine ⟨H6, f1, ?_⟩
    simp (disch := first | omega | simp) []
    refine c_ag_last hpo' agW_lt f4 ?_
    unfold agR
    rw [hokv]
    simp only [ne_eq, not_true_eq_false, if_false]
    unfold agB
    rw [hso]
    rw [all_not_any]
    cases p.any fun q => !holdsC (agW p c) q
    · simp (disch := first | omega | simp) [bv, f4]
      exact rt_tup hw f2 (by repeat (first | exact Cl.p _ | exact Cl.dsl _ _ | exact Cl.any | refine Cl.tup ?_ | refine Cl.agg ?_ | exact Clo.nil | refine Clo.cons ?_ ?_)) ⟨rfl, rfl⟩
    · simp (disch := first | omega | simp) [bv]
      exact rt_tup hw f2 (by repeat (first | exact Cl.p _ | exact Cl.dsl _ _ | exact Cl.any | refine Cl.tup ?_ | refine Cl.agg ?_ | exact Clo.nil | refine Clo.cons ?_ ?_)) ⟨rfl, rfl⟩
  | false =>
    simp (disch := first | omega | simp) [iv, hcb, hvb, hso]
    have hcn : ∀ n, v ≠ .osl H.nx 1 0 n := hv.not fun xs e => by rw [hcb] at e; cases e
    obtain ⟨H6, f1, f2, f3, f4, f5⟩ := hv.fzbox (P := Try.prog) hw hle (by first | omega | (simp only [up_nx, put_nx, kill_nx]; done) | (simp only [up_nx, put_nx, kill_nx]; omega)) hvb (by omega)
    have hc6 := (f5 H.nx (by omega) hcn).trans hcb'
    refine ⟨H6, f1, ?_⟩
    simp (disch := first | omega | simp) [f4]
    refine ca_pure (by kernel_rfl) (c_ContainsFunc_int (p := fun x => !holdsC [x.toNat] c) (by kernel_rfl) fun x hx => c_Ag3 (nI_in may_lt x hx) hco hc6) ?_
    have hany : ((nI (mayL p)).any fun x => !holdsC [x.toNat] c) = (mayL p).any fun w => holds1 w c := by
      unfold nI
      rw [List.any_map]
      congr 1
      funext w
      simp only [Function.comp, Int.toNat_natCast, holds_one, hso]; simp
    rw [hany]
    have haw : agW p c = mayL p := by unfold agW; rw [if_neg (by rw [hso]; decide)]
    unfold agR
    rw [hokv]
    simp only [ne_eq, not_true_eq_false, if_false]
    unfold agB
    rw [hso, haw, all_not_any]
    obtain ⟨an, han⟩ : ∃ an, an = p.any fun q => !holdsC (mayL p) q := ⟨_, rfl⟩
    rw [← han]
    cases hma : (mayL p).any fun w => holds1 w c with
    | false =>
      simp (disch := first | omega | simp) [bv]
      exact rt_tup hw f2 (by repeat (first | exact Cl.p _ | exact Cl.dsl _ _ | exact Cl.any | refine Cl.tup ?_ | refine Cl.agg ?_ | exact Clo.nil | refine Clo.cons ?_ ?_)) ⟨rfl, rfl⟩
    | true =>
      simp (disch := first | omega | simp) [bv]
      refine ⟨H6, .refl H6, ?_⟩
      simp (disch := first | omega | simp) []
      refine c_ag_last hpo' may_lt f4 ?_
      rw [← han]
      cases an
      · simp (disch := first | omega | simp) [bv, f4]
        exact rt_tup hw f2 (by repeat (first | exact Cl.p _ | exact Cl.dsl _ _ | exact Cl.any | refine Cl.tup ?_ | refine Cl.agg ?_ | exact Clo.nil | refine Clo.cons ?_ ?_)) ⟨rfl, rfl⟩
      · simp (disch := first | omega | simp) [bv]
        exact rt_tup hw f2 (by repeat (first | exact Cl.p _ | exact Cl.dsl _ _ | exact Cl.any | refine Cl.tup ?_ | refine Cl.agg ?_ | exact Clo.nil | refine Clo.cons ?_ ?_)) ⟨rfl, rfl⟩)
end Go.Proofs.Ytcmnjoepadjioaa
