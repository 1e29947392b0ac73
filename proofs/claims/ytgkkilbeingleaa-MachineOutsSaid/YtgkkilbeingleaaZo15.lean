/- Texts that the proof rests on, part 15: what each holds stands at its head. -/
import Derived.Test.YtgkkilbeingleaaZo14

/- The product of two machines, numbered: what is done at each pair. Plain. -/
namespace Go.Proofs.Ytgkkilbeingleaa
end Go.Proofs.Ytgkkilbeingleaa

/- Through: pairs of states, numbered; what a pair's number is. -/
namespace Go.Proofs.Ytgkkilbeingleaa
open Go.RowKit Go.Maps
def kv (i j : Int) : Value := .agg #[.int .i64 i, .int .i64 j]
/-- the numbers of pairs -/
def numF (B : Int) (l : List Int) : Value → Option AV
  | .agg xs => match xs.toList with
    | [.int .i64 i, .int .i64 j] => if 0 ≤ j ∧ j < B ∧ i * B + j ∈ l then some (iv (l.idxOf (i * B + j) : Nat)) else none
    | _ => none
  | _ => none
def pc (B q : Int) : List AV := [iv (q / B), iv (q % B)]
structure ThN where
  X : Nat
  xb : Nat
  nb : Nat
  lb : Nat
  mp : Nat
/-- the pairs that are numbered so far, and the machine that is made of them, as they lie -/
structure ThAt (Bs H : AH) (B : Int) (n : ThN) (s : NS) (v : AV) : Prop where
  mk_ : MkAt Bs H n.X ⟨s.l.length, s.arcs, []⟩ s.c
  gx : H.get n.xb = some (.box 69 [.ptr n.X 0])
  gn : H.get n.nb = some (.box 73 [.mp n.mp])
  gl : H.get n.lb = some (.box 74 [v])
  gm : H.get n.mp = some (.map 72 s.l.length (numF B s.l))
  gr : Grows 72 2 Bs H v (s.l.map (pc B))
  bx : Bs.nx ≤ n.xb ∧ Bs.nx ≤ n.nb ∧ Bs.nx ≤ n.lb ∧ Bs.nx ≤ n.mp
theorem ThAt.lt {Bs H : AH} {B : Int} {n : ThN} {s : NS} {v : AV} (h : ThAt Bs H B n s v) (hw : WF H) : n.X < H.nx ∧ n.xb < H.nx ∧ n.nb < H.nx ∧ n.lb < H.nx ∧ n.mp < H.nx :=
  ⟨h.mk_.hx, (hw _ _ h.gx).1, (hw _ _ h.gn).1, (hw _ _ h.gl).1, (hw _ _ h.gm).1⟩
theorem ThAt.ne {Bs H : AH} {B : Int} {n : ThN} {s : NS} {v : AV} (h : ThAt Bs H B n s v) : n.X ≠ n.xb ∧ n.X ≠ n.nb ∧ n.X ≠ n.lb ∧ n.X ≠ n.mp ∧ n.xb ≠ n.nb ∧ n.xb ≠ n.lb ∧ n.xb ≠ n.mp ∧ n.nb ≠ n.lb ∧ n.nb ≠ n.mp ∧ n.lb ≠ n.mp := by
  obtain ⟨va, vf, hX, _, _⟩ := h.mk_.at_
  have hx := h.gx; have hn := h.gn; have hl := h.gl; have hm := h.gm
  refine ⟨?_, ?_, ?_, ?_, ?_, ?_, ?_, ?_, ?_, ?_⟩ <;> intro e
  · rw [e, hx] at hX; injection hX with hX; injection hX with hX; exact absurd hX (by decide)
  · rw [e, hn] at hX; injection hX with hX; injection hX with hX; exact absurd hX (by decide)
  · rw [e, hl] at hX; injection hX with hX; injection hX with hX; exact absurd hX (by decide)
  · rw [e, hm] at hX; cases hX
  · rw [e, hn] at hx; injection hx with hx; injection hx with hx; exact absurd hx (by decide)
  · rw [e, hl] at hx; injection hx with hx; injection hx with hx; exact absurd hx (by decide)
  · rw [e, hm] at hx; cases hx
  · rw [e, hl] at hn; injection hn with hn; injection hn with hn; exact absurd hn (by decide)
  · rw [e, hm] at hn; cases hn
  · rw [e, hm] at hl; cases hl
theorem ThAt.same {Bs H H' : AH} {B : Int} {n : ThN} {s : NS} {v : AV} (h : ThAt Bs H B n s v) (hwB : WF Bs) (hw : WF H) (hn : H.nx ≤ H'.nx) (hk : ∀ j, j < H.nx → H'.get j = H.get j) : ThAt Bs H' B n s v := by
  obtain ⟨l1, l2, l3, l4, l5⟩ := h.lt hw
  exact ⟨h.mk_.same hwB hn hk, by rw [hk _ l2]; exact h.gx, by rw [hk _ l3]; exact h.gn, by rw [hk _ l4]; exact h.gl, by rw [hk _ l5]; exact h.gm, h.gr.same hn fun j hj _ => hk j hj, h.bx⟩
end Go.Proofs.Ytgkkilbeingleaa

/- Abstract walks of functions, written by a program (wip/aw/aw.py): each equation is checked by the kernel. -/
namespace Go.Proofs.Ytgkkilbeingleaa
open Go.RowKit

/-! wordhoard/machine.Outs -/
def ac_machine_Outs : AC := (.seq (.reg 0) (.seq (.seq (.reg 1) (.seq (.reg 2) (.cond (.tmp 19) (.seq (.reg 3) .ret) .skip))) (.seq (.seq (.reg 4) (.cond (.tmp 31) (.seq (.reg 5) .ret) .skip)) (.seq (.seq (.reg 6) (.cond (.tmp 34) (.seq (.reg 7) .ret) .skip)) (.seq (.reg 8) (.seq (.seq (.reg 9) (.block 0 (.loop [44] [(11, 12), (45, 55)] (.seq (.reg 10) (.seq (.cond (.tmp 45) .skip (.exit 0)) (.seq (.block 1 (.seq (.reg 11) (.reg 12))) (.reg 13))))))) (.seq (.reg 14) (.seq (.reg 15) (.seq (.reg 16) (.seq (.reg 17) (.seq (.fk 18 (.mark 5 (.split 0 3 (.leaf [0, 1, 2, 3, 4, 5, 6] #[0, 0, 0, 7, 15, 31, 63]) (.leaf [1, 2, 3, 0, 4, 5, 6] #[14, 0, 0, 6, 14, 31, 63])))) (.seq (.seq (.reg 19) (.block 2 (.loop [15] [(6, 8), (66, 86)] (.seq (.seq (.reg 20) (.cond (.tmp 68) .skip (.exit 2))) (.seq (.block 3 (.seq (.seq (.reg 21) (.cond (.tmp 80) (.exit 3) .skip)) (.seq (.reg 22) (.cond (.tmp 85) (.seq (.reg 23) .ret) .skip)))) (.reg 24)))))) (.seq (.reg 25) .ret)))))))))))))
def S_machine_Outs_L1 (a2 : AV) (Q : AV → AH → Prop) (H : AH) (v9 : AV) (v12 : AV) (v13 : AV) (v65 : AV) (vs_71 : List AV) (k_70 : List AV → AH → Prop) : AH → Prop :=
 Pu Try.prog (.bin .leq 3) [(vs_71.getD 0 .any), a2] fun v68 =>
 CdA v68
 (
 RdS Try.prog (.ld 1 false) [v9] fun v71 =>
 Pu Try.prog .nilck [v71] fun v72 =>
 Pu Try.prog (.addOff 3) [v72] fun v73 =>
 RdS Try.prog (.ld 1 false) [v73] fun v74 =>
 Pu Try.prog (.idx 1) [v74, (vs_71.getD 0 .any)] fun v76 =>
 RdS Try.prog (.ld 1 false) [v76] fun v77 =>
 Pu Try.prog (.bld [.p (.int .i64 0), .p (.int .i64 0)] []) [] fun v78 =>
 RdS Try.prog (.look 91 (.p (.int .i64 0)) false) [v77, v78] fun v79 =>
 Pu Try.prog (.bin .eql 3) [v79, (.p (.int .i64 0))] fun v80 =>
 CdA v80
 (
 Pu Try.prog (.bin .add 3) [(vs_71.getD 0 .any), (.p (.int .i64 1))] fun v70 =>
 k_70 [v70]
 ) (
 RdS Try.prog (.ld 1 false) [v13] fun v81 =>
 Ca Try.prog v81 [(.p (.slice none 0 0)), v65, (vs_71.getD 0 .any)] fun v84 =>
 Pu Try.prog (.un .not) [v84] fun v85 =>
 CdA v85
 (
 Rt Try.prog H.nx (.tup [(.p (.slice none 0 0)), (.p (.int .i64 7))]) Q
 ) (
 Pu Try.prog (.bin .add 3) [(vs_71.getD 0 .any), (.p (.int .i64 1))] fun v70_86 =>
 k_70 [v70_86]
 )
 )
 ) (
 RdS Try.prog (.ld 1 false) [v12] fun v86 =>
 Rt Try.prog H.nx (.tup [v86, (.p (.int .i64 0))]) Q
 )
def S_machine_Outs_L2 (a2 : AV) (Q : AV → AH → Prop) (H : AH) (v9 : AV) (v12 : AV) (v13 : AV) (v65_94 : AV) (vs_97 : List AV) (k_96 : List AV → AH → Prop) : AH → Prop :=
 Pu Try.prog (.bin .leq 3) [(vs_97.getD 0 .any), a2] fun v68_98 =>
 CdA v68_98
 (
 RdS Try.prog (.ld 1 false) [v9] fun v71_99 =>
 Pu Try.prog .nilck [v71_99] fun v72_100 =>
 Pu Try.prog (.addOff 3) [v72_100] fun v73_101 =>
 RdS Try.prog (.ld 1 false) [v73_101] fun v74_102 =>
 Pu Try.prog (.idx 1) [v74_102, (vs_97.getD 0 .any)] fun v76_103 =>
 RdS Try.prog (.ld 1 false) [v76_103] fun v77_104 =>
 Pu Try.prog (.bld [.p (.int .i64 0), .p (.int .i64 0)] []) [] fun v78_105 =>
 RdS Try.prog (.look 91 (.p (.int .i64 0)) false) [v77_104, v78_105] fun v79_106 =>
 Pu Try.prog (.bin .eql 3) [v79_106, (.p (.int .i64 0))] fun v80_107 =>
 CdA v80_107
 (
 Pu Try.prog (.bin .add 3) [(vs_97.getD 0 .any), (.p (.int .i64 1))] fun v70_108 =>
 k_96 [v70_108]
 ) (
 RdS Try.prog (.ld 1 false) [v13] fun v81_109 =>
 Ca Try.prog v81_109 [(.p (.slice none 0 0)), v65_94, (vs_97.getD 0 .any)] fun v84_110 =>
 Pu Try.prog (.un .not) [v84_110] fun v85_111 =>
 CdA v85_111
 (
 Rt Try.prog H.nx (.tup [(.p (.slice none 0 0)), (.p (.int .i64 7))]) Q
 ) (
 Pu Try.prog (.bin .add 3) [(vs_97.getD 0 .any), (.p (.int .i64 1))] fun v70_112 =>
 k_96 [v70_112]
 )
 )
 ) (
 RdS Try.prog (.ld 1 false) [v12] fun v86_113 =>
 Rt Try.prog H.nx (.tup [v86_113, (.p (.int .i64 0))]) Q
 )
def S_machine_Outs_C3 (a2 : AV) (Q : AV → AH → Prop) (H : AH) (v3 : AV) (v9 : AV) : AH → Prop :=
 RdS Try.prog (.ld 1 false) [v9] fun v55 =>
 Pu Try.prog (.addOff 0) [v3] fun v56 =>
 RdS Try.prog (.ld 1 false) [v56] fun v57 =>
 Ca Try.prog (.fn (.func 49) [] []) [v55, v57, a2] fun _ =>
 Rg 1 fun b_54 =>
 Al (b_54 + 0) (.nw 44 [.p (.slice none 0 0)]) [] fun v12 =>
 Rg 1 fun b_56 =>
 Al (b_56 + 0) (.nw 86 [.p (.nilFunc)]) [] fun v13 =>
 Rg 2 fun b_58 =>
 Pu Try.prog (.mkfn (.func 50) 0) [v12, v9, v13] fun v60 =>
 WrS Try.prog (b_58 + 1) (.st 1) [v13, v60] fun _ =>
 Rg 7 fun b_61 =>
 BothA (
 Vw fun V_62 =>
 Rd Try.prog V_62 (.ld 1 false) [v9] fun v61 =>
 Al (b_61 + 1) (.mm 91) [] fun v62 =>
 Pu Try.prog (.bld [.p (.int .i64 0), .p (.int .i64 0)] []) [] fun v63 =>
 Wr Try.prog (b_61 + 3) (.mset 91) [v62, v63, (.p (.int .i64 1))] fun _ _ =>
 Ca Try.prog (.fn (.func 53) [] []) [v61, v62] fun v65 =>
 Vw fun _ =>
 LoopA Try.prog 1 (S_machine_Outs_L1 a2 Q H v9 v12 v13 v65) [(.p (.int .i64 0))]
 ) (
 Vw fun _ =>
 Al (b_61 + 1) (.mm 91) [] fun v62_89 =>
 Pu Try.prog (.bld [.p (.int .i64 0), .p (.int .i64 0)] []) [] fun v63_90 =>
 Wr Try.prog (b_61 + 3) (.mset 91) [v62_89, v63_90, (.p (.int .i64 1))] fun _ V_92 =>
 Rd Try.prog V_92 (.ld 1 false) [v9] fun v61_93 =>
 Ca Try.prog (.fn (.func 53) [] []) [v61_93, v62_89] fun v65_94 =>
 Vw fun _ =>
 LoopA Try.prog 1 (S_machine_Outs_L2 a2 Q H v9 v12 v13 v65_94) [(.p (.int .i64 0))]
 )
def S_machine_Outs_L4 (a2 : AV) (Q : AV → AH → Prop) (H : AH) (v3 : AV) (v9 : AV) (v42 : AV) (v43 : AV) (vs : List AV) (k_31 : List AV → AH → Prop) : AH → Prop :=
 Pu Try.prog (.bin .lss 3) [(vs.getD 0 .any), v43] fun v45 =>
 CdA v45
 (
 Rg 4 fun b_34 =>
 Pu Try.prog (.idx 2) [v42, (vs.getD 0 .any)] fun v46 =>
 RdS Try.prog (.ld 2 true) [v46] fun v47 =>
 Al (b_34 + 2) (.nw 56 [.p (.int .i64 0), .p (.int .i64 0)]) [] fun v11 =>
 WrS Try.prog (b_34 + 3) (.st 2) [v11, v47] fun _ =>
 Rg 7 fun b_39 =>
 Vw fun V =>
 Rd Try.prog V (.ld 1 false) [v9] fun v48 =>
 Pu Try.prog .nilck [v48] fun v49 =>
 Pu Try.prog (.addOff 2) [v49] fun v50 =>
 Rd Try.prog V (.ld 1 false) [v50] fun v51 =>
 Pu Try.prog (.addOff 0) [v11] fun v52 =>
 Rd Try.prog V (.ld 1 false) [v52] fun v53 =>
 Wr Try.prog (b_39 + 6) (.mset 3) [v51, v53, (.p (.int .i64 1))] fun _ _ =>
 Pu Try.prog (.bin .add 3) [(vs.getD 0 .any), (.p (.int .i64 1))] fun v54 =>
 k_31 [v54]
 ) (S_machine_Outs_C3 a2 Q H v3 v9)
def S_machine_Outs_C5 (a1 : AV) (a2 : AV) (Q : AV → AH → Prop) (H : AH) (v3 : AV) : AH → Prop :=
 Ca Try.prog (.fn (.func 48) [] []) [a1] fun v22 =>
 Pu Try.prog (.bin .neq 28) [v22, (.p (.int .i64 0))] fun v23 =>
 Gd v23 false (fun k => k a2) fun v25 =>
 Gd v23 false (fun k_11 => Pu Try.prog (.bin .lss 3) [v25, (.p (.int .i64 0))] k_11) fun v26 =>
 Pu Try.prog .pick [v23, (.p (.bool true)), v26] fun v27 =>
 Gd v27 false (fun k_14 => k_14 a2) fun v29 =>
 Gd v27 false (fun k_16 => Pu Try.prog (.bin .gtr 3) [v29, (.p (.int .i64 8))] k_16) fun v30 =>
 Pu Try.prog .pick [v27, (.p (.bool true)), v30] fun v31 =>
 CdA v31
 (
 Rt Try.prog H.nx (.tup [(.p (.slice none 0 0)), (.p (.int .i64 2))]) Q
 ) (
 Ca Try.prog (.fn (.func 35) [] []) [a1] fun v33 =>
 Pu Try.prog (.un .not) [v33] fun v34 =>
 CdA v34
 (
 Rt Try.prog H.nx (.tup [(.p (.slice none 0 0)), (.p (.int .i64 3))]) Q
 ) (
 Rg 8 fun b_20 =>
 RdS Try.prog (.ld 3 true) [v3] fun v35 =>
 Ca Try.prog (.fn (.func 36) [] []) [v35] fun v36 =>
 Al (b_20 + 3) (.mm 3) [] fun v38 =>
 Pu Try.prog (.bld [.p (.slice none 0 0), .p (.slice none 0 0), .p (.map none), .p (.slice none 0 0)] [(0, 1), (1, 1), (2, 1)]) [v36, a1, v38] fun v39 =>
 Al (b_20 + 5) (.bx 85) [v39] fun v40 =>
 Al (b_20 + 6) (.nw 82 [.p (.pointer none)]) [] fun v9 =>
 WrS Try.prog (b_20 + 7) (.st 1) [v9, v40] fun _ =>
 Pu Try.prog (.addOff 2) [v3] fun v41 =>
 RdS Try.prog (.ld 1 false) [v41] fun v42 =>
 Pu Try.prog .len [v42] fun v43 =>
 LoopA Try.prog 1 (S_machine_Outs_L4 a2 Q H v3 v9 v42 v43) [(.p (.int .i64 0))]
 )
 )
def S_machine_Outs (a0 a1 a2 : AV) (Q : AV → AH → Prop) (H : AH) : Prop := (
 Rg 3 fun b =>
 Al (b + 0) (.bx 25) [a0] fun v3 =>
 RdS Try.prog (.ld 3 true) [v3] fun v16 =>
 Ca Try.prog (.fn (.func 8) [] []) [v16] fun v17 =>
 Pu Try.prog (.bin .neq 28) [v17, (.p (.int .i64 0))] fun v19 =>
 CdA v19
 (
 Rt Try.prog H.nx (.tup [(.p (.slice none 0 0)), v17]) Q
 ) (S_machine_Outs_C5 a1 a2 Q H v3)
 ) H
theorem eq_machine_Outs (a0 a1 a2 : AV) (Q : AV → AH → Prop) (H : AH) : FnA Try.prog 87 (regsF Try.f27) ac_machine_Outs [.tm 6, .tm 7] [a0, a1, a2] H Q = S_machine_Outs a0 a1 a2 Q H := by kernel_rfl
theorem tri_machine_Outs {a0 a1 a2 : AV} {H : AH} {Q : AV → AH → Prop} (h : S_machine_Outs a0 a1 a2 Q H) : Tri Try.prog 27 [a0, a1, a2] H Q :=
  tri_of (Ms := [#[], #[], #[], #[], #[], #[], #[], #[], #[], #[], #[], #[], #[0, 1, 3, 7, 0, 16, 63], #[], #[], #[], #[], #[], #[0, 0, 0, 6, 14, 31, 63], #[], #[], #[], #[], #[], #[], #[]]) mixed Try.func27 rfl (by kernel_rfl) (by kernel_rfl) rfl (of_decide_eq_true rfl : 3 ≤ 87) (by rw [eq_machine_Outs a0 a1 a2 Q H]; exact h : FnA Try.prog 87 (regsF Try.f27) ac_machine_Outs [.tm 6, .tm 7] [a0, a1, a2] H Q)

/-! wordhoard/machine.Outs$1 -/
def ac_machine_Outs_fn1 : AC := (.seq (.reg 0) (.seq (.seq (.reg 1) (.cond (.tmp 18) (.seq (.reg 2) (.seq (.reg 3) .ret)) .skip)) (.seq (.reg 4) (.seq (.seq (.reg 5) (.block 0 (.loop [] [(11, 12), (13, 16), (30, 89)] (.seq (.reg 6) (.seq (.cond (.tmp 31) .skip (.exit 0)) (.block 1 (.seq (.reg 7) (.seq (.reg 8) (.block 2 (.loop [43] [(13, 16), (44, 89)] (.seq (.reg 9) (.seq (.cond (.tmp 44) .skip (.exit 2)) (.seq (.block 3 (.seq (.reg 10) (.seq (.reg 11) (.seq (.seq (.reg 12) (.cond (.tmp 73) (.exit 3) .skip)) (.seq (.seq (.reg 13) (.cond (.tmp 78) (.reg 14) .skip)) (.reg 15)))))) (.reg 16)))))))))))))) (.seq (.seq (.reg 17) (.block 4 (.loop [16] [(9, 10), (89, 111)] (.seq (.seq (.reg 18) (.cond (.tmp 90) .skip (.exit 4))) (.seq (.block 5 (.seq (.seq (.reg 19) (.cond (.tmp 96) (.exit 5) .skip)) (.seq (.fk 20 (.mark 9 (.leaf [0, 1, 2, 3, 4, 5, 6, 7, 8, 10, 11, 9, 12, 13] #[0, 0, 0, 4, 14, 0, 0, 0, 192, 510, 0, 1024, 4095, 8191]))) (.cond (.tmp 110) (.seq (.reg 21) .ret) .skip)))) (.reg 22)))))) (.seq (.reg 23) .ret))))))
def S_machine_Outs_fn1_C1 (v27 : AV) (k_38 : List AV → AH → Prop) (vs_39 : List AV) (v13 : AV) (v14 : AV) : AH → Prop :=
 Pu Try.prog (.addOff 3) [v13] fun v75 =>
 RdS Try.prog (.ld 1 false) [v75] fun v76 =>
 RdS Try.prog (.look 3 (.p (.map none)) false) [v27, v76] fun v77 =>
 Pu Try.prog (.bin .eql 87) [v77, (.p (.map none))] fun v78 =>
 CdA v78
 (
 Rg 5 fun b_106 =>
 Pu Try.prog (.addOff 3) [v13] fun v80 =>
 RdS Try.prog (.ld 1 false) [v80] fun v81 =>
 Al (b_106 + 3) (.mm 91) [] fun v82 =>
 WrS Try.prog (b_106 + 4) (.mset 3) [v27, v81, v82] fun _ =>
 Rg 6 fun b_111 =>
 Pu Try.prog (.addOff 3) [v13] fun v84 =>
 RdS Try.prog (.ld 1 false) [v84] fun v85 =>
 RdS Try.prog (.look 3 (.p (.map none)) false) [v27, v85] fun v86 =>
 RdS Try.prog (.ld 2 true) [v14] fun v87 =>
 WrS Try.prog (b_111 + 5) (.mset 91) [v86, v87, (.p (.int .i64 1))] fun _ =>
 Pu Try.prog (.bin .add 3) [(vs_39.getD 0 .any), (.p (.int .i64 1))] fun v88_117 =>
 k_38 [v88_117]
 ) (
 Rg 6 fun b_118 =>
 Pu Try.prog (.addOff 3) [v13] fun v84_119 =>
 RdS Try.prog (.ld 1 false) [v84_119] fun v85_120 =>
 RdS Try.prog (.look 3 (.p (.map none)) false) [v27, v85_120] fun v86_121 =>
 RdS Try.prog (.ld 2 true) [v14] fun v87_122 =>
 WrS Try.prog (b_118 + 5) (.mset 91) [v86_121, v87_122, (.p (.int .i64 1))] fun _ =>
 Pu Try.prog (.bin .add 3) [(vs_39.getD 0 .any), (.p (.int .i64 1))] fun v88_124 =>
 k_38 [v88_124]
 )
def S_machine_Outs_fn1_C2 (a2 : AV) (a4 : AV) (v27 : AV) (v11 : AV) (v41 : AV) (k_38 : List AV → AH → Prop) (vs_39 : List AV) : AH → Prop :=
 Rg 4 fun b_41 =>
 Pu Try.prog (.idx 5) [v41, (vs_39.getD 0 .any)] fun v45 =>
 RdS Try.prog (.ld 5 true) [v45] fun v46 =>
 Al (b_41 + 2) (.nw 53 [.p (.int .i64 0), .p (.int .i64 0), .p (.int .i64 0), .p (.int .i64 0), .p (.int .i64 0)]) [] fun v13 =>
 WrS Try.prog (b_41 + 3) (.st 5) [v13, v46] fun _ =>
 Rg 10 fun b_46 =>
 RdS Try.prog (.ld 1 false) [a4] fun v48 =>
 RdS Try.prog (.ld 2 true) [v11] fun v49 =>
 RdS Try.prog (.ld 5 true) [v13] fun v50 =>
 Ca Try.prog (.fn (.func 52) [] []) [v48, v49, v50] fun v51 =>
 Pu Try.prog (.ext 0) [v51] fun v52 =>
 Pu Try.prog (.ext 1) [v51] fun v53 =>
 Al (b_46 + 7) (.nw 91 [.p (.int .i64 0), .p (.int .i64 0)]) [] fun v14 =>
 WrS Try.prog (b_46 + 8) (.st 2) [v14, v52] fun _ =>
 Vw fun V_55 =>
 Pu Try.prog (.un .not) [v53] fun v55 =>
 GdV v55 false (fun k_58 => Pu Try.prog (.addOff 3) [v13] (fun a => k_58 a V_55)) V_55 fun v57 V_59 =>
 GdV v55 false (fun k_61 => Rd Try.prog V_59 (.ld 1 false) [v57] (fun a => k_61 a V_59)) V_59 fun v58 V_62 =>
 GdV v55 false (fun k_64 => Pu Try.prog (.bin .eql 3) [v58, (.p (.int .i64 0))] (fun a => k_64 a V_62)) V_62 fun v59 V_65 =>
 Pu Try.prog .pick [v55, (.p (.bool true)), v59] fun v60 =>
 GdV v60 false (fun k_68 => Rd Try.prog V_65 (.ld 1 false) [a4] (fun a => k_68 a V_65)) V_65 fun v62 V_69 =>
 GdV v60 false (fun k_71 => Pu Try.prog .nilck [v62] (fun a => k_71 a V_69)) V_69 fun v63 V_72 =>
 GdV v60 false (fun k_74 => Pu Try.prog (.addOff 3) [v63] (fun a => k_74 a V_72)) V_72 fun v64 V_75 =>
 GdV v60 false (fun k_77 => Rd Try.prog V_75 (.ld 1 false) [v64] (fun a => k_77 a V_75)) V_75 fun v65 V_78 =>
 GdV v60 false (fun k_80 => k_80 a2 V_78) V_78 fun v66 V_81 =>
 GdV v60 false (fun k_83 => Pu Try.prog (.bin .sub 3) [v66, (.p (.int .i64 1))] (fun a => k_83 a V_81)) V_81 fun v67 V_84 =>
 GdV v60 false (fun k_86 => Pu Try.prog (.idx 1) [v65, v67] (fun a => k_86 a V_84)) V_84 fun v68 V_87 =>
 GdV v60 false (fun k_89 => Rd Try.prog V_87 (.ld 1 false) [v68] (fun a => k_89 a V_87)) V_87 fun v69 V_90 =>
 GdV v60 false (fun k_92 => Rd Try.prog V_90 (.ld 2 true) [v14] (fun a => k_92 a V_90)) V_90 fun v70 V_93 =>
 GdV v60 false (fun k_95 => Rd Try.prog V_93 (.look 91 (.p (.int .i64 0)) false) [v69, v70] (fun a => k_95 a V_93)) V_93 fun v71 V_96 =>
 GdV v60 false (fun k_98 => Pu Try.prog (.bin .eql 3) [v71, (.p (.int .i64 0))] (fun a => k_98 a V_96)) V_96 fun v72 _ =>
 Pu Try.prog .pick [v60, (.p (.bool true)), v72] fun v73 =>
 CdA v73
 (
 Pu Try.prog (.bin .add 3) [(vs_39.getD 0 .any), (.p (.int .i64 1))] fun v88 =>
 k_38 [v88]
 ) (S_machine_Outs_fn1_C1 v27 k_38 vs_39 v13 v14)
def S_machine_Outs_fn1_L3 (a2 : AV) (a4 : AV) (v27 : AV) (k : List AV → AH → Prop) (v11 : AV) (v41 : AV) (v42 : AV) (vs_39 : List AV) (k_38 : List AV → AH → Prop) : AH → Prop :=
 Pu Try.prog (.bin .lss 3) [(vs_39.getD 0 .any), v42] fun v44 =>
 CdA v44
 (S_machine_Outs_fn1_C2 a2 a4 v27 v11 v41 k_38 vs_39) (
 k []
 )
def S_machine_Outs_fn1_L4 (a0 : AV) (a2 : AV) (a4 : AV) (a5 : AV) (Q : AV → AH → Prop) (H : AH) (v27 : AV) (vs_126 : List AV) (k_125 : List AV → AH → Prop) : AH → Prop :=
 Pu Try.prog (.bin .leq 3) [(vs_126.getD 0 .any), (.p (.int .i64 60))] fun v90 =>
 CdA v90
 (
 RdS Try.prog (.look 3 (.p (.map none)) false) [v27, (vs_126.getD 0 .any)] fun v95 =>
 Pu Try.prog (.bin .eql 87) [v95, (.p (.map none))] fun v96 =>
 CdA v96
 (
 Pu Try.prog (.bin .add 3) [(vs_126.getD 0 .any), (.p (.int .i64 1))] fun v92 =>
 k_125 [v92]
 ) (
 Rg 14 fun b_131 =>
 VwD fun V_132 =>
 Rd Try.prog V_132 (.ld 1 false) [a5] fun v97 =>
 Al (b_131 + 3) (.bs 3 1 1 [.p (.int .i64 0)] [(0, 1)]) [(vs_126.getD 0 .any)] fun v100 =>
 WrO V_132 b_131 (some (b_131 + 3)) (b_131 + 4) (.app 3 1 8) [a0, v100] fun v101 =>
 Rd Try.prog V_132 (.ld 1 false) [a4] fun v102 =>
 Rd Try.prog V_132 (.look 3 (.p (.map none)) false) [v27, (vs_126.getD 0 .any)] fun v105 =>
 Pu Try.prog (.bin .sub 3) [a2, (.p (.int .i64 1))] fun v108 =>
 CaK Try.prog V_132 (.fn (.func 53) [] []) [v102, v105] fun v106 =>
 Ca Try.prog v97 [v101, v106, v108] fun v109 =>
 Vw fun _ =>
 Pu Try.prog (.un .not) [v109] fun v110 =>
 CdA v110
 (
 Rt Try.prog H.nx (.p (.bool false)) Q
 ) (
 Pu Try.prog (.bin .add 3) [(vs_126.getD 0 .any), (.p (.int .i64 1))] fun v92_143 =>
 k_125 [v92_143]
 )
 )
 ) (
 Rt Try.prog H.nx (.p (.bool true)) Q
 )
def S_machine_Outs_fn1_L5 (a0 : AV) (a2 : AV) (a4 : AV) (a5 : AV) (Q : AV → AH → Prop) (H : AH) (v27 : AV) (v29 : AV) (_vs : List AV) (k : List AV → AH → Prop) : AH → Prop :=
 Rg 2 fun b_20 =>
 Nd Try.prog (b_20 + 0) .nxt [v29] fun v30 =>
 Pu Try.prog (.ext 0) [v30] fun v31 =>
 CdA v31
 (
 Rg 4 fun b_23 =>
 Nd Try.prog (b_23 + 0) .ent [v29] fun v32 =>
 Pu Try.prog (.ext 0) [v32] fun v33 =>
 Al (b_23 + 2) (.nw 91 [.p (.int .i64 0), .p (.int .i64 0)]) [] fun v11 =>
 WrS Try.prog (b_23 + 3) (.st 2) [v11, v33] fun _ =>
 Vw fun V_28 =>
 Rd Try.prog V_28 (.ld 1 false) [a4] fun v34 =>
 Pu Try.prog .nilck [v34] fun v35 =>
 Pu Try.prog (.addOff 0) [v35] fun v36 =>
 Rd Try.prog V_28 (.ld 1 false) [v36] fun v37 =>
 Pu Try.prog (.addOff 0) [v11] fun v38 =>
 Rd Try.prog V_28 (.ld 1 false) [v38] fun v39 =>
 Pu Try.prog (.idx 1) [v37, v39] fun v40 =>
 Rd Try.prog V_28 (.ld 1 false) [v40] fun v41 =>
 Pu Try.prog .len [v41] fun v42 =>
 LoopA Try.prog 1 (S_machine_Outs_fn1_L3 a2 a4 v27 k v11 v41 v42) [(.p (.int .i64 0))]
 ) (
 LoopA Try.prog 1 (S_machine_Outs_fn1_L4 a0 a2 a4 a5 Q H v27) [(.p (.int .i64 1))]
 )
def S_machine_Outs_fn1 (a0 a1 a2 a3 a4 a5 : AV) (Q : AV → AH → Prop) (H : AH) : Prop := (
 Pu Try.prog (.bin .eql 3) [a2, (.p (.int .i64 0))] fun v18 =>
 CdA v18
 (
 Rg 6 fun b =>
 Vw fun V =>
 Rd Try.prog V (.ld 1 false) [a3] fun v19 =>
 CaV Try.prog V (.fn (.func 51) [] []) [a0] fun v21 =>
 Al (b + 3) (.bs 26 1 1 [.p (.slice none 0 0)] [(0, 1)]) [v21] fun v22 =>
 Wr Try.prog (b + 4) (.app 26 1 24) [v19, v22] fun v23 _ =>
 Wr Try.prog (b + 5) (.st 1) [a3, v23] fun _ _ =>
 RdS Try.prog (.ld 1 false) [a3] fun v24 =>
 Pu Try.prog .len [v24] fun v25 =>
 Pu Try.prog (.bin .leq 3) [v25, (.p (.int .i64 500))] fun v26 =>
 Rt Try.prog H.nx v26 Q
 ) (
 Rg 2 fun b_14 =>
 Al (b_14 + 0) (.mm 3) [] fun v27 =>
 Rg 2 fun b_16 =>
 Nd Try.prog (b_16 + 1) (.rng 91) [a1] fun v29 =>
 LoopA Try.prog 0 (S_machine_Outs_fn1_L5 a0 a2 a4 a5 Q H v27 v29) []
 )
 ) H
theorem eq_machine_Outs_fn1 (a0 a1 a2 a3 a4 a5 : AV) (Q : AV → AH → Prop) (H : AH) : FnA Try.prog 111 (regsF Try.f50) ac_machine_Outs_fn1 [.tm 9] [a0, a1, a2, a3, a4, a5] H Q = S_machine_Outs_fn1 a0 a1 a2 a3 a4 a5 Q H := by kernel_rfl
theorem tri_machine_Outs_fn1 {a0 a1 a2 a3 a4 a5 : AV} {H : AH} {Q : AV → AH → Prop} (h : S_machine_Outs_fn1 a0 a1 a2 a3 a4 a5 Q H) : Tri Try.prog 50 [a0, a1, a2, a3, a4, a5] H Q :=
  tri_of (Ms := [#[], #[], #[0, 0, 2, 6, 15, 31], #[], #[], #[], #[], #[], #[0, 1, 3, 7, 0, 16, 63, 127, 255, 0], #[], #[], #[], #[0, 1, 3, 7, 15, 31, 63, 127, 255, 511, 1023, 2047, 255, 4351, 16383, 32767, 255, 131071, 262143, 524287], #[], #[], #[], #[], #[], #[], #[], #[0, 0, 0, 4, 14, 0, 0, 0, 192, 510, 0, 1024, 4095, 8191], #[], #[], #[]]) mixed Try.func50 rfl (by kernel_rfl) (by kernel_rfl) rfl (of_decide_eq_true rfl : 6 ≤ 111) (by rw [eq_machine_Outs_fn1 a0 a1 a2 a3 a4 a5 Q H]; exact h : FnA Try.prog 111 (regsF Try.f50) ac_machine_Outs_fn1 [.tm 9] [a0, a1, a2, a3, a4, a5] H Q)

/-! (*wordhoard/machine.outer).prepare -/
def ac_outer_prepare : AC := (.seq (.reg 0) (.seq (.reg 1) (.seq (.seq (.reg 2) (.block 0 (.loop [30] [(8, 11), (12, 15), (31, 86)] (.seq (.reg 3) (.seq (.cond (.tmp 31) .skip (.exit 0)) (.seq (.block 1 (.seq (.reg 4) (.seq (.reg 5) (.block 2 (.loop [9] [(10, 11), (12, 15), (33, 85)] (.seq (.seq (.reg 6) (.cond (.tmp 39) .skip (.exit 2))) (.seq (.block 3 (.seq (.reg 7) (.seq (.reg 8) (.block 4 (.loop [53] [(12, 15), (54, 85)] (.seq (.reg 9) (.seq (.cond (.tmp 54) .skip (.exit 4)) (.seq (.block 5 (.seq (.reg 10) (.seq (.reg 11) (.seq (.reg 12) (.cond (.tmp 64) (.seq (.reg 13) (.cond (.tmp 67) (.reg 14) (.reg 15))) .skip))))) (.reg 16))))))))) (.reg 17)))))))) (.reg 18))))))) (.seq (.reg 19) (.seq (.seq (.reg 20) (.block 6 (.loop [] [(16, 17), (92, 104)] (.seq (.reg 21) (.seq (.cond (.tmp 93) .skip (.exit 6)) (.block 7 (.seq (.reg 22) (.reg 23)))))))) (.seq (.reg 24) (.block 8 (.loop [15, 17] [(18, 21), (22, 25), (26, 27), (104, 181)] (.seq (.seq (.reg 25) (.cond (.tmp 106) .skip (.exit 8))) (.seq (.block 9 (.seq (.reg 26) (.seq (.seq (.reg 27) (.block 10 (.loop [18] [(19, 20), (111, 119)] (.seq (.reg 28) (.seq (.cond (.tmp 112) .skip (.exit 10)) (.block 11 (.seq (.reg 29) (.reg 30)))))))) (.seq (.block 12 (.loop [18] [(20, 21), (22, 23), (119, 152)] (.seq (.seq (.reg 31) (.cond (.tmp 121) .skip (.exit 12))) (.block 13 (.seq (.reg 32) (.seq (.reg 33) (.seq (.reg 34) (.block 14 (.loop [18, 137] [(22, 23), (138, 152)] (.seq (.reg 35) (.seq (.cond (.tmp 138) .skip (.exit 14)) (.seq (.block 15 (.seq (.reg 36) (.seq (.reg 37) (.cond (.tmp 144) (.seq (.reg 38) (.reg 39)) .skip)))) (.reg 40))))))))))))) (.seq (.reg 41) (.seq (.reg 42) (.seq (.seq (.reg 43) (.block 16 (.loop [] [(24, 25), (26, 27), (165, 180)] (.seq (.reg 44) (.seq (.cond (.tmp 166) .skip (.exit 16)) (.block 17 (.seq (.reg 45) (.seq (.reg 46) (.block 18 (.loop [173] [(26, 27), (174, 180)] (.seq (.reg 47) (.seq (.cond (.tmp 174) .skip (.exit 18)) (.seq (.block 19 (.seq (.reg 48) (.reg 49))) (.reg 50)))))))))))))) (.reg 51)))))))) (.reg 52)))))))))))
def S_outer_prepare_C1 (v27 : AV) (v28 : AV) (v10 : AV) (k_25 : List AV → AH → Prop) (vs_26 : List AV) (v12 : AV) (v13 : AV) : AH → Prop :=
 Pu Try.prog (.addOff 3) [v12] fun v65 =>
 RdS Try.prog (.ld 1 false) [v65] fun v66 =>
 Pu Try.prog (.bin .eql 3) [v66, (.p (.int .i64 0))] fun v67 =>
 CdA v67
 (
 Rg 9 fun b_44 =>
 RdS Try.prog (.ld 2 true) [v13] fun v69 =>
 RdS Try.prog (.ld 2 true) [v10] fun v71 =>
 Al (b_44 + 3) (.bs 91 2 1 [.p (.int .i64 0), .p (.int .i64 0)] [(0, 2)]) [v71] fun v72 =>
 Nd Try.prog (b_44 + 4) (.ment 91 (.p (.slice none 0 0))) [v27, v69] fun v73 =>
 Pu Try.prog (.ext 0) [v73] fun v70 =>
 WrS Try.prog (b_44 + 6) (.app 91 2 16) [v70, v72] fun v74 =>
 Pu Try.prog (.ext 1) [v73] fun v75 =>
 Nd Try.prog (b_44 + 8) (.est 91) [v27, v75, v74] fun _ =>
 Pu Try.prog (.bin .add 3) [(vs_26.getD 0 .any), (.p (.int .i64 1))] fun v84 =>
 k_25 [v84]
 ) (
 Rg 9 fun b_54 =>
 RdS Try.prog (.ld 2 true) [v13] fun v77 =>
 RdS Try.prog (.ld 2 true) [v10] fun v79 =>
 Al (b_54 + 3) (.bs 91 2 1 [.p (.int .i64 0), .p (.int .i64 0)] [(0, 2)]) [v79] fun v80 =>
 Nd Try.prog (b_54 + 4) (.ment 91 (.p (.slice none 0 0))) [v28, v77] fun v81 =>
 Pu Try.prog (.ext 0) [v81] fun v78 =>
 WrS Try.prog (b_54 + 6) (.app 91 2 16) [v78, v80] fun v82 =>
 Pu Try.prog (.ext 1) [v81] fun v83 =>
 Nd Try.prog (b_54 + 8) (.est 91) [v28, v83, v82] fun _ =>
 Pu Try.prog (.bin .add 3) [(vs_26.getD 0 .any), (.p (.int .i64 1))] fun v84_63 =>
 k_25 [v84_63]
 )
def S_outer_prepare_L2 (a0 : AV) (v27 : AV) (v28 : AV) (k_8 : List AV → AH → Prop) (vs_9 : List AV) (v10 : AV) (v51 : AV) (v52 : AV) (vs_26 : List AV) (k_25 : List AV → AH → Prop) : AH → Prop :=
 Pu Try.prog (.bin .lss 3) [(vs_26.getD 0 .any), v52] fun v54 =>
 CdA v54
 (
 Rg 4 fun b_28 =>
 Pu Try.prog (.idx 5) [v51, (vs_26.getD 0 .any)] fun v55 =>
 RdS Try.prog (.ld 5 true) [v55] fun v56 =>
 Al (b_28 + 2) (.nw 53 [.p (.int .i64 0), .p (.int .i64 0), .p (.int .i64 0), .p (.int .i64 0), .p (.int .i64 0)]) [] fun v12 =>
 WrS Try.prog (b_28 + 3) (.st 5) [v12, v56] fun _ =>
 Rg 10 fun b_33 =>
 RdS Try.prog (.ld 2 true) [v10] fun v59 =>
 RdS Try.prog (.ld 5 true) [v12] fun v60 =>
 Ca Try.prog (.fn (.func 52) [] []) [a0, v59, v60] fun v61 =>
 Pu Try.prog (.ext 0) [v61] fun v62 =>
 Pu Try.prog (.ext 1) [v61] fun v63 =>
 Al (b_33 + 7) (.nw 91 [.p (.int .i64 0), .p (.int .i64 0)]) [] fun v13 =>
 WrS Try.prog (b_33 + 8) (.st 2) [v13, v62] fun _ =>
 CdA v63
 (S_outer_prepare_C1 v27 v28 v10 k_25 vs_26 v12 v13) (
 Pu Try.prog (.bin .add 3) [(vs_26.getD 0 .any), (.p (.int .i64 1))] fun v84_64 =>
 k_25 [v84_64]
 )
 ) (
 Pu Try.prog (.bin .add 3) [(vs_9.getD 0 .any), (.p (.int .i64 1))] fun v41 =>
 k_8 [v41]
 )
def S_outer_prepare_L3 (a0 : AV) (v27 : AV) (v28 : AV) (k : List AV → AH → Prop) (vs : List AV) (vs_9 : List AV) (k_8 : List AV → AH → Prop) : AH → Prop :=
 Pu Try.prog .nilck [a0] fun v35 =>
 Pu Try.prog (.addOff 1) [v35] fun v36 =>
 RdS Try.prog (.ld 1 false) [v36] fun v37 =>
 Pu Try.prog .len [v37] fun v38 =>
 Pu Try.prog (.bin .leq 3) [(vs_9.getD 0 .any), v38] fun v39 =>
 CdA v39
 (
 Rg 5 fun b_15 =>
 Pu Try.prog (.bld [.p (.int .i64 0), .p (.int .i64 0)] [(0, 1), (1, 1)]) [(vs.getD 0 .any), (vs_9.getD 0 .any)] fun v44 =>
 Al (b_15 + 3) (.nw 91 [.p (.int .i64 0), .p (.int .i64 0)]) [] fun v10 =>
 WrS Try.prog (b_15 + 4) (.st 2) [v10, v44] fun _ =>
 Pu Try.prog .nilck [a0] fun v46 =>
 Pu Try.prog (.addOff 0) [v46] fun v47 =>
 RdS Try.prog (.ld 1 false) [v47] fun v48 =>
 Pu Try.prog (.idx 1) [v48, (vs.getD 0 .any)] fun v50 =>
 RdS Try.prog (.ld 1 false) [v50] fun v51 =>
 Pu Try.prog .len [v51] fun v52 =>
 LoopA Try.prog 1 (S_outer_prepare_L2 a0 v27 v28 k_8 vs_9 v10 v51 v52) [(.p (.int .i64 0))]
 ) (
 Pu Try.prog (.bin .add 3) [(vs.getD 0 .any), (.p (.int .i64 1))] fun v85 =>
 k [v85]
 )
def S_outer_prepare_L4 (vs_90 : List AV) (k_108 : List AV → AH → Prop) (v135 : AV) (v136 : AV) (vs_126 : List AV) (k_125 : List AV → AH → Prop) : AH → Prop :=
 Pu Try.prog (.bin .lss 3) [(vs_126.getD 1 .any), v136] fun v138 =>
 CdA v138
 (
 Rg 4 fun b_128 =>
 Pu Try.prog (.idx 2) [v135, (vs_126.getD 1 .any)] fun v139 =>
 RdS Try.prog (.ld 2 true) [v139] fun v140 =>
 Al (b_128 + 2) (.nw 91 [.p (.int .i64 0), .p (.int .i64 0)]) [] fun v22 =>
 WrS Try.prog (b_128 + 3) (.st 2) [v22, v140] fun _ =>
 RdS Try.prog (.ld 2 true) [v22] fun v142 =>
 RdS Try.prog (.look 91 (.p (.int .i64 0)) false) [(vs_90.getD 0 .any), v142] fun v143 =>
 Pu Try.prog (.bin .eql 3) [v143, (.p (.int .i64 0))] fun v144 =>
 CdA v144
 (
 Rg 3 fun b_136 =>
 RdS Try.prog (.ld 2 true) [v22] fun v146 =>
 WrS Try.prog (b_136 + 2) (.mset 91) [(vs_90.getD 0 .any), v146, (.p (.int .i64 1))] fun _ =>
 Rg 5 fun b_139 =>
 RdS Try.prog (.ld 2 true) [v22] fun v148 =>
 Al (b_139 + 2) (.bs 91 2 1 [.p (.int .i64 0), .p (.int .i64 0)] [(0, 2)]) [v148] fun v149 =>
 WrS Try.prog (b_139 + 3) (.app 91 2 16) [(vs_126.getD 0 .any), v149] fun v150 =>
 Pu Try.prog (.bin .add 3) [(vs_126.getD 1 .any), (.p (.int .i64 1))] fun v151 =>
 k_125 [v150, v151]
 ) (
 Pu Try.prog (.bin .add 3) [(vs_126.getD 1 .any), (.p (.int .i64 1))] fun v151_144 =>
 k_125 [(vs_126.getD 0 .any), v151_144]
 )
 ) (
 k_108 [(vs_126.getD 0 .any)]
 )
def S_outer_prepare_L5 (v162 : AV) (k_158 : List AV → AH → Prop) (v171 : AV) (v172 : AV) (vs_172 : List AV) (k_171 : List AV → AH → Prop) : AH → Prop :=
 Pu Try.prog (.bin .lss 3) [(vs_172.getD 0 .any), v172] fun v174 =>
 CdA v174
 (
 Rg 4 fun b_174 =>
 Pu Try.prog (.idx 2) [v171, (vs_172.getD 0 .any)] fun v175 =>
 RdS Try.prog (.ld 2 true) [v175] fun v176 =>
 Al (b_174 + 2) (.nw 91 [.p (.int .i64 0), .p (.int .i64 0)]) [] fun v26 =>
 WrS Try.prog (b_174 + 3) (.st 2) [v26, v176] fun _ =>
 Rg 3 fun b_179 =>
 RdS Try.prog (.ld 2 true) [v26] fun v178 =>
 WrS Try.prog (b_179 + 2) (.mset 91) [v162, v178, (.p (.int .i64 1))] fun _ =>
 Pu Try.prog (.bin .add 3) [(vs_172.getD 0 .any), (.p (.int .i64 1))] fun v179 =>
 k_171 [v179]
 ) (
 k_158 []
 )
def S_outer_prepare_L6 (v28 : AV) (k_89 : List AV → AH → Prop) (vs_90 : List AV) (v162 : AV) (v164 : AV) (_vs_159 : List AV) (k_158 : List AV → AH → Prop) : AH → Prop :=
 Rg 2 fun b_160 =>
 Nd Try.prog (b_160 + 0) .nxt [v164] fun v165 =>
 Pu Try.prog (.ext 0) [v165] fun v166 =>
 CdA v166
 (
 Rg 4 fun b_163 =>
 Nd Try.prog (b_163 + 0) .ent [v164] fun v167 =>
 Pu Try.prog (.ext 0) [v167] fun v168 =>
 Al (b_163 + 2) (.nw 91 [.p (.int .i64 0), .p (.int .i64 0)]) [] fun v24 =>
 WrS Try.prog (b_163 + 3) (.st 2) [v24, v168] fun _ =>
 RdS Try.prog (.ld 2 true) [v24] fun v170 =>
 RdS Try.prog (.look 91 (.p (.slice none 0 0)) false) [v28, v170] fun v171 =>
 Pu Try.prog .len [v171] fun v172 =>
 LoopA Try.prog 1 (S_outer_prepare_L5 v162 k_158 v171 v172) [(.p (.int .i64 0))]
 ) (
 Pu Try.prog (.bin .add 3) [(vs_90.getD 1 .any), (.p (.int .i64 1))] fun v108 =>
 k_89 [v162, v108]
 )
def S_outer_prepare_L7 (a0 : AV) (v27 : AV) (v28 : AV) (k_89 : List AV → AH → Prop) (vs_90 : List AV) (vs_109 : List AV) (k_108 : List AV → AH → Prop) : AH → Prop :=
 Pu Try.prog .len [(vs_109.getD 0 .any)] fun v120 =>
 Pu Try.prog (.bin .gtr 3) [v120, (.p (.int .i64 0))] fun v121 =>
 CdA v121
 (
 Rg 8 fun b_112 =>
 Pu Try.prog .len [(vs_109.getD 0 .any)] fun v124 =>
 Pu Try.prog (.bin .sub 3) [v124, (.p (.int .i64 1))] fun v125 =>
 Pu Try.prog (.idx 2) [(vs_109.getD 0 .any), v125] fun v126 =>
 RdS Try.prog (.ld 2 true) [v126] fun v127 =>
 Al (b_112 + 6) (.nw 91 [.p (.int .i64 0), .p (.int .i64 0)]) [] fun v20 =>
 WrS Try.prog (b_112 + 7) (.st 2) [v20, v127] fun _ =>
 Pu Try.prog .len [(vs_109.getD 0 .any)] fun v130 =>
 Pu Try.prog (.bin .sub 3) [v130, (.p (.int .i64 1))] fun v131 =>
 Pu Try.prog (.slc 2 false true) [(vs_109.getD 0 .any), v131] fun v132 =>
 RdS Try.prog (.ld 2 true) [v20] fun v134 =>
 RdS Try.prog (.look 91 (.p (.slice none 0 0)) false) [v27, v134] fun v135 =>
 Pu Try.prog .len [v135] fun v136 =>
 LoopA Try.prog 2 (S_outer_prepare_L4 vs_90 k_108 v135 v136) [v132, (.p (.int .i64 0))]
 ) (
 Rg 11 fun b_145 =>
 Pu Try.prog .nilck [a0] fun v154 =>
 Pu Try.prog (.addOff 3) [v154] fun v155 =>
 RdS Try.prog (.ld 1 false) [v155] fun v156 =>
 Al (b_145 + 6) (.bs 87 1 1 [.p (.map none)] [(0, 1)]) [(vs_90.getD 0 .any)] fun v158 =>
 WrS Try.prog (b_145 + 7) (.app 87 1 8) [v156, v158] fun v159 =>
 Pu Try.prog .nilck [a0] fun v160 =>
 Pu Try.prog (.addOff 3) [v160] fun v161 =>
 WrS Try.prog (b_145 + 10) (.st 1) [v161, v159] fun _ =>
 Rg 2 fun b_154 =>
 Al (b_154 + 0) (.mm 91) [] fun v162 =>
 Rg 2 fun b_156 =>
 Nd Try.prog (b_156 + 1) (.rng 91) [(vs_90.getD 0 .any)] fun v164 =>
 LoopA Try.prog 0 (S_outer_prepare_L6 v28 k_89 vs_90 v162 v164) []
 )
def S_outer_prepare_L8 (a0 : AV) (v27 : AV) (v28 : AV) (k_89 : List AV → AH → Prop) (vs_90 : List AV) (v110 : AV) (vs_95 : List AV) (k_94 : List AV → AH → Prop) : AH → Prop :=
 Rg 2 fun b_96 =>
 Nd Try.prog (b_96 + 0) .nxt [v110] fun v111 =>
 Pu Try.prog (.ext 0) [v111] fun v112 =>
 CdA v112
 (
 Rg 4 fun b_99 =>
 Nd Try.prog (b_99 + 0) .ent [v110] fun v113 =>
 Pu Try.prog (.ext 0) [v113] fun v114 =>
 Al (b_99 + 2) (.nw 91 [.p (.int .i64 0), .p (.int .i64 0)]) [] fun v19 =>
 WrS Try.prog (b_99 + 3) (.st 2) [v19, v114] fun _ =>
 Rg 5 fun b_104 =>
 RdS Try.prog (.ld 2 true) [v19] fun v116 =>
 Al (b_104 + 2) (.bs 91 2 1 [.p (.int .i64 0), .p (.int .i64 0)] [(0, 2)]) [v116] fun v117 =>
 WrS Try.prog (b_104 + 3) (.app 91 2 16) [(vs_95.getD 0 .any), v117] fun v118 =>
 k_94 [v118]
 ) (
 LoopA Try.prog 1 (S_outer_prepare_L7 a0 v27 v28 k_89 vs_90) [(vs_95.getD 0 .any)]
 )
def S_outer_prepare_L9 (a0 : AV) (a2 : AV) (Q : AV → AH → Prop) (H : AH) (v27 : AV) (v28 : AV) (vs_90 : List AV) (k_89 : List AV → AH → Prop) : AH → Prop :=
 Pu Try.prog (.bin .leq 3) [(vs_90.getD 1 .any), a2] fun v106 =>
 CdA v106
 (
 Rg 2 fun b_92 =>
 Nd Try.prog (b_92 + 1) (.rng 91) [(vs_90.getD 0 .any)] fun v110 =>
 LoopA Try.prog 1 (S_outer_prepare_L8 a0 v27 v28 k_89 vs_90 v110) [(.p (.slice none 0 0))]
 ) (
 Rt Try.prog H.nx (.tup []) Q
 )
def S_outer_prepare_L10 (a0 : AV) (a2 : AV) (Q : AV → AH → Prop) (H : AH) (v27 : AV) (v28 : AV) (v86 : AV) (v91 : AV) (_vs_75 : List AV) (k_74 : List AV → AH → Prop) : AH → Prop :=
 Rg 2 fun b_76 =>
 Nd Try.prog (b_76 + 0) .nxt [v91] fun v92 =>
 Pu Try.prog (.ext 0) [v92] fun v93 =>
 CdA v93
 (
 Rg 3 fun b_79 =>
 Nd Try.prog (b_79 + 0) .ent [v91] fun v94 =>
 Pu Try.prog (.ext 0) [v94] fun v95 =>
 Rg 9 fun b_82 =>
 Pu Try.prog .nilck [a0] fun v99 =>
 Pu Try.prog (.addOff 1) [v99] fun v100 =>
 RdS Try.prog (.ld 1 false) [v100] fun v101 =>
 Pu Try.prog .len [v101] fun v102 =>
 Pu Try.prog (.bld [.p (.int .i64 0), .p (.int .i64 0)] [(0, 1), (1, 1)]) [v95, v102] fun v103 =>
 WrS Try.prog (b_82 + 8) (.mset 91) [v86, v103, (.p (.int .i64 1))] fun _ =>
 k_74 []
 ) (
 LoopA Try.prog 2 (S_outer_prepare_L9 a0 a2 Q H v27 v28) [v86, (.p (.int .i64 0))]
 )
def S_outer_prepare_L11 (a0 : AV) (a1 : AV) (a2 : AV) (Q : AV → AH → Prop) (H : AH) (v27 : AV) (v28 : AV) (vs : List AV) (k : List AV → AH → Prop) : AH → Prop :=
 Pu Try.prog (.bin .lss 3) [(vs.getD 0 .any), a1] fun v31 =>
 CdA v31
 (
 LoopA Try.prog 1 (S_outer_prepare_L3 a0 v27 v28 k vs) [(.p (.int .i64 0))]
 ) (
 Rg 2 fun b_67 =>
 Al (b_67 + 0) (.mm 91) [] fun v86 =>
 Rg 5 fun b_69 =>
 Pu Try.prog .nilck [a0] fun v88 =>
 Pu Try.prog (.addOff 2) [v88] fun v89 =>
 RdS Try.prog (.ld 1 false) [v89] fun v90 =>
 Nd Try.prog (b_69 + 4) (.rng 3) [v90] fun v91 =>
 LoopA Try.prog 0 (S_outer_prepare_L10 a0 a2 Q H v27 v28 v86 v91) []
 )
def S_outer_prepare (a0 a1 a2 : AV) (Q : AV → AH → Prop) (H : AH) : Prop := (
 Rg 2 fun b =>
 Al (b + 0) (.mm 91) [] fun v27 =>
 Rg 2 fun b_3 =>
 Al (b_3 + 0) (.mm 91) [] fun v28 =>
 LoopA Try.prog 1 (S_outer_prepare_L11 a0 a1 a2 Q H v27 v28) [(.p (.int .i64 0))]
 ) H
theorem eq_outer_prepare (a0 a1 a2 : AV) (Q : AV → AH → Prop) (H : AH) : FnA Try.prog 181 (regsF Try.f49) ac_outer_prepare [] [a0, a1, a2] H Q = S_outer_prepare a0 a1 a2 Q H := by kernel_rfl
theorem tri_outer_prepare {a0 a1 a2 : AV} {H : AH} {Q : AV → AH → Prop} (h : S_outer_prepare a0 a1 a2 Q H) : Tri Try.prog 49 [a0, a1, a2] H Q :=
  tri_of (Ms := [#[], #[], #[], #[], #[], #[], #[], #[], #[], #[], #[], #[], #[], #[], #[], #[], #[], #[], #[], #[], #[], #[], #[], #[], #[], #[], #[], #[], #[], #[], #[], #[], #[], #[], #[], #[], #[], #[], #[], #[], #[], #[], #[], #[], #[], #[], #[], #[], #[], #[], #[], #[], #[]]) mixed Try.func49 rfl (by kernel_rfl) (by kernel_rfl) rfl (of_decide_eq_true rfl : 3 ≤ 181) (by rw [eq_outer_prepare a0 a1 a2 Q H]; exact h : FnA Try.prog 181 (regsF Try.f49) ac_outer_prepare [] [a0, a1, a2] H Q)

/-! wordhoard/wordhoardlaw.MachineOuts -/
def ac_wordhoardlaw_MachineOuts : AC := (.seq (.reg 0) (.seq (.seq (.reg 1) (.cond (.tmp 13) (.seq (.reg 2) .ret) .skip)) (.seq (.seq (.reg 3) (.cond (.tmp 16) (.seq (.reg 4) .ret) .skip)) (.seq (.reg 5) (.seq (.reg 6) (.seq (.reg 7) (.cut [9] [(28, 47)] (.block 0 (.seq (.reg 8) (.cond (.tmp 28) (.reg 9) (.seq (.reg 10) (.cond (.tmp 43) (.reg 11) .skip))))) (.seq (.seq (.reg 12) (.cond (.tmp 48) (.seq (.reg 13) .ret) .skip)) (.seq (.seq (.reg 14) (.cond (.tmp 67) (.seq (.reg 15) .ret) .skip)) (.seq (.seq (.reg 16) (.block 1 (.loop [11] [(6, 7), (68, 142)] (.seq (.seq (.reg 17) (.cond (.tmp 71) .skip (.exit 1))) (.seq (.block 2 (.seq (.seq (.reg 18) (.cond (.tmp 98) (.seq (.reg 19) .ret) .skip)) (.seq (.reg 20) (.cond (.tmp 141) (.seq (.reg 21) .ret) .skip)))) (.reg 22)))))) (.seq (.reg 23) .ret)))))))))))
def S_wordhoardlaw_MachineOuts_C1 (Q : AV → AH → Prop) (H : AH) (v22 : AV) (k_39 : List AV → AH → Prop) (vs_40 : List AV) : AH → Prop :=
 Vw fun V_92 =>
 Pu Try.prog (.bin .gtr 3) [(vs_40.getD 0 .any), (.p (.int .i64 0))] fun v100 =>
 GdV v100 true (fun k_95 => k_95 v22 V_92) V_92 fun v102 V_96 =>
 GdV v100 true (fun k_98 => k_98 (vs_40.getD 0 .any) V_96) V_96 fun v103 V_99 =>
 GdV v100 true (fun k_101 => Pu Try.prog (.bin .sub 3) [v103, (.p (.int .i64 1))] (fun a => k_101 a V_99)) V_99 fun v104 V_102 =>
 GdV v100 true (fun k_104 => Pu Try.prog (.idx 1) [v102, v104] (fun a => k_104 a V_102)) V_102 fun v105 V_105 =>
 GdV v100 true (fun k_107 => Rd Try.prog V_105 (.ld 1 false) [v105] (fun a => k_107 a V_105)) V_105 fun v106 V_108 =>
 GdV v100 true (fun k_110 => Pu Try.prog .len [v106] (fun a => k_110 a V_108)) V_108 fun v107 V_111 =>
 GdV v100 true (fun k_113 => k_113 v22 V_111) V_111 fun v108 V_114 =>
 GdV v100 true (fun k_116 => k_116 (vs_40.getD 0 .any) V_114) V_114 fun v109 V_117 =>
 GdV v100 true (fun k_119 => Pu Try.prog (.idx 1) [v108, v109] (fun a => k_119 a V_117)) V_117 fun v110 V_120 =>
 GdV v100 true (fun k_122 => Rd Try.prog V_120 (.ld 1 false) [v110] (fun a => k_122 a V_120)) V_120 fun v111 V_123 =>
 GdV v100 true (fun k_125 => Pu Try.prog .len [v111] (fun a => k_125 a V_123)) V_123 fun v112 V_126 =>
 GdV v100 true (fun k_128 => Pu Try.prog (.bin .gtr 3) [v107, v112] (fun a => k_128 a V_126)) V_126 fun v113 V_129 =>
 GdV v100 true (fun k_131 => k_131 v113 V_129) V_129 fun v114 V_132 =>
 GdV v114 false (fun k_134 => k_134 v22 V_132) V_132 fun v115 V_135 =>
 GdV v114 false (fun k_137 => k_137 (vs_40.getD 0 .any) V_135) V_135 fun v116 V_138 =>
 GdV v114 false (fun k_140 => Pu Try.prog (.bin .sub 3) [v116, (.p (.int .i64 1))] (fun a => k_140 a V_138)) V_138 fun v117 V_141 =>
 GdV v114 false (fun k_143 => Pu Try.prog (.idx 1) [v115, v117] (fun a => k_143 a V_141)) V_141 fun v118 V_144 =>
 GdV v114 false (fun k_146 => Rd Try.prog V_144 (.ld 1 false) [v118] (fun a => k_146 a V_144)) V_144 fun v119 V_147 =>
 GdV v114 false (fun k_149 => Pu Try.prog .len [v119] (fun a => k_149 a V_147)) V_147 fun v120 V_150 =>
 GdV v114 false (fun k_152 => k_152 v22 V_150) V_150 fun v121 V_153 =>
 GdV v114 false (fun k_155 => k_155 (vs_40.getD 0 .any) V_153) V_153 fun v122 V_156 =>
 GdV v114 false (fun k_158 => Pu Try.prog (.idx 1) [v121, v122] (fun a => k_158 a V_156)) V_156 fun v123 V_159 =>
 GdV v114 false (fun k_161 => Rd Try.prog V_159 (.ld 1 false) [v123] (fun a => k_161 a V_159)) V_159 fun v124 V_162 =>
 GdV v114 false (fun k_164 => Pu Try.prog .len [v124] (fun a => k_164 a V_162)) V_162 fun v125 V_165 =>
 GdV v114 false (fun k_167 => Pu Try.prog (.bin .eql 3) [v120, v125] (fun a => k_167 a V_165)) V_165 fun v126 V_168 =>
 GdV v114 false (fun k_170 => k_170 v126 V_168) V_168 fun v127 V_171 =>
 GdV v127 true (fun k_173 => k_173 v22 V_171) V_171 fun v128 V_174 =>
 GdV v127 true (fun k_176 => k_176 (vs_40.getD 0 .any) V_174) V_174 fun v129 V_177 =>
 GdV v127 true (fun k_179 => Pu Try.prog (.bin .sub 3) [v129, (.p (.int .i64 1))] (fun a => k_179 a V_177)) V_177 fun v130 V_180 =>
 GdV v127 true (fun k_182 => Pu Try.prog (.idx 1) [v128, v130] (fun a => k_182 a V_180)) V_180 fun v131 V_183 =>
 GdV v127 true (fun k_185 => Rd Try.prog V_183 (.ld 1 false) [v131] (fun a => k_185 a V_183)) V_183 fun v132 V_186 =>
 GdV v127 true (fun k_188 => k_188 v22 V_186) V_186 fun v133 V_189 =>
 GdV v127 true (fun k_191 => k_191 (vs_40.getD 0 .any) V_189) V_189 fun v134 V_192 =>
 GdV v127 true (fun k_194 => Pu Try.prog (.idx 1) [v133, v134] (fun a => k_194 a V_192)) V_192 fun v135 V_195 =>
 GdV v127 true (fun k_197 => Rd Try.prog V_195 (.ld 1 false) [v135] (fun a => k_197 a V_195)) V_195 fun v136 V_198 =>
 GdV v127 true (fun k_200 => CaV Try.prog V_198 (.fn (.func 29) [] []) [v132, v136] (fun a => k_200 a V_198)) V_198 fun v137 V_201 =>
 GdV v127 true (fun k_203 => Pu Try.prog (.un .not) [v137] (fun a => k_203 a V_201)) V_201 fun v138 V_204 =>
 GdV v114 false (fun k_206 => Pu Try.prog .pick [v127, v138, (.p (.bool false))] (fun a => k_206 a V_204)) V_204 fun v139 V_207 =>
 GdV v100 true (fun k_209 => Pu Try.prog .pick [v114, (.p (.bool true)), v139] (fun a => k_209 a V_207)) V_207 fun v140 _ =>
 Pu Try.prog .pick [v100, v140, (.p (.bool false))] fun v141 =>
 CdA v141
 (
 Rt Try.prog H.nx (.p (.bool false)) Q
 ) (
 Pu Try.prog (.bin .add 3) [(vs_40.getD 0 .any), (.p (.int .i64 1))] fun v73 =>
 k_39 [v73]
 )
def S_wordhoardlaw_MachineOuts_C2 (a1 : AV) (a2 : AV) (Q : AV → AH → Prop) (H : AH) (v3 : AV) (v22 : AV) (k_39 : List AV → AH → Prop) (vs_40 : List AV) : AH → Prop :=
 Vw fun V =>
 Pu Try.prog (.idx 1) [v22, (vs_40.getD 0 .any)] fun v76 =>
 Rd Try.prog V (.ld 1 false) [v76] fun v77 =>
 Pu Try.prog .len [v77] fun v78 =>
 Pu Try.prog (.bin .gtr 3) [v78, a2] fun v80 =>
 GdV v80 false (fun k_49 => k_49 v22 V) V fun v82 V_50 =>
 GdV v80 false (fun k_52 => k_52 (vs_40.getD 0 .any) V_50) V_50 fun v83 V_53 =>
 GdV v80 false (fun k_55 => Pu Try.prog (.idx 1) [v82, v83] (fun a => k_55 a V_53)) V_53 fun v84 V_56 =>
 GdV v80 false (fun k_58 => Rd Try.prog V_56 (.ld 1 false) [v84] (fun a => k_58 a V_56)) V_56 fun v85 V_59 =>
 GdV v80 false (fun k_61 => CaV Try.prog V_59 (.fn (.func 28) [] []) [v85] (fun a => k_61 a V_59)) V_59 fun v86 V_62 =>
 GdV v80 false (fun k_64 => Pu Try.prog (.bin .neq 28) [v86, (.p (.int .i64 0))] (fun a => k_64 a V_62)) V_62 fun v87 V_65 =>
 Pu Try.prog .pick [v80, (.p (.bool true)), v87] fun v88 =>
 GdV v88 false (fun k_68 => Rd Try.prog V_65 (.ld 3 true) [v3] (fun a => k_68 a V_65)) V_65 fun v90 V_69 =>
 GdV v88 false (fun k_71 => k_71 a1 V_69) V_69 fun v91 V_72 =>
 GdV v88 false (fun k_74 => k_74 v22 V_72) V_72 fun v92 V_75 =>
 GdV v88 false (fun k_77 => k_77 (vs_40.getD 0 .any) V_75) V_75 fun v93 V_78 =>
 GdV v88 false (fun k_80 => Pu Try.prog (.idx 1) [v92, v93] (fun a => k_80 a V_78)) V_78 fun v94 V_81 =>
 GdV v88 false (fun k_83 => Rd Try.prog V_81 (.ld 1 false) [v94] (fun a => k_83 a V_81)) V_81 fun v95 V_84 =>
 GdV v88 false (fun k_86 => CaV Try.prog V_84 (.fn (.func 18) [] []) [v90, v91, v95, (.p (.bool true))] (fun a => k_86 a V_84)) V_84 fun v96 V_87 =>
 GdV v88 false (fun k_89 => Pu Try.prog (.bin .eql 3) [v96, (.p (.int .i64 1152921504606846976))] (fun a => k_89 a V_87)) V_87 fun v97 _ =>
 Pu Try.prog .pick [v88, (.p (.bool true)), v97] fun v98 =>
 CdA v98
 (
 Rt Try.prog H.nx (.p (.bool false)) Q
 ) (S_wordhoardlaw_MachineOuts_C1 Q H v22 k_39 vs_40)
def S_wordhoardlaw_MachineOuts_L3 (a1 : AV) (a2 : AV) (Q : AV → AH → Prop) (H : AH) (v3 : AV) (v22 : AV) (v23 : AV) (vs_40 : List AV) (k_39 : List AV → AH → Prop) : AH → Prop :=
 Pu Try.prog .len [v22] fun v70 =>
 Pu Try.prog (.bin .lss 3) [(vs_40.getD 0 .any), v70] fun v71 =>
 CdA v71
 (S_wordhoardlaw_MachineOuts_C2 a1 a2 Q H v3 v22 k_39 vs_40) (
 RdS Try.prog (.ld 3 true) [v3] fun v142 =>
 Ca Try.prog (.fn (.func 30) [] []) [v142, a1, a2, v22, v23] fun v147 =>
 Rt Try.prog H.nx v147 Q
 )
def S_wordhoardlaw_MachineOuts_K4 (a1 : AV) (a2 : AV) (Q : AV → AH → Prop) (H : AH) (v3 : AV) (v22 : AV) (v23 : AV) (vs : List AV) : AH → Prop :=
 Pu Try.prog (.bin .neq 28) [(vs.getD 0 .any), (.p (.int .i64 0))] fun v48 =>
 CdA v48
 (
 Pu Try.prog (.bin .eql 28) [v23, (vs.getD 0 .any)] fun v51 =>
 Gd v51 true (fun k_20 => k_20 v22) fun v53 =>
 Gd v51 true (fun k_22 => Pu Try.prog .len [v53] k_22) fun v54 =>
 Gd v51 true (fun k_24 => Pu Try.prog (.bin .eql 3) [v54, (.p (.int .i64 0))] k_24) fun v55 =>
 Pu Try.prog .pick [v51, v55, (.p (.bool false))] fun v56 =>
 Rt Try.prog H.nx v56 Q
 ) (
 Pu Try.prog (.bin .neq 28) [v23, (.p (.int .i64 0))] fun v58 =>
 Gd v58 true (fun k_28 => k_28 v23) fun v60 =>
 Gd v58 true (fun k_30 => Pu Try.prog (.bin .neq 28) [v60, (.p (.int .i64 7))] k_30) fun v61 =>
 Pu Try.prog .pick [v58, v61, (.p (.bool false))] fun v62 =>
 Gd v62 false (fun k_33 => k_33 v22) fun v64 =>
 Gd v62 false (fun k_35 => Pu Try.prog .len [v64] k_35) fun v65 =>
 Gd v62 false (fun k_37 => Pu Try.prog (.bin .gtr 3) [v65, (.p (.int .i64 500))] k_37) fun v66 =>
 Pu Try.prog .pick [v62, (.p (.bool true)), v66] fun v67 =>
 CdA v67
 (
 Rt Try.prog H.nx (.p (.bool false)) Q
 ) (
 LoopA Try.prog 1 (S_wordhoardlaw_MachineOuts_L3 a1 a2 Q H v3 v22 v23) [(.p (.int .i64 0))]
 )
 )
def S_wordhoardlaw_MachineOuts_C5 (a1 : AV) (a2 : AV) (Q : AV → AH → Prop) (H : AH) (v3 : AV) : AH → Prop :=
 RdS Try.prog (.ld 3 true) [v3] fun v18 =>
 Ca Try.prog (.fn (.func 27) [] []) [v18, a1, a2] fun v21 =>
 Pu Try.prog (.ext 0) [v21] fun v22 =>
 Pu Try.prog (.ext 1) [v21] fun v23 =>
 RdS Try.prog (.ld 3 true) [v3] fun v24 =>
 Ca Try.prog (.fn (.func 9) [] []) [v24] fun v25 =>
 Ca Try.prog (.fn (.func 28) [] []) [a1] fun v27 =>
 CutA Try.prog 1 (fun k =>
 Pu Try.prog (.bin .eql 28) [v25, (.p (.int .i64 0))] fun v30 =>
 Gd v30 true (fun k_217 => k_217 v27) fun v32 =>
 Gd v30 true (fun k_219 => Pu Try.prog (.bin .eql 28) [v32, (.p (.int .i64 2))] k_219) fun v33 =>
 Gd v30 true (fun k_221 => k_221 v33) fun v34 =>
 Gd v34 false (fun k_223 => k_223 a2) fun v35 =>
 Gd v34 false (fun k_225 => Pu Try.prog (.bin .lss 3) [v35, (.p (.int .i64 0))] k_225) fun v36 =>
 Gd v30 true (fun k_227 => Pu Try.prog .pick [v34, (.p (.bool true)), v36] k_227) fun v37 =>
 Gd v30 true (fun k_229 => k_229 v37) fun v38 =>
 Gd v38 false (fun k_231 => k_231 a2) fun v39 =>
 Gd v38 false (fun k_233 => Pu Try.prog (.bin .gtr 3) [v39, (.p (.int .i64 8))] k_233) fun v40 =>
 Gd v30 true (fun k_235 => Pu Try.prog .pick [v38, (.p (.bool true)), v40] k_235) fun v41 =>
 Pu Try.prog .pick [v30, v41, (.p (.bool false))] fun v42 =>
 CdA v42
 (
 k [(.p (.int .i64 2))]
 ) (
 Pu Try.prog (.bin .eql 28) [v25, (.p (.int .i64 0))] fun v45 =>
 CdA v45
 (
 k [v27]
 ) (
 k [v25]
 )
 )
 ) (S_wordhoardlaw_MachineOuts_K4 a1 a2 Q H v3 v22 v23)
def S_wordhoardlaw_MachineOuts (a0 a1 a2 : AV) (Q : AV → AH → Prop) (H : AH) : Prop := (
 Rg 2 fun b =>
 Al (b + 0) (.bx 25) [a0] fun v3 =>
 Ca Try.prog (.fn (.func 7) [] []) [] fun v12 =>
 Pu Try.prog (.un .not) [v12] fun v13 =>
 CdA v13
 (
 Rt Try.prog H.nx (.p (.bool false)) Q
 ) (
 RdS Try.prog (.ld 3 true) [v3] fun v14 =>
 Ca Try.prog (.fn (.func 10) [] []) [v14] fun v15 =>
 Pu Try.prog (.un .not) [v15] fun v16 =>
 CdA v16
 (
 Rt Try.prog H.nx (.p (.bool true)) Q
 ) (S_wordhoardlaw_MachineOuts_C5 a1 a2 Q H v3)
 )
 ) H
theorem eq_wordhoardlaw_MachineOuts (a0 a1 a2 : AV) (Q : AV → AH → Prop) (H : AH) : FnA Try.prog 148 (regsF Try.f6) ac_wordhoardlaw_MachineOuts [.tm 6] [a0, a1, a2] H Q = S_wordhoardlaw_MachineOuts a0 a1 a2 Q H := by kernel_rfl
theorem tri_wordhoardlaw_MachineOuts {a0 a1 a2 : AV} {H : AH} {Q : AV → AH → Prop} (h : S_wordhoardlaw_MachineOuts a0 a1 a2 Q H) : Tri Try.prog 6 [a0, a1, a2] H Q :=
  tri_of (Ms := [#[], #[], #[], #[], #[], #[], #[], #[], #[], #[], #[], #[], #[], #[], #[], #[], #[], #[], #[0, 0, 3, 7, 15, 0, 63, 127, 255, 255, 1023, 2047, 4095, 8191, 16383, 32767, 65535, 65535, 65535, 65535, 851967, 1900543, 4194303, 8388607, 16777215], #[], #[0, 1, 3, 7, 7, 23, 63, 127, 255, 7, 7, 1543, 3591, 7687, 16383, 32767, 65535, 65535, 196607, 524287, 1048575, 2097151, 65535, 65535, 12648447, 29425663, 62980095, 134217727, 268435455, 536870911, 536870911, 1610612735, 4294967295, 8589934591, 536870911, 536870911, 52076478463, 120795955199, 274877906943, 549755813887, 1099511627775, 2199023255551, 4398046511103], #[], #[], #[]]) mixed Try.func6 rfl (by kernel_rfl) (by kernel_rfl) rfl (of_decide_eq_true rfl : 3 ≤ 148) (by rw [eq_wordhoardlaw_MachineOuts a0 a1 a2 Q H]; exact h : FnA Try.prog 148 (regsF Try.f6) ac_wordhoardlaw_MachineOuts [.tm 6] [a0, a1, a2] H Q)

/-! wordhoard/wordhoardlaw.told -/
def ac_wordhoardlaw_told : AC := (.seq (.reg 0) (.seq (.reg 1) (.seq (.reg 2) (.seq (.seq (.reg 3) (.block 0 (.loop [12, 13] [(14, 15), (24, 53)] (.seq (.seq (.reg 4) (.cond (.tmp 28) .skip (.exit 0))) (.seq (.block 1 (.seq (.reg 5) (.seq (.reg 6) (.cond (.tmp 45) (.seq (.reg 7) (.reg 8)) .skip)))) (.reg 9)))))) (.seq (.reg 10) (.seq (.seq (.reg 11) (.block 2 (.loop [15, 16] [(10, 11), (53, 65)] (.seq (.seq (.reg 12) (.cond (.tmp 55) .skip (.exit 2))) (.seq (.block 3 (.seq (.reg 13) (.seq (.reg 14) (.cond (.tmp 64) (.seq (.reg 15) .ret) .skip)))) (.reg 16)))))) (.seq (.reg 17) (.seq (.reg 18) (.seq (.seq (.reg 19) (.block 4 (.loop [17, 18, 19] [(20, 23), (66, 109)] (.seq (.seq (.reg 20) (.cond (.tmp 68) .skip (.exit 4))) (.seq (.block 5 (.seq (.reg 21) (.seq (.seq (.reg 22) (.block 6 (.loop [17, 20, 21] [(22, 23), (71, 108)] (.seq (.seq (.reg 23) (.cond (.tmp 74) .skip (.exit 6))) (.seq (.block 7 (.cut [17] [(77, 87)] (.seq (.reg 24) (.cond (.tmp 84) (.reg 25) .skip)) (.seq (.reg 26) (.block 8 (.loop [20, 22] [(87, 108)] (.seq (.seq (.reg 27) (.cond (.tmp 90) .skip (.exit 8))) (.seq (.block 9 (.reg 28)) (.reg 29)))))))) (.reg 30)))))) (.reg 31)))) (.reg 32)))))) (.seq (.seq (.reg 33) (.cond (.tmp 110) (.seq (.reg 34) .ret) .skip)) (.seq (.reg 35) .ret)))))))))))
def S_wordhoardlaw_told_C1 (v5 : AV) (v23 : AV) (k : List AV → AH → Prop) (vs : List AV) : AH → Prop :=
 Pu Try.prog (.addOff 1) [v5] fun v31 =>
 RdS Try.prog (.ld 1 false) [v31] fun v32 =>
 Pu Try.prog (.idx 5) [v32, (vs.getD 1 .any)] fun v34 =>
 Pu Try.prog (.addOff 3) [v34] fun v35 =>
 RdS Try.prog (.ld 1 false) [v35] fun v36 =>
 Pu Try.prog (.bin .gtr 3) [v36, (.p (.int .i64 0))] fun v38 =>
 Gd v38 true (fun k_18 => k_18 v23) fun v40 =>
 Gd v38 true (fun k_20 => k_20 v36) fun v41 =>
 Gd v38 true (fun k_22 => Pu Try.prog (.idx 1) [v40, v41] k_22) fun v42 =>
 Gd v38 true (fun k_24 => RdS Try.prog (.ld 1 false) [v42] k_24) fun v43 =>
 Gd v38 true (fun k_26 => Pu Try.prog (.un .not) [v43] k_26) fun v44 =>
 Pu Try.prog .pick [v38, v44, (.p (.bool false))] fun v45 =>
 CdA v45
 (
 Rg 4 fun b_28 =>
 Pu Try.prog (.idx 1) [v23, v36] fun v48 =>
 WrS Try.prog (b_28 + 3) (.st 1) [v48, (.p (.bool true))] fun _ =>
 Rg 5 fun b_31 =>
 Al (b_31 + 2) (.bs 3 1 1 [.p (.int .i64 0)] [(0, 1)]) [v36] fun v51 =>
 WrS Try.prog (b_31 + 3) (.app 3 1 8) [(vs.getD 0 .any), v51] fun v52 =>
 Pu Try.prog (.bin .add 3) [(vs.getD 1 .any), (.p (.int .i64 1))] fun v30 =>
 k [v52, v30]
 ) (
 Pu Try.prog (.bin .add 3) [(vs.getD 1 .any), (.p (.int .i64 1))] fun v30_35 =>
 k [(vs.getD 0 .any), v30_35]
 )
def S_wordhoardlaw_told_L2 (vs : List AV) (vs_47 : List AV) (k_49 : List AV → AH → Prop) (vs_50 : List AV) (vs_54 : List AV) (vs_56 : List AV) (k_55 : List AV → AH → Prop) : AH → Prop :=
 Pu Try.prog .len [(vs.getD 0 .any)] fun v89 =>
 Pu Try.prog (.bin .lss 3) [(vs_56.getD 1 .any), v89] fun v90 =>
 CdA v90
 (
 Rg 16 fun b_59 =>
 Vw fun V =>
 Al (b_59 + 1) (.bs 3 1 0 [.p (.int .i64 0)] []) [] fun v94 =>
 Pu Try.prog (.idx 1) [(vs_47.getD 1 .any), (vs_50.getD 2 .any)] fun v97 =>
 Rd Try.prog V (.ld 1 false) [v97] fun v98 =>
 WrF V (some (b_59 + 1)) none (b_59 + 6) (.app 3 1 8) [v94, v98] fun v99 =>
 Pu Try.prog (.idx 1) [(vs.getD 0 .any), (vs_56.getD 1 .any)] fun v102 =>
 Rd Try.prog V (.ld 1 false) [v102] fun v103 =>
 Al (b_59 + 11) (.bs 3 1 1 [.p (.int .i64 0)] [(0, 1)]) [v103] fun v104 =>
 WrF V (some (b_59 + 6)) (some (b_59 + 11)) (b_59 + 12) (.app 3 1 8) [v99, v104] fun v105 =>
 Al (b_59 + 13) (.bs 26 1 1 [.p (.slice none 0 0)] [(0, 1)]) [v105] fun v106 =>
 Wr Try.prog (b_59 + 14) (.app 26 1 24) [(vs_56.getD 0 .any), v106] fun v107 _ =>
 Pu Try.prog (.bin .add 3) [(vs_56.getD 1 .any), (.p (.int .i64 1))] fun v92 =>
 k_55 [v107, v92]
 ) (
 Pu Try.prog (.bin .add 3) [(vs_50.getD 2 .any), (.p (.int .i64 1))] fun v76 =>
 k_49 [(vs_54.getD 0 .any), (vs_56.getD 0 .any), v76]
 )
def S_wordhoardlaw_told_K3 (vs : List AV) (vs_47 : List AV) (k_49 : List AV → AH → Prop) (vs_50 : List AV) (vs_54 : List AV) : AH → Prop :=
 LoopA Try.prog 2 (S_wordhoardlaw_told_L2 vs vs_47 k_49 vs_50 vs_54) [(vs_50.getD 1 .any), (.p (.int .i64 0))]
def S_wordhoardlaw_told_L4 (a1 : AV) (v5 : AV) (vs : List AV) (k_46 : List AV → AH → Prop) (vs_47 : List AV) (vs_50 : List AV) (k_49 : List AV → AH → Prop) : AH → Prop :=
 Pu Try.prog .len [(vs_47.getD 1 .any)] fun v73 =>
 Pu Try.prog (.bin .lss 3) [(vs_50.getD 2 .any), v73] fun v74 =>
 CdA v74
 (
 CutA Try.prog 1 (fun k_53 =>
 Vw fun V_74 =>
 Rd Try.prog V_74 (.ld 3 true) [v5] fun v77 =>
 Pu Try.prog (.idx 1) [(vs_47.getD 1 .any), (vs_50.getD 2 .any)] fun v81 =>
 Rd Try.prog V_74 (.ld 1 false) [v81] fun v82 =>
 CaV Try.prog V_74 (.fn (.func 18) [] []) [v77, a1, v82, (.p (.bool true))] fun v83 =>
 Pu Try.prog (.bin .lss 3) [v83, (.p (.int .i64 1152921504606846976))] fun v84 =>
 CdA v84
 (
 Pu Try.prog (.bin .add 3) [(vs_50.getD 0 .any), (.p (.int .i64 1))] fun v86 =>
 k_53 [v86]
 ) (
 k_53 [(vs_50.getD 0 .any)]
 )
 ) (S_wordhoardlaw_told_K3 vs vs_47 k_49 vs_50)
 ) (
 Pu Try.prog (.bin .add 3) [(vs_47.getD 2 .any), (.p (.int .i64 1))] fun v70 =>
 k_46 [(vs_50.getD 0 .any), (vs_50.getD 1 .any), v70]
 )
def S_wordhoardlaw_told_L5 (a1 : AV) (a2 : AV) (a3 : AV) (a4 : AV) (Q : AV → AH → Prop) (H : AH) (v5 : AV) (vs : List AV) (vs_47 : List AV) (k_46 : List AV → AH → Prop) : AH → Prop :=
 Pu Try.prog (.bin .leq 3) [(vs_47.getD 2 .any), a2] fun v68 =>
 CdA v68
 (
 LoopA Try.prog 3 (S_wordhoardlaw_told_L4 a1 v5 vs k_46 vs_47) [(vs_47.getD 0 .any), (.p (.slice none 0 0)), (.p (.int .i64 0))]
 ) (
 Pu Try.prog (.bin .gtr 3) [(vs_47.getD 0 .any), (.p (.int .i64 500))] fun v110 =>
 CdA v110
 (
 Pu Try.prog (.bin .eql 28) [a4, (.p (.int .i64 7))] fun v112 =>
 Gd v112 true (fun k_85 => k_85 a3) fun v114 =>
 Gd v112 true (fun k_87 => Pu Try.prog .len [v114] k_87) fun v115 =>
 Gd v112 true (fun k_89 => Pu Try.prog (.bin .eql 3) [v115, (.p (.int .i64 0))] k_89) fun v116 =>
 Pu Try.prog .pick [v112, v116, (.p (.bool false))] fun v117 =>
 Rt Try.prog H.nx v117 Q
 ) (
 Pu Try.prog (.bin .eql 28) [a4, (.p (.int .i64 0))] fun v119 =>
 Gd v119 true (fun k_93 => k_93 a3) fun v121 =>
 Gd v119 true (fun k_95 => Pu Try.prog .len [v121] k_95) fun v122 =>
 Gd v119 true (fun k_97 => k_97 (vs_47.getD 0 .any)) fun v123 =>
 Gd v119 true (fun k_99 => Pu Try.prog (.bin .eql 3) [v122, v123] k_99) fun v124 =>
 Pu Try.prog .pick [v119, v124, (.p (.bool false))] fun v125 =>
 Rt Try.prog H.nx v125 Q
 )
 )
def S_wordhoardlaw_told_L6 (a1 : AV) (a2 : AV) (a3 : AV) (a4 : AV) (Q : AV → AH → Prop) (H : AH) (v5 : AV) (vs : List AV) (vs_37 : List AV) (k_36 : List AV → AH → Prop) : AH → Prop :=
 Pu Try.prog (.bin .lss 3) [(vs_37.getD 1 .any), a2] fun v55 =>
 CdA v55
 (
 Pu Try.prog .len [(vs.getD 0 .any)] fun v60 =>
 Pu Try.prog (.bin .mul 3) [(vs_37.getD 0 .any), v60] fun v61 =>
 Pu Try.prog (.bin .add 3) [v61, (.p (.int .i64 1))] fun v62 =>
 Pu Try.prog (.bin .gtr 3) [v62, (.p (.int .i64 2000))] fun v64 =>
 CdA v64
 (
 Rt Try.prog H.nx (.p (.bool true)) Q
 ) (
 Pu Try.prog (.bin .add 3) [(vs_37.getD 1 .any), (.p (.int .i64 1))] fun v57 =>
 k_36 [v62, v57]
 )
 ) (
 Rg 2 fun b_44 =>
 Al (b_44 + 0) (.bs 26 1 1 [.p (.slice none 0 0)] [(0, 1)]) [(.p (.slice none 0 0))] fun v65 =>
 LoopA Try.prog 3 (S_wordhoardlaw_told_L5 a1 a2 a3 a4 Q H v5 vs) [(.p (.int .i64 0)), v65, (.p (.int .i64 0))]
 )
def S_wordhoardlaw_told_L7 (a1 : AV) (a2 : AV) (a3 : AV) (a4 : AV) (Q : AV → AH → Prop) (H : AH) (v5 : AV) (v23 : AV) (vs : List AV) (k : List AV → AH → Prop) : AH → Prop :=
 Pu Try.prog (.addOff 1) [v5] fun v25 =>
 RdS Try.prog (.ld 1 false) [v25] fun v26 =>
 Pu Try.prog .len [v26] fun v27 =>
 Pu Try.prog (.bin .lss 3) [(vs.getD 1 .any), v27] fun v28 =>
 CdA v28
 (S_wordhoardlaw_told_C1 v5 v23 k vs) (
 LoopA Try.prog 2 (S_wordhoardlaw_told_L6 a1 a2 a3 a4 Q H v5 vs) [(.p (.int .i64 1)), (.p (.int .i64 0))]
 )
def S_wordhoardlaw_told (a0 a1 a2 a3 a4 : AV) (Q : AV → AH → Prop) (H : AH) : Prop := (
 Rg 2 fun b =>
 Al (b + 0) (.bx 25) [a0] fun v5 =>
 Rg 2 fun b_3 =>
 Al (b_3 + 0) (.ms 4 1 1 [.p (.bool false)]) [(.p (.int .i64 61)), (.p (.int .i64 61))] fun v23 =>
 LoopA Try.prog 2 (S_wordhoardlaw_told_L7 a1 a2 a3 a4 Q H v5 v23) [(.p (.slice none 0 0)), (.p (.int .i64 0))]
 ) H
theorem eq_wordhoardlaw_told (a0 a1 a2 a3 a4 : AV) (Q : AV → AH → Prop) (H : AH) : FnA Try.prog 126 (regsF Try.f30) ac_wordhoardlaw_told [.tm 10] [a0, a1, a2, a3, a4] H Q = S_wordhoardlaw_told a0 a1 a2 a3 a4 Q H := by kernel_rfl
theorem tri_wordhoardlaw_told {a0 a1 a2 a3 a4 : AV} {H : AH} {Q : AV → AH → Prop} (h : S_wordhoardlaw_told a0 a1 a2 a3 a4 Q H) : Tri Try.prog 30 [a0, a1, a2, a3, a4] H Q :=
  tri_of (Ms := [#[], #[], #[], #[], #[], #[], #[], #[], #[], #[], #[], #[], #[], #[], #[], #[], #[], #[], #[], #[], #[], #[], #[], #[], #[0, 0, 0, 0, 12, 28, 63, 127], #[], #[], #[], #[0, 0, 0, 0, 12, 28, 62, 0, 0, 384, 896, 1920, 4094, 8190, 16383, 32767], #[], #[], #[], #[], #[], #[], #[]]) mixed Try.func30 rfl (by kernel_rfl) (by kernel_rfl) rfl (of_decide_eq_true rfl : 5 ≤ 126) (by rw [eq_wordhoardlaw_told a0 a1 a2 a3 a4 Q H]; exact h : FnA Try.prog 126 (regsF Try.f30) ac_wordhoardlaw_told [.tm 10] [a0, a1, a2, a3, a4] H Q)

/-! wordhoard/wordhoardref.Less -/
def ac_wordhoardref_Less : AC := (.seq (.reg 0) (.seq (.seq (.reg 1) (.block 0 (.loop [5] [(4, 5), (6, 36)] (.seq (.seq (.reg 2) (.cond (.tmp 15) .skip (.exit 0))) (.seq (.block 1 (.seq (.reg 3) (.cond (.tmp 26) (.seq (.reg 4) .ret) .skip))) (.reg 5)))))) (.seq (.reg 6) .ret)))
def S_wordhoardref_Less_L1 (a0 : AV) (a1 : AV) (Q : AV → AH → Prop) (H : AH) (vs : List AV) (k : List AV → AH → Prop) : AH → Prop :=
 Pu Try.prog .len [a0] fun v8 =>
 Pu Try.prog (.bin .lss 3) [(vs.getD 0 .any), v8] fun v9 =>
 Gd v9 true (fun k_6 => k_6 (vs.getD 0 .any)) fun v11 =>
 Gd v9 true (fun k_8 => k_8 a1) fun v12 =>
 Gd v9 true (fun k_10 => Pu Try.prog .len [v12] k_10) fun v13 =>
 Gd v9 true (fun k_12 => Pu Try.prog (.bin .lss 3) [v11, v13] k_12) fun v14 =>
 Pu Try.prog .pick [v9, v14, (.p (.bool false))] fun v15 =>
 CdA v15
 (
 Vw fun V =>
 Pu Try.prog (.idx 1) [a0, (vs.getD 0 .any)] fun v20 =>
 Rd Try.prog V (.ld 1 false) [v20] fun v21 =>
 Pu Try.prog (.idx 1) [a1, (vs.getD 0 .any)] fun v24 =>
 Rd Try.prog V (.ld 1 false) [v24] fun v25 =>
 Pu Try.prog (.bin .neq 3) [v21, v25] fun v26 =>
 CdA v26
 (
 Vw fun V_20 =>
 Pu Try.prog (.idx 1) [a0, (vs.getD 0 .any)] fun v29 =>
 Rd Try.prog V_20 (.ld 1 false) [v29] fun v30 =>
 Pu Try.prog (.idx 1) [a1, (vs.getD 0 .any)] fun v33 =>
 Rd Try.prog V_20 (.ld 1 false) [v33] fun v34 =>
 Pu Try.prog (.bin .lss 3) [v30, v34] fun v35 =>
 Rt Try.prog H.nx v35 Q
 ) (
 Pu Try.prog (.bin .add 3) [(vs.getD 0 .any), (.p (.int .i64 1))] fun v17 =>
 k [v17]
 )
 ) (
 Pu Try.prog .len [a0] fun v37 =>
 Pu Try.prog .len [a1] fun v39 =>
 Pu Try.prog (.bin .lss 3) [v37, v39] fun v40 =>
 Rt Try.prog H.nx v40 Q
 )
def S_wordhoardref_Less (a0 a1 : AV) (Q : AV → AH → Prop) (H : AH) : Prop := (
 LoopA Try.prog 1 (S_wordhoardref_Less_L1 a0 a1 Q H) [(.p (.int .i64 0))]
 ) H
theorem eq_wordhoardref_Less (a0 a1 : AV) (Q : AV → AH → Prop) (H : AH) : FnA Try.prog 41 (regsF Try.f29) ac_wordhoardref_Less [.tm 4] [a0, a1] H Q = S_wordhoardref_Less a0 a1 Q H := by kernel_rfl
theorem tri_wordhoardref_Less {a0 a1 : AV} {H : AH} {Q : AV → AH → Prop} (h : S_wordhoardref_Less a0 a1 Q H) : Tri Try.prog 29 [a0, a1] H Q :=
  tri_of (Ms := [#[], #[], #[], #[0, 0, 3, 7, 0, 0, 48, 112, 255], #[0, 0, 3, 7, 0, 0, 48, 112, 255, 511], #[], #[]]) mixed Try.func29 rfl (by kernel_rfl) (by kernel_rfl) rfl (of_decide_eq_true rfl : 2 ≤ 41) (by rw [eq_wordhoardref_Less a0 a1 Q H]; exact h : FnA Try.prog 41 (regsF Try.f29) ac_wordhoardref_Less [.tm 4] [a0, a1] H Q)
end Go.Proofs.Ytgkkilbeingleaa

/- What walks write that read a text: from spots, by symbols; all of one length, in order. Plain. -/
namespace Go.Proofs.Ytgkkilbeingleaa
/-- a state, and how much is read -/
abbrev Sp := Int × Nat
def rdS (I : List Int) (s : Sp) (a : Arc) : Option Sp := if a.inn = 0 then some (a.to, s.2) else if I[s.2]? = some a.inn then some (a.to, s.2 + 1) else none
/-- what may be written from a spot on -/
inductive Wrs (m : Mac) (I : List Int) : Sp → List Int → Prop
  | fin {f : Fin_} : f ∈ m.fins → Wrs m I (f.st, I.length) []
  | arc {s q : Sp} {a : Arc} {w : List Int} : a ∈ m.arcs → a.fr = s.1 → rdS I s a = some q → Wrs m I q w → Wrs m I s (sy a.out ++ w)
theorem rdS_adv {I : List Int} {s q : Sp} {a : Arc} (h0 : 0 ≤ a.inn) (h : rdS I s a = some q) (hs : s.2 ≤ I.length) : q.1 = a.to ∧ q.2 ≤ I.length ∧ I.drop s.2 = sy a.inn ++ I.drop q.2 := by
  unfold rdS at h
  by_cases h1 : a.inn = 0
  · rw [if_pos h1] at h
    injection h with h; subst h
    refine ⟨rfl, hs, ?_⟩
    unfold sy
    rw [if_neg (by omega)]
    rfl
  · rw [if_neg h1] at h
    split at h
    · rename_i h2
      injection h with h; subst h
      have h3 := (List.getElem?_eq_some_iff.1 h2).1
      refine ⟨rfl, h3, ?_⟩
      unfold sy
      rw [if_pos (by omega), List.drop_eq_getElem_cons h3, (List.getElem?_eq_some_iff.1 h2).2]
      rfl
    · cases h
theorem Wrs.walk {m : Mac} {I : List Int} (hm : m.Ok) {s : Sp} {w : List Int} (h : Wrs m I s w) : s.2 ≤ I.length → ∃ f ∈ m.fins, ∃ c, Wk m true s.1 (I.drop s.2) w f.st c := by
  induction h with
  | fin hf => exact fun _ => ⟨_, hf, 0, by rw [List.drop_length]; exact .nil⟩
  | @arc s q a w ha hfr hr _ ih =>
    intro hs
    obtain ⟨e1, e2, e3⟩ := rdS_adv (hm.2.2.2.2.1 a ha).2.2.2.2.1 hr hs
    obtain ⟨f, hf, c, hk⟩ := ih e2
    have h1 := Wk.one (m := m) (told := true) ha
    rw [e1] at hk
    have := h1.append hk
    rw [← e3, hfr] at this
    exact ⟨f, hf, _, this⟩
theorem Wk.wrs {m : Mac} {I : List Int} (hm : m.Ok) {p q : Int} {X O : List Int} {c : Int} (h : Wk m true p X O q c) : ∀ (i : Nat) (Y w : List Int), I.drop i = X ++ Y → i ≤ I.length → Wrs m I (q, i + X.length) w → Wrs m I (p, i) (O ++ w) := by
  induction h with
  | nil => intro i Y w _ _ h; exact h
  | @snoc X O c a _ ha ih =>
    intro i Y w hd hi h
    have h0 := (hm.2.2.2.2.1 a ha).2.2.2.2.1
    rw [List.append_assoc] at hd
    have hstep : Wrs m I (a.fr, i + X.length) (sy a.out ++ w) := by
      refine .arc (q := (a.to, i + (X ++ sy a.inn).length)) ha rfl ?_ h
      unfold rdS sy
      by_cases h1 : a.inn = 0
      · rw [if_pos h1, if_neg (by omega), List.append_nil]
      · have h2 : 0 < a.inn := by omega
        rw [if_neg h1, if_pos h2]
        have h3 : I[i + X.length]? = some a.inn := by
          rw [← List.getElem?_drop, hd, List.getElem?_append_right (Nat.le_refl _), Nat.sub_self]
          unfold sy
          rw [if_pos h2]; rfl
        rw [if_pos h3, List.length_append]
        rfl
    have := ih i (sy a.inn ++ Y) (sy a.out ++ w) hd hi hstep
    rw [List.append_assoc]
    exact this
theorem acc_wrs {m : Mac} (hm : m.Ok) {I w : List Int} : (∃ c, Acc m true I w c) ↔ Wrs m I (0, 0) w := by
  constructor
  · rintro ⟨c, f, hf, d, hk, _⟩
    have := hk.wrs (I := I) hm 0 [] [] (by simp) (Nat.zero_le _) (by rw [Nat.zero_add]; exact .fin hf)
    rwa [List.append_nil] at this
  · intro h
    obtain ⟨f, hf, c, hk⟩ := h.walk hm (Nat.zero_le _)
    exact ⟨c + f.w, f, hf, c, hk, rfl⟩
/-- so many symbols may be written from here on -/
def leftP (m : Mac) (I : List Int) (n : Nat) (s : Sp) : Prop := ∃ w, w.length = n ∧ Wrs m I s w
/-- a step that writes nothing -/
def qst (m : Mac) (I : List Int) (s q : Sp) : Prop := ∃ a ∈ m.arcs, a.fr = s.1 ∧ rdS I s a = some q ∧ a.out = 0
/-- a step that writes c -/
def lst (m : Mac) (I : List Int) (c : Int) (s q : Sp) : Prop := ∃ a ∈ m.arcs, a.fr = s.1 ∧ rdS I s a = some q ∧ a.out = c ∧ c ≠ 0
/-- steps that write nothing -/
inductive Qs (m : Mac) (I : List Int) : Sp → Sp → Prop
  | refl (s : Sp) : Qs m I s s
  | snoc {s q r : Sp} : Qs m I s q → qst m I q r → Qs m I s r
theorem Qs.cons {m : Mac} {I : List Int} {s q r : Sp} (h1 : qst m I s q) (h : Qs m I q r) : Qs m I s r := by
  induction h with
  | refl => exact .snoc (.refl _) h1
  | snoc _ k ih => exact .snoc ih k
theorem Qs.wrs {m : Mac} {I : List Int} {s q : Sp} (h : Qs m I s q) : ∀ {w : List Int}, Wrs m I q w → Wrs m I s w := by
  induction h with
  | refl => exact fun h => h
  | snoc _ hq ih =>
    intro w h
    obtain ⟨a, ha, h1, h2, h3⟩ := hq
    have := Wrs.arc ha h1 h2 h
    rw [h3] at this
    exact ih this
theorem wrs_nil {m : Mac} {I : List Int} (hm : m.Ok) {s : Sp} : Wrs m I s [] ↔ ∃ f ∈ m.fins, Qs m I s (f.st, I.length) := by
  constructor
  · intro h
    generalize hw : ([] : List Int) = w at h
    induction h with
    | fin hf => exact ⟨_, hf, .refl _⟩
    | @arc s q a w ha hfr hr _ ih =>
      have h0 := (hm.2.2.2.2.1 a ha).2.2.2.2.2.2.1
      have h1 : a.out = 0 := by
        unfold sy at hw
        by_cases h : 0 < a.out
        · rw [if_pos h] at hw; cases hw
        · omega
      rw [show sy a.out = [] by rw [h1]; rfl] at hw
      obtain ⟨f, hf, k⟩ := ih hw
      exact ⟨f, hf, .cons ⟨a, ha, hfr, hr, h1⟩ k⟩
  · rintro ⟨f, hf, h⟩
    exact h.wrs (.fin hf)
theorem wrs_cons {m : Mac} {I : List Int} (hm : m.Ok) {s : Sp} {c : Int} {w : List Int} : Wrs m I s (c :: w) ↔ ∃ q r, Qs m I s q ∧ lst m I c q r ∧ Wrs m I r w := by
  constructor
  · intro h
    generalize hw : c :: w = v at h
    induction h with
    | fin hf => cases hw
    | @arc s q a v ha hfr hr h ih =>
      have h0 := (hm.2.2.2.2.1 a ha).2.2.2.2.2.2.1
      by_cases h1 : a.out = 0
      · rw [show sy a.out = [] by rw [h1]; rfl] at hw
        obtain ⟨x, r, k1, k2, k3⟩ := ih hw
        exact ⟨x, r, .cons ⟨a, ha, hfr, hr, h1⟩ k1, k2, k3⟩
      · rw [show sy a.out = [a.out] by unfold sy; rw [if_pos (by omega)]] at hw
        injection hw with e1 e2
        subst e1; subst e2
        exact ⟨s, q, .refl _, ⟨a, ha, hfr, hr, rfl, h1⟩, h⟩
  · rintro ⟨q, r, h1, ⟨a, ha, hfr, hr, hc, hc0⟩, h3⟩
    have h0 := (hm.2.2.2.2.1 a ha).2.2.2.2.2.2.1
    have := Wrs.arc ha hfr hr h3
    rw [show sy a.out = [c] by unfold sy; rw [if_pos (by omega), hc]] at this
    exact h1.wrs this
theorem wrs_sym {m : Mac} {I : List Int} (hm : m.Ok) {s : Sp} {w : List Int} (h : Wrs m I s w) : ∀ c ∈ w, 1 ≤ c ∧ c ≤ 60 ∧ ∃ a ∈ m.arcs, a.out = c := by
  induction h with
  | fin => intro c hc; cases hc
  | @arc s q a w ha _ _ _ ih =>
    intro c hc
    rcases List.mem_append.1 hc with hc | hc
    · unfold sy at hc
      split at hc
      · rcases List.mem_singleton.1 hc with rfl
        have := (hm.2.2.2.2.1 a ha).2.2.2.2.2.2
        exact ⟨by omega, by omega, a, ha, rfl⟩
      · cases hc
    · exact ih c hc
/-- what comes of spots by c: where enough may still be written -/
def nx (m : Mac) (I : List Int) (A : Sp → Prop) (n : Nat) (c : Int) (q : Sp) : Prop := ∃ s, A s ∧ lst m I c s q ∧ leftP m I n q
def cl (m : Mac) (I : List Int) (A : Sp → Prop) (q : Sp) : Prop := ∃ s, A s ∧ Qs m I s q
def syms : List Int := (List.range 60).map fun i : Nat => (i : Int) + 1
open Classical in
/-- all that is written from spots, of one length, in order -/
noncomputable def ws (m : Mac) (I : List Int) : Nat → (Sp → Prop) → List (List Int)
  | 0, _ => [[]]
  | n + 1, A => syms.flatMap fun c => if ∃ q, nx m I A n c q then (ws m I n (cl m I (nx m I A n c))).map (c :: ·) else []
theorem cl_closed {m : Mac} {I : List Int} {A : Sp → Prop} {s q : Sp} (h : cl m I A s) (k : Qs m I s q) : cl m I A q := by
  obtain ⟨x, hx, h⟩ := h
  refine ⟨x, hx, ?_⟩
  clear hx
  induction k with
  | refl => exact h
  | snoc _ k ih => exact .snoc ih k
theorem syms_mem {c : Int} : c ∈ syms ↔ 1 ≤ c ∧ c ≤ 60 := by
  unfold syms
  rw [List.mem_map]
  constructor
  · rintro ⟨i, hi, rfl⟩
    have := List.mem_range.1 hi
    omega
  · intro h
    exact ⟨(c - 1).toNat, List.mem_range.2 (by omega), by omega⟩
theorem ws_mem {m : Mac} {I : List Int} (hm : m.Ok) : ∀ (n : Nat) (A : Sp → Prop), (∀ s q, A s → Qs m I s q → A q) → (∃ s, A s ∧ leftP m I n s) → ∀ w, w ∈ ws m I n A ↔ w.length = n ∧ ∃ s, A s ∧ Wrs m I s w
  | 0, A, _, ⟨s, hs, v, hv, hw⟩, w => by
    rw [ws, List.mem_singleton]
    have hv0 := List.eq_nil_of_length_eq_zero hv
    subst hv0
    constructor
    · rintro rfl; exact ⟨rfl, s, hs, hw⟩
    · rintro ⟨h, _⟩; exact List.eq_nil_of_length_eq_zero h
  | n + 1, A, hA, _, w => by
    rw [ws, List.mem_flatMap]
    constructor
    · rintro ⟨c, hc, h⟩
      split at h
      · rename_i hq
        obtain ⟨v, hv, rfl⟩ := List.mem_map.1 h
        obtain ⟨q, hq⟩ := hq
        have hq' := hq
        obtain ⟨_, _, _, hl⟩ := hq'
        obtain ⟨e1, s, ⟨r, ⟨x, hx, h1, _⟩, h2⟩, h3⟩ := (ws_mem hm n (cl m I (nx m I A n c)) (fun s q h k => cl_closed h k) ⟨q, ⟨q, hq, .refl _⟩, hl⟩ v).1 hv
        exact ⟨by rw [List.length_cons, e1], x, hx, (wrs_cons hm).2 ⟨x, r, .refl _, h1, h2.wrs h3⟩⟩
      · cases h
    · rintro ⟨hl, s, hs, hw⟩
      cases w with
      | nil => cases hl
      | cons c v =>
        rw [List.length_cons] at hl
        obtain ⟨q, r, h1, h2, h3⟩ := (wrs_cons hm).1 hw
        have hc := (wrs_sym hm hw c (by simp))
        have hlp : leftP m I n r := ⟨v, by omega, h3⟩
        have hn : nx m I A n c r := ⟨q, hA s q hs h1, h2, hlp⟩
        refine ⟨c, syms_mem.2 ⟨hc.1, hc.2.1⟩, ?_⟩
        rw [if_pos ⟨r, hn⟩]
        exact List.mem_map.2 ⟨v, (ws_mem hm n _ (fun s q h k => cl_closed h k) ⟨r, ⟨r, hn, .refl _⟩, hlp⟩ v).2 ⟨by omega, r, ⟨r, hn, .refl _⟩, h3⟩, rfl⟩
def lessB : List Int → List Int → Bool
  | [], [] => false
  | [], _ :: _ => true
  | _ :: _, [] => false
  | x :: a, y :: b => bif decide (x = y) then lessB a b else decide (x < y)
theorem lessB_cons {c : Int} {a b : List Int} : lessB (c :: a) (c :: b) = lessB a b := by simp [lessB]
theorem lessB_lt {c d : Int} (h : c < d) (a b : List Int) : lessB (c :: a) (d :: b) = true := by
  have : ¬ c = d := by omega
  simp [lessB, this, h]
theorem lessB_irrefl : ∀ a : List Int, lessB a a = false
  | [] => rfl
  | x :: a => by rw [lessB_cons, lessB_irrefl a]
theorem pw_map {c : Int} {l : List (List Int)} (h : l.Pairwise fun a b => lessB a b = true) : (l.map (c :: ·)).Pairwise fun a b => lessB a b = true := by
  rw [List.pairwise_map]
  exact h.imp fun h => by rw [lessB_cons]; exact h
theorem pw_flat {f : Int → List (List Int)} : ∀ {l : List Int}, l.Pairwise (· < ·) → (∀ c ∈ l, (f c).Pairwise fun a b => lessB a b = true) → (∀ c ∈ l, ∀ w ∈ f c, ∃ v, w = c :: v) → (l.flatMap f).Pairwise fun a b => lessB a b = true
  | [], _, _, _ => by simp
  | c :: l, h, h1, h2 => by
    rw [List.flatMap_cons, List.pairwise_append]
    obtain ⟨k1, k2⟩ := List.pairwise_cons.1 h
    refine ⟨h1 c (by simp), pw_flat k2 (fun d hd => h1 d (by simp [hd])) (fun d hd => h2 d (by simp [hd])), fun a ha b hb => ?_⟩
    obtain ⟨d, hd, hb⟩ := List.mem_flatMap.1 hb
    obtain ⟨v, rfl⟩ := h2 c (by simp) a ha
    obtain ⟨u, rfl⟩ := h2 d (by simp [hd]) b hb
    exact lessB_lt (k1 d hd) _ _
theorem syms_pw : syms.Pairwise (· < ·) := by
  unfold syms
  rw [List.pairwise_map]
  exact List.pairwise_lt_range.imp fun h => by omega
theorem ws_pw {m : Mac} {I : List Int} : ∀ (n : Nat) (A : Sp → Prop), (ws m I n A).Pairwise fun a b => lessB a b = true
  | 0, A => by rw [ws]; simp
  | n + 1, A => by
    rw [ws]
    refine pw_flat syms_pw (fun c _ => ?_) (fun c _ w hw => ?_)
    · split
      · exact pw_map (ws_pw n _)
      · simp
    · split at hw
      · obtain ⟨v, _, rfl⟩ := List.mem_map.1 hw; exact ⟨v, rfl⟩
      · cases hw
open Classical in
/-- all that is told -/
noncomputable def outsU (m : Mac) (I : List Int) (n : Nat) : List (List Int) := if leftP m I n (0, 0) then ws m I n (cl m I (· = (0, 0))) else []
noncomputable def outsL (m : Mac) (I : List Int) (long : Nat) : List (List Int) := (List.range (long + 1)).flatMap (outsU m I)
theorem outsU_mem {m : Mac} {I : List Int} (hm : m.Ok) {n : Nat} {w : List Int} : w ∈ outsU m I n ↔ w.length = n ∧ Wrs m I (0, 0) w := by
  unfold outsU
  split
  · rename_i h
    rw [ws_mem hm n (cl m I (· = (0, 0))) (fun s q h k => cl_closed h k) ⟨(0, 0), ⟨(0, 0), rfl, .refl _⟩, h⟩]
    constructor
    · rintro ⟨e, s, ⟨x, rfl, h1⟩, h2⟩; exact ⟨e, h1.wrs h2⟩
    · rintro ⟨e, h⟩; exact ⟨e, (0, 0), ⟨(0, 0), rfl, .refl _⟩, h⟩
  · rename_i h
    constructor
    · intro h; cases h
    · rintro ⟨e, k⟩; exact absurd ⟨w, e, k⟩ h
theorem outsL_mem {m : Mac} {I : List Int} (hm : m.Ok) {long : Nat} {w : List Int} : w ∈ outsL m I long ↔ w.length ≤ long ∧ Wrs m I (0, 0) w := by
  unfold outsL
  rw [List.mem_flatMap]
  constructor
  · rintro ⟨n, hn, h⟩
    have := List.mem_range.1 hn
    obtain ⟨e, h⟩ := (outsU_mem hm).1 h
    exact ⟨by omega, h⟩
  · rintro ⟨e, h⟩
    exact ⟨w.length, List.mem_range.2 (by omega), (outsU_mem hm).2 ⟨rfl, h⟩⟩
/-- first the shorter ones, then in order -/
def beforeB (a b : List Int) : Bool := decide (a.length < b.length) || (decide (a.length = b.length) && lessB a b)
theorem outsL_pw {m : Mac} {I : List Int} (hm : m.Ok) (long : Nat) : (outsL m I long).Pairwise fun a b => beforeB a b = true := by
  unfold outsL
  have key : ∀ (l : List Nat), l.Pairwise (· < ·) → (l.flatMap (outsU m I)).Pairwise fun a b => beforeB a b = true := by
    intro l
    induction l with
    | nil => intro _; simp
    | cons n l ih =>
      intro h
      obtain ⟨k1, k2⟩ := List.pairwise_cons.1 h
      rw [List.flatMap_cons, List.pairwise_append]
      refine ⟨?_, ih k2, fun a ha b hb => ?_⟩
      · have hp : (outsU m I n).Pairwise fun a b => lessB a b = true := by
          unfold outsU
          split
          · exact ws_pw n _
          · simp
        refine hp.imp_of_mem fun {a b} ha hb h => ?_
        have h1 := ((outsU_mem hm).1 ha).1
        have h2 := ((outsU_mem hm).1 hb).1
        unfold beforeB
        simp [h1, h2, h]
      · obtain ⟨d, hd, hb⟩ := List.mem_flatMap.1 hb
        have h1 := ((outsU_mem hm).1 ha).1
        have h2 := ((outsU_mem hm).1 hb).1
        have := k1 d hd
        unfold beforeB
        simp [h1, h2, this]
  exact key _ List.pairwise_lt_range
theorem outsL_nodup {m : Mac} {I : List Int} (hm : m.Ok) (long : Nat) : (outsL m I long).Nodup :=
  (outsL_pw hm long).imp fun {a b} h e => by
    subst e
    unfold beforeB at h
    rw [lessB_irrefl] at h
    simp at h
end Go.Proofs.Ytgkkilbeingleaa

/- What is read and written at some cost is read and written at a cost below Dear. Plain. -/
namespace Go.Proofs.Ytgkkilbeingleaa
abbrev Pl := Int × Nat × Nat
def pst (m : Mac) (I O : List Int) (q p : Pl) : Prop := ∃ a ∈ m.arcs, a.fr = q.1 ∧ a.to = p.1 ∧ adv a.inn I q.2.1 = some p.2.1 ∧ adv a.out O q.2.2 = some p.2.2
def pD (m : Mac) (I O : List Int) : Nat → Pl → Prop
  | 0, p => p = (0, 0, 0)
  | n + 1, p => pD m I O n p ∨ ∃ q, pD m I O n q ∧ pst m I O q p
theorem pD_up {m : Mac} {I O : List Int} {n k : Nat} {p : Pl} (h : pD m I O n p) (hk : n ≤ k) : pD m I O k p := by
  induction k with
  | zero => rw [show n = 0 by omega] at h; exact h
  | succ k ih =>
    by_cases e : n = k + 1
    · rw [← e]; exact h
    · exact .inl (ih (by omega))
theorem pD_ok {m : Mac} (hm : m.Ok) {I O : List Int} : ∀ {n : Nat} {p : Pl}, pD m I O n p → 0 ≤ p.1 ∧ p.1 < m.states ∧ p.2.1 ≤ I.length ∧ p.2.2 ≤ O.length ∧ ∃ c : Int, c ≤ (n : Int) * 1000000 ∧ Wk m true 0 (I.take p.2.1) (O.take p.2.2) p.1 c
  | 0, p, h => by
    have h : p = (0, 0, 0) := h
    subst h
    have := hm.1
    exact ⟨by simp, by simp; omega, Nat.zero_le _, Nat.zero_le _, 0, by simp, .nil⟩
  | n + 1, p, h => by
    rcases h with h | ⟨q, h, a, ha, h1, h2, h3, h4⟩
    · obtain ⟨k1, k2, k3, k4, c, k5, k6⟩ := pD_ok hm h
      exact ⟨k1, k2, k3, k4, c, by omega, k6⟩
    · obtain ⟨k1, k2, k3, k4, c, k5, k6⟩ := pD_ok hm h
      have hb := hm.2.2.2.2.1 a ha
      refine ⟨by omega, by omega, adv_le h3 k3, adv_le h4 k4, c + a.w, by omega, ?_⟩
      rw [← h1] at k6
      have := k6.snoc ha
      rw [adv_take h3, adv_take h4, ← h2]
      exact this
theorem take_snoc {I X : List Int} {x : Int} {i : Nat} (h0 : 0 ≤ x) (hi : i ≤ I.length) (h : X ++ sy x = I.take i) : X = I.take X.length ∧ adv x I X.length = some i ∧ X.length ≤ I.length := by
  have hl := congrArg List.length h
  rw [List.length_append, List.length_take, Nat.min_eq_left hi] at hl
  have hX : X = I.take X.length := by
    have := congrArg (List.take X.length) h
    rw [List.take_left, List.take_take, Nat.min_eq_left (by omega)] at this
    exact this
  refine ⟨hX, ?_, by omega⟩
  unfold adv
  unfold sy at h hl
  by_cases hx : 0 < x
  · rw [if_pos hx] at h hl ⊢
    simp only [List.length_singleton] at hl
    have h2 : I[X.length]? = some x := by
      have := congrArg (fun l => l[X.length]?) h
      simp only [List.getElem?_append_right (Nat.le_refl _), Nat.sub_self, List.getElem?_cons_zero] at this
      rw [List.getElem?_take, if_pos (by omega)] at this
      exact this.symm
    rw [if_pos h2, hl]
  · rw [if_neg hx] at hl ⊢
    simp only [List.length_nil, Nat.add_zero] at hl
    rw [hl]
theorem wk_pD {m : Mac} (hm : m.Ok) {I O : List Int} {q : Int} {X Y : List Int} {c : Int} (h : Wk m true 0 X Y q c) : ∀ (i j : Nat), i ≤ I.length → j ≤ O.length → X = I.take i → Y = O.take j → ∃ n, pD m I O n (q, i, j) := by
  induction h with
  | nil =>
    intro i j hi hj h1 h2
    have e1 := congrArg List.length h1
    have e2 := congrArg List.length h2
    rw [List.length_take, Nat.min_eq_left hi, List.length_nil] at e1
    rw [List.length_take, Nat.min_eq_left hj, List.length_nil] at e2
    exact ⟨0, by rw [← e1, ← e2]; rfl⟩
  | @snoc X Y c a _ ha ih =>
    intro i j hi hj h1 h2
    have hb := hm.2.2.2.2.1 a ha
    obtain ⟨a1, a2, a3⟩ := take_snoc hb.2.2.2.2.1 hi h1
    obtain ⟨b1, b2, b3⟩ := take_snoc hb.2.2.2.2.2.2.1 hj (by simpa [so] using h2)
    obtain ⟨n, hn⟩ := ih X.length Y.length a3 b3 a1 b1
    exact ⟨n + 1, .inr ⟨_, hn, a, ha, rfl, rfl, a2, b2⟩⟩
theorem filter_lt {α : Type} {p q : α → Bool} : ∀ {l : List α}, (∀ x ∈ l, p x = true → q x = true) → (∃ x ∈ l, q x = true ∧ p x = false) → (l.filter p).length < (l.filter q).length
  | [], _, ⟨x, hx, _⟩ => by cases hx
  | a :: l, h, hx => by
    have hle : ∀ l : List α, (∀ x ∈ l, p x = true → q x = true) → (l.filter p).length ≤ (l.filter q).length := by
      intro l
      induction l with
      | nil => intro _; simp
      | cons a l ih =>
        intro h
        have := ih fun x hx => h x (by simp [hx])
        have ha := h a (by simp)
        cases hp : p a <;> cases hq : q a <;> simp [List.filter_cons, hp, hq] at ha ⊢ <;> omega
    have ha := h a (by simp)
    have ht : ∀ x ∈ l, p x = true → q x = true := fun x hx => h x (by simp [hx])
    obtain ⟨x, hx, h1, h2⟩ := hx
    rcases List.mem_cons.1 hx with rfl | hx
    · have := hle l ht
      simp [List.filter_cons, h1, h2]; omega
    · have := filter_lt ht ⟨x, hx, h1, h2⟩
      cases hp : p a <;> cases hq : q a <;> simp [List.filter_cons, hp, hq] at ha ⊢ <;> omega
def plL (N n k : Nat) : List Pl := (List.range N).flatMap fun s : Nat => (List.range n).flatMap fun i => (List.range k).map fun j => ((s : Int), i, j)
theorem plL_len (N n k : Nat) : (plL N n k).length = N * (n * k) := by
  simp [plL, List.length_flatMap, List.map_const', List.sum_replicate_nat]
theorem plL_mem {N n k : Nat} {p : Pl} (h1 : 0 ≤ p.1) (h2 : p.1 < (N : Int)) (h3 : p.2.1 < n) (h4 : p.2.2 < k) : p ∈ plL N n k := by
  unfold plL
  refine List.mem_flatMap.2 ⟨p.1.toNat, List.mem_range.2 (by omega), List.mem_flatMap.2 ⟨p.2.1, List.mem_range.2 h3, List.mem_map.2 ⟨p.2.2, List.mem_range.2 h4, ?_⟩⟩⟩
  rw [Int.toNat_of_nonneg h1]
open Classical in
theorem pD_stop {m : Mac} (hm : m.Ok) (I O : List Int) : ∃ n, n ≤ m.states.toNat * ((I.length + 1) * (O.length + 1)) ∧ ∀ k p, pD m I O k p → pD m I O n p := by
  generalize hN : m.states.toNat * ((I.length + 1) * (O.length + 1)) = N
  have hmem : ∀ n p, pD m I O n p → p ∈ plL m.states.toNat (I.length + 1) (O.length + 1) := fun n p h => by
    obtain ⟨k1, k2, k3, k4, _⟩ := pD_ok hm h
    exact plL_mem k1 (by omega) (by omega) (by omega)
  have hst : ∃ n, n ≤ N ∧ ∀ p, pD m I O (n + 1) p → pD m I O n p := by
    apply Classical.byContradiction
    intro hno
    have hgr : ∀ n, n ≤ N + 1 → n ≤ ((plL m.states.toNat (I.length + 1) (O.length + 1)).filter fun p => decide (pD m I O n p)).length := by
      intro n
      induction n with
      | zero => intro _; omega
      | succ n ih =>
        intro hn
        have := ih (by omega)
        have hex : ∃ p, pD m I O (n + 1) p ∧ ¬ pD m I O n p := by
          apply Classical.byContradiction
          intro h
          exact hno ⟨n, by omega, fun p hp => Classical.byContradiction fun hq => h ⟨p, hp, hq⟩⟩
        obtain ⟨p, hp, hq⟩ := hex
        have hlt := filter_lt (p := fun p => decide (pD m I O n p)) (q := fun p => decide (pD m I O (n + 1) p)) (l := plL m.states.toNat (I.length + 1) (O.length + 1)) (fun x _ hx => by simp only [decide_eq_true_eq] at hx ⊢; exact .inl hx) ⟨p, hmem _ _ hp, by simp [hp], by simp [hq]⟩
        omega
    have h1 := hgr (N + 1) (Nat.le_refl _)
    have h2 := List.length_filter_le (fun p => decide (pD m I O (N + 1) p)) (plL m.states.toNat (I.length + 1) (O.length + 1))
    rw [plL_len, hN] at h2
    omega
  obtain ⟨n, hn, hs⟩ := hst
  refine ⟨n, hn, fun k => ?_⟩
  induction k with
  | zero => intro p h; exact pD_up h (Nat.zero_le _)
  | succ k ih =>
    intro p h
    rcases h with h | ⟨q, hq, hp⟩
    · exact ih p h
    · exact hs p (.inr ⟨q, ih q hq, hp⟩)
theorem acc_cheap {m : Mac} (hm : m.Ok) {I O : List Int} (hI : I.length ≤ 60) (hO : O.length ≤ 60) (h : ∃ c, Acc m true I O c) : ∃ c, Acc m true I O c ∧ c < dear := by
  obtain ⟨c, f, hf, d, hk, _⟩ := h
  obtain ⟨n, hn⟩ := wk_pD hm hk I.length O.length (Nat.le_refl _) (Nat.le_refl _) (by rw [List.take_length]) (by rw [List.take_length])
  obtain ⟨N, hN, hs⟩ := pD_stop hm I O
  obtain ⟨_, _, _, _, e, he, hw⟩ := pD_ok hm (hs n _ hn)
  rw [List.take_length, List.take_length] at hw
  refine ⟨e + f.w, ⟨f, hf, e, hw, rfl⟩, ?_⟩
  have hfw := (hm.2.2.2.2.2.1 f hf).2.2.2
  have hst := hm.2.1
  have h1 : (I.length + 1) * (O.length + 1) ≤ 61 * 61 := Nat.mul_le_mul (by omega) (by omega)
  have h2 : m.states.toNat * ((I.length + 1) * (O.length + 1)) ≤ 3000 * (61 * 61) := Nat.mul_le_mul (by omega) h1
  unfold dear
  omega
theorem cost_cheap {m : Mac} (hm : m.Ok) {I O : List Int} (hI : I.length ≤ 60) (hO : O.length ≤ 60) : (costOf m true I O < dear ↔ Wrs m I (0, 0) O) ∧ costOf m true I O ≤ dear := by
  have hl : Least (Acc m true I O) (costOf m true I O) := leastOf_spec fun c h => h.nonneg hm
  refine ⟨⟨fun h => (acc_wrs hm).1 ⟨_, hl.at_ h⟩, fun h => ?_⟩, hl.top⟩
  obtain ⟨c, hc, hcd⟩ := acc_cheap hm hI hO ((acc_wrs hm).2 h)
  have := hl.le c hc
  omega
end Go.Proofs.Ytgkkilbeingleaa
