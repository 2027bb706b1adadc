/-
  Functions of the program, printed as functions of values (by a program of this claim), each with the proof that the code is it. Conditions: none.
-/
import Derived.Test.YtednpcncjiaahaaRs6
import Derived.Test.YtednpcncjiaahaaProg
set_option linter.unusedVariables false
set_option linter.unusedSimpArgs false
set_option maxRecDepth 100000
namespace Go.Proofs.Try
open Go.Ab
namespace R

-- footman/footmanlaw25.LeakAll
noncomputable def F3_j1 (cf : CallF) (lf : Nat) : Fv 4 := fun v22 v23 v24 v25 h26 =>
 cl (cf 13 [v22, v23] h26) fun v27 h28 =>
 cl (cf 14 [v22, v23] h28) fun v29 h30 =>
 bi .eql v27 v29 fun v31 =>
 vb v31 fun q32 => ifB q32 (
 cl (cf 15 [v24, v25] h30) fun v33 h34 =>
 cl (cf 16 [v24, v25] h34) fun v35 h36 =>
 bn prog .eql 4 v33 v35 fun v37 =>
 vb v37 fun q38 => ifB q38 (
 cl (cf 12 [] h36) fun v39 h40 =>
 rt v39 h40) (
 rt (.b false) h36)) (
 rt (.b false) h30)
noncomputable def F3 (cf : CallF) (lf : Nat) : Fv 4 := fun x0 x1 x2 x3 h =>
 jn 4 (fun J1 =>
 lns x0 fun v2 =>
 bi .gtr v2 (.i .i64 (.ofNat 200)) fun v3 =>
 vb v3 fun q4 => ifB q4 (
 cl (cf 12 [] h) fun v5 h6 =>
 rt v5 h6) (
 lns x1 fun v7 =>
 bi .gtr v7 (.i .i64 (.ofNat 200)) fun v8 =>
 vb v8 fun q9 => ifB q9 (
 cl (cf 12 [] h) fun v10 h11 =>
 rt v10 h11) (
 lns x2 fun v12 =>
 bi .gtr v12 (.i .i64 (.ofNat 200)) fun v13 =>
 vb v13 fun q14 => ifB q14 (
 cl (cf 12 [] h) fun v15 h16 =>
 rt v15 h16) (
 lns x3 fun v17 =>
 bi .gtr v17 (.i .i64 (.ofNat 200)) fun v18 =>
 vb v18 fun q19 => ifB q19 (
 cl (cf 12 [] h) fun v20 h21 =>
 rt v20 h21) (
 J1 x0 x1 x2 x3 h))))) (F3_j1 cf lf)
def A3 : Ann := (.s (.r []) (.j [0, 1, 2, 3] (.s (.r [4, 9, 14]) (.s (.s (.r []) .z) .z)) (.s (.r [8, 17]) .z)))
theorem F3_eq (cf : CallF) (lf : Nat) (x0 : V) (x1 : V) (x2 : V) (x3 : V) (h : Heap) : bodyA prog 0 f3 (f3.body.getD .skip) A3 cf lf [x0, x1, x2, x3] h = F3 cf lf x0 x1 x2 x3 h := by kernel_rfl

-- footman/footmanlaw25.LeakMade
noncomputable def F4_j1 (cf : CallF) (lf : Nat) : Fv 4 := fun v60 v61 v62 v63 h64 =>
 cl (cf 13 [v60, v61] h64) fun v65 h66 =>
 bi .eql v65 v63 fun v67 =>
 vb v67 fun q68 => ifB q68 (
 cl (cf 13 [v61, v60] h66) fun v69 h70 =>
 bi .eql v69 v63 fun v71 =>
 vb v71 fun q72 => ifB q72 (
 o2 (sliceV prog 22 v60 none (some v62) none h70) fun v73 h74 =>
 cl (cf 13 [v60, v73] h74) fun v75 h76 =>
 bi .eql v75 v62 fun v77 =>
 vb v77 fun q78 => ifB q78 (
 o2 (sliceV prog 22 v60 none (some v62) none h76) fun v79 h80 =>
 cl (cf 13 [v79, v60] h80) fun v81 h82 =>
 bi .eql v81 v62 fun v83 =>
 vb v83 fun q84 => ifB q84 (
 cl (cf 13 [v60, v60] h82) fun v85 h86 =>
 bi .eql v85 (.i .i64 (.negSucc 0)) fun v87 =>
 vb v87 fun q88 => ifB q88 (
 cl (cf 12 [] h86) fun v89 h90 =>
 rt v89 h90) (
 rt (.b false) h86)) (
 rt (.b false) h82)) (
 rt (.b false) h76)) (
 rt (.b false) h70)) (
 rt (.b false) h66)
noncomputable def F4_j2 (cf : CallF) (lf : Nat) : Fv 4 := fun v52 v53 v54 v55 h56 =>
 jn 4 (fun J57 =>
 bi .eql v53 (.i .u32 (.ofNat 0)) fun v58 =>
 vb v58 fun q59 => ifB q59 (
 J57 v52 v54 v55 (.i .i64 (.negSucc 0)) h56) (
 J57 v52 v54 v55 v55 h56)) (F4_j1 cf lf)
noncomputable def F4_j3 (cf : CallF) (lf : Nat) : Fv 4 := fun v12 v13 v14 v15 h16 =>
 o2 (buildSliceV prog 22 0 [] h16) fun v17 h18 =>
 o2 (appendV prog 22 22 v17 v12 h18) fun v19 h20 =>
 cv .i64 v13 fun v21 =>
 lns v12 fun v22 =>
 bi .rem v21 v22 fun v23 =>
 jn 4 (fun J24 =>
 bi .rem v15 (.i .u8 (.ofNat 3)) fun v25 =>
 bi .eql v25 (.i .u8 (.ofNat 0)) fun v26 =>
 vb v26 fun q27 => ifB q27 (
 ix 3 v19 v23 fun v28 =>
 fa 0 v28 fun v29 =>
 ld v29 h20 fun v30 =>
 bi .xor v30 v14 fun v31 =>
 ix 3 v19 v23 fun v32 =>
 fa 0 v32 fun v33 =>
 st 1 v33 v31 h20 fun h34 =>
 J24 v12 v14 v19 v23 h34) (
 bi .eql v25 (.i .u8 (.ofNat 1)) fun v35 =>
 vb v35 fun q36 => ifB q36 (
 ix 3 v19 v23 fun v37 =>
 fa 1 v37 fun v38 =>
 ld v38 h20 fun v39 =>
 bi .xor v39 v14 fun v40 =>
 ix 3 v19 v23 fun v41 =>
 fa 1 v41 fun v42 =>
 st 1 v42 v40 h20 fun h43 =>
 J24 v12 v14 v19 v23 h43) (
 ix 3 v19 v23 fun v44 =>
 fa 2 v44 fun v45 =>
 ld v45 h20 fun v46 =>
 cv .i64 v14 fun v47 =>
 bi .xor v46 v47 fun v48 =>
 ix 3 v19 v23 fun v49 =>
 fa 2 v49 fun v50 =>
 st 1 v50 v48 h20 fun h51 =>
 J24 v12 v14 v19 v23 h51))) (F4_j2 cf lf)
noncomputable def F4 (cf : CallF) (lf : Nat) : Fv 4 := fun x0 x1 x2 x3 h =>
 jn 4 (fun J1 =>
 lns x0 fun v2 =>
 bi .eql v2 (.i .i64 (.ofNat 0)) fun v3 =>
 vb v3 fun q4 => ifB q4 (
 cl (cf 12 [] h) fun v5 h6 =>
 rt v5 h6) (
 lns x0 fun v7 =>
 bi .gtr v7 (.i .i64 (.ofNat 200)) fun v8 =>
 vb v8 fun q9 => ifB q9 (
 cl (cf 12 [] h) fun v10 h11 =>
 rt v10 h11) (
 J1 x0 x1 x2 x3 h))) (F4_j3 cf lf)
def A4 : Ann := (.s (.r []) (.j [0, 1, 2, 3] (.s (.r [4]) (.s (.s (.r []) .z) .z)) (.s (.r []) (.s (.r []) (.j [0, 2, 9, 10] (.s (.r []) (.b (.s (.r []) (.s (.r []) (.s (.r []) (.s (.r []) (.r []))))))) (.s (.r []) (.j [0, 9, 10, 11] (.s (.r []) (.s (.r []) .z)) (.s (.r [6, 13, 22, 31, 37]) .z))))))))
theorem F4_eq (cf : CallF) (lf : Nat) (x0 : V) (x1 : V) (x2 : V) (x3 : V) (h : Heap) : bodyA prog 0 f4 (f4.body.getD .skip) A4 cf lf [x0, x1, x2, x3] h = F4 cf lf x0 x1 x2 x3 h := by kernel_rfl

-- footman/footmanlaw25.LeakPrefix
noncomputable def F5_j1 (cf : CallF) (lf : Nat) : Fv 3 := fun v29 v30 v31 h32 =>
 bi .eql v31 (.i .i64 (.ofNat 0)) fun v33 =>
 vb v33 fun q34 => ifB q34 (
 cl (cf 12 [] h32) fun v35 h36 =>
 rt v35 h36) (
 o2 (buildSliceV prog 23 0 [] h32) fun v37 h38 =>
 o2 (sliceV prog 23 v29 none (some v31) none h38) fun v39 h40 =>
 o2 (appendV prog 23 23 v37 v39 h40) fun v41 h42 =>
 cv .i64 v30 fun v43 =>
 bi .rem v43 v31 fun v44 =>
 ix 3 v41 v44 fun v45 =>
 fa 2 v45 fun v46 =>
 ld v46 h42 fun v47 =>
 bi .add v47 (.i .u32 (.ofNat 1)) fun v48 =>
 ix 3 v41 v44 fun v49 =>
 fa 2 v49 fun v50 =>
 st 1 v50 v48 h42 fun h51 =>
 cl (cf 15 [v41, v29] h51) fun v52 h53 =>
 o1 (unV .not v52) fun v54 =>
 vb v54 fun q55 => ifB q55 (
 cl (cf 12 [] h53) fun v56 h57 =>
 rt v56 h57) (
 rt (.b false) h53))
noncomputable def F5 (cf : CallF) (lf : Nat) : Fv 4 := fun x0 x1 x2 x3 h =>
 lns x0 fun v1 =>
 bi .gtr v1 (.i .i64 (.ofNat 200)) fun v2 =>
 vb v2 fun q3 => ifB q3 (
 cl (cf 12 [] h) fun v4 h5 =>
 rt v4 h5) (
 cv .i64 x1 fun v6 =>
 lns x0 fun v7 =>
 bi .add v7 (.i .i64 (.ofNat 1)) fun v8 =>
 bi .rem v6 v8 fun v9 =>
 jn 3 (fun J10 =>
 o2 (sliceV prog 23 x0 none (some v9) none h) fun v11 h12 =>
 cl (cf 15 [v11, x0] h12) fun v13 h14 =>
 o1 (unV .not v13) fun v15 =>
 vb v15 fun q16 => ifB q16 (
 rt (.b false) h14) (
 o2 (buildSliceV prog 23 0 [] h14) fun v17 h18 =>
 o2 (appendV prog 23 23 v17 x0 h18) fun v19 h20 =>
 o1 (buildV prog 33 [(2, x3)]) fun v21 =>
 o2 (buildSliceV prog 23 1 [(0, v21)] h20) fun v22 h23 =>
 o2 (appendV prog 23 23 v19 v22 h23) fun v24 h25 =>
 cl (cf 15 [v24, x0] h25) fun v26 h27 =>
 vb v26 fun q28 => ifB q28 (
 rt (.b false) h27) (
 J10 x0 x2 v9 h27))) (F5_j1 cf lf))
def A5 : Ann := (.s (.r []) (.s (.s (.r []) (.s (.s (.r []) .z) .z)) (.s (.r []) (.j [0, 2, 9] (.s (.r [7]) (.s (.s (.r []) .z) .z)) (.s (.s (.r []) (.s (.s (.r []) .z) .z)) (.s (.r []) (.s (.r []) (.s (.r [5]) .z))))))))
theorem F5_eq (cf : CallF) (lf : Nat) (x0 : V) (x1 : V) (x2 : V) (x3 : V) (h : Heap) : bodyA prog 0 f5 (f5.body.getD .skip) A5 cf lf [x0, x1, x2, x3] h = F5 cf lf x0 x1 x2 x3 h := by kernel_rfl

-- footman/footmanlaw25.LeakLow
noncomputable def F8_j1 (cf : CallF) (lf : Nat) : Fv 2 := fun v18 v19 h20 =>
 ldn 4 v19 h20 fun v21 =>
 cln (cf 19 [v21, v18] (Heap.mk h20.next h20.t [])) fun v22 h23 =>
 fh (Heap.new h23 .dead) fun h24 =>
 let r25 : Rc := ⟨2, ⟨none, h23.wl.filter (fun x => Nat.blt x h20.next), h20.next, Nat.succ h23.next⟩, none, h20, h24⟩
 ldn 4 v19 h24 fun v26 =>
 let r27 : Rc := ⟨3, ⟨some (V.ids v19), [], h24.next, h24.next⟩, some (46, v19, v26), h24, h24⟩
 cln (cf 20 [v26, v18] (Heap.mk h24.next h24.t [])) fun v28 h29 =>
 fh (Heap.new h29 .dead) fun h30 =>
 let r31 : Rc := ⟨5, ⟨none, h29.wl.filter (fun x => Nat.blt x h24.next), h24.next, Nat.succ h29.next⟩, none, h24, h30⟩
 bn prog .eql 4 v22 v28 fun v32 =>
 vb v32 fun q33 => ifB q33 (
 cln (cf 12 [] (Heap.mk h30.next h30.t [])) fun v34 h35 =>
 fh (Heap.new h35 .dead) fun h36 =>
 let r37 : Rc := ⟨8, ⟨none, h35.wl.filter (fun x => Nat.blt x h30.next), h30.next, Nat.succ h35.next⟩, none, h30, h36⟩
 ifB (pc prog r25 r27) (
 fh (Heap.mk h36.next h36.t (wrR [r25, r27, r31, r37] ++ h20.wl)) fun h38 =>
 rt v34 h38) .fail) (
 ifB (pc prog r25 r27) (
 fh (Heap.mk h30.next h30.t (wrR [r25, r27, r31] ++ h20.wl)) fun h39 =>
 rt (.b false) h39) .fail)
noncomputable def F8 (cf : CallF) (lf : Nat) : Fv 2 := fun x0 x1 h =>
 al (V.cells x0) h fun v1 h2 =>
 jn 2 (fun J3 =>
 fa 2 v1 fun v4 =>
 ld v4 h2 fun v5 =>
 lns v5 fun v6 =>
 bi .gtr v6 (.i .i64 (.ofNat 60)) fun v7 =>
 vb v7 fun q8 => ifB q8 (
 cl (cf 12 [] h2) fun v9 h10 =>
 rt v9 h10) (
 fa 1 v1 fun v11 =>
 ld v11 h2 fun v12 =>
 lns v12 fun v13 =>
 bi .gtr v13 (.i .i64 (.ofNat 60)) fun v14 =>
 vb v14 fun q15 => ifB q15 (
 cl (cf 12 [] h2) fun v16 h17 =>
 rt v16 h17) (
 J3 x1 v1 h2))) (F8_j1 cf lf)
def A8 : Ann := (.s (.r []) (.j [1, 2] (.s (.r [5]) (.s (.s (.r []) .z) .z)) (.s (.d [8] [3] [0, 0, 3, 0, 0, 31, 63, 127, 255, 511, 1023]) .z)))
theorem F8_eq (cf : CallF) (lf : Nat) (x0 : V) (x1 : V) (h : Heap) : bodyA prog 0 f8 (f8.body.getD .skip) A8 cf lf [x0, x1] h = F8 cf lf x0 x1 h := by kernel_rfl

-- footman/footmanlaw25.LeakMadeLow
noncomputable def F9_j1 (cf : CallF) (lf : Nat) (S51 : Fv 9) : Fv 9 := fun v79 v80 v81 v82 v83 v84 v85 v86 v87 h88 =>
 fa 1 v80 fun v89 =>
 ld v89 h88 fun v90 =>
 ix 1 v90 v87 fun v91 =>
 ld v91 h88 fun v92 =>
 fa 2 v80 fun v93 =>
 ld v93 h88 fun v94 =>
 ix 5 v94 v84 fun v95 =>
 fa 2 v95 fun v96 =>
 ld v96 h88 fun v97 =>
 bs .eql v92 v97 fun v98 =>
 vb v98 fun q99 => ifB q99 (
 bi .add v87 (.i .i64 (.ofNat 1)) fun v100 =>
 S51 v79 v80 v81 v82 v83 v84 v85 v87 v100 h88) (
 bi .add v87 (.i .i64 (.ofNat 1)) fun v101 =>
 S51 v79 v80 v81 v82 v83 v84 v85 v86 v101 h88)
noncomputable def F9_b2 (cf : CallF) (lf : Nat) (S38 : Fv 6) : Fv 9 → Fv 9 := fun S51 v52 v53 v54 v55 v56 v57 v58 v59 v60 h61 =>
 fa 1 v53 fun v62 =>
 ld v62 h61 fun v63 =>
 lns v63 fun v64 =>
 bi .lss v60 v64 fun v65 =>
 vb v65 fun q66 => ifB q66 (
 jn 9 (fun J67 =>
 fa 1 v53 fun v68 =>
 ld v68 h61 fun v69 =>
 ix 1 v69 v60 fun v70 =>
 ld v70 h61 fun v71 =>
 fa 2 v53 fun v72 =>
 ld v72 h61 fun v73 =>
 ix 5 v73 v57 fun v74 =>
 fa 1 v74 fun v75 =>
 ld v75 h61 fun v76 =>
 bs .eql v71 v76 fun v77 =>
 vb v77 fun q78 => ifB q78 (
 J67 v52 v53 v54 v55 v56 v57 v60 v59 v60 h61) (
 J67 v52 v53 v54 v55 v56 v57 v58 v59 v60 h61)) (F9_j1 cf lf S51)) (
 bi .geq v58 (.i .i64 (.ofNat 0)) fun v102 =>
 vb v102 fun q103 => ifB q103 (
 bi .geq v59 (.i .i64 (.ofNat 0)) fun v104 =>
 vb v104 fun q105 => ifB q105 (
 lns v52 fun v106 =>
 bi .lss v58 v106 fun v107 =>
 vb v107 fun q108 => ifB q108 (
 ix 1 v52 v58 fun v109 =>
 ld v109 h61 fun v110 =>
 vb v110 fun q111 => ifB q111 (
 lns v52 fun v112 =>
 bi .geq v59 v112 fun v113 =>
 vb v113 fun q114 => ifB q114 (
 fa 2 v53 fun v115 =>
 ld v115 h61 fun v116 =>
 ix 5 v116 v57 fun v117 =>
 fa 4 v117 fun v118 =>
 ld v118 h61 fun v119 =>
 vb v119 fun q120 => ifB q120 (
 bi .add v57 (.i .i64 (.ofNat 1)) fun v121 =>
 S38 v52 v53 v54 v55 (.b false) v121 h61) (
 bi .add v57 (.i .i64 (.ofNat 1)) fun v122 =>
 S38 v52 v53 v54 v55 v56 v122 h61)) (
 ix 1 v52 v59 fun v123 =>
 ld v123 h61 fun v124 =>
 o1 (unV .not v124) fun v125 =>
 vb v125 fun q126 => ifB q126 (
 fa 2 v53 fun v127 =>
 ld v127 h61 fun v128 =>
 ix 5 v128 v57 fun v129 =>
 fa 4 v129 fun v130 =>
 ld v130 h61 fun v131 =>
 vb v131 fun q132 => ifB q132 (
 bi .add v57 (.i .i64 (.ofNat 1)) fun v133 =>
 S38 v52 v53 v54 v55 (.b false) v133 h61) (
 bi .add v57 (.i .i64 (.ofNat 1)) fun v134 =>
 S38 v52 v53 v54 v55 v56 v134 h61)) (
 bi .add v57 (.i .i64 (.ofNat 1)) fun v135 =>
 S38 v52 v53 v54 v55 v56 v135 h61))) (
 bi .add v57 (.i .i64 (.ofNat 1)) fun v136 =>
 S38 v52 v53 v54 v55 v56 v136 h61)) (
 bi .add v57 (.i .i64 (.ofNat 1)) fun v137 =>
 S38 v52 v53 v54 v55 v56 v137 h61)) (
 bi .add v57 (.i .i64 (.ofNat 1)) fun v138 =>
 S38 v52 v53 v54 v55 v56 v138 h61)) (
 bi .add v57 (.i .i64 (.ofNat 1)) fun v139 =>
 S38 v52 v53 v54 v55 v56 v139 h61))
noncomputable def F9_b3 (cf : CallF) (lf : Nat) : Fv 6 → Fv 6 := fun S38 v39 v40 v41 v42 v43 v44 h45 =>
 fa 2 v40 fun v46 =>
 ld v46 h45 fun v47 =>
 lns v47 fun v48 =>
 bi .lss v44 v48 fun v49 =>
 vb v49 fun q50 => ifB q50 (
 loop 9 lf (F9_b2 cf lf S38) v39 v40 v41 v42 v43 v44 (.i .i64 (.negSucc 0)) (.i .i64 (.negSucc 0)) (.i .i64 (.ofNat 0)) h45) (
 ldn 4 v40 h45 fun v140 =>
 cl (cf 19 [v140, v39] h45) fun v141 h142 =>
 bn prog .eql 4 v141 v43 fun v143 =>
 vb v143 fun q144 => ifB q144 (
 ldn 4 v40 h142 fun v145 =>
 cl (cf 19 [v145, v41] h142) fun v146 h147 =>
 vb v146 fun q148 => ifB q148 (
 ldn 4 v40 h147 fun v149 =>
 cl (cf 19 [v149, (.sl none 0 0 true)] h147) fun v150 h151 =>
 vb v150 fun q152 => ifB q152 (
 ldn 4 v42 h151 fun v153 =>
 cl (cf 19 [v153, v39] h151) fun v154 h155 =>
 vb v154 fun q156 => ifB q156 (
 cl (cf 12 [] h155) fun v157 h158 =>
 rt v157 h158) (
 rt (.b false) h155)) (
 rt (.b false) h151)) (
 rt (.b false) h147)) (
 rt (.b false) h142))
noncomputable def F9_b4 (cf : CallF) (lf : Nat) : Fv 5 → Fv 5 := fun S20 v21 v22 v23 v24 v25 h26 =>
 fa 2 v24 fun v27 =>
 ld v27 h26 fun v28 =>
 lns v28 fun v29 =>
 bi .lss v25 v29 fun v30 =>
 vb v30 fun q31 => ifB q31 (
 fa 2 v24 fun v32 =>
 ld v32 h26 fun v33 =>
 ix 5 v33 v25 fun v34 =>
 fa 4 v34 fun v35 =>
 st 1 v35 (.b false) h26 fun h36 =>
 bi .add v25 (.i .i64 (.ofNat 1)) fun v37 =>
 S20 v21 v22 v23 v24 v37 h36) (
 loop 6 lf (F9_b3 cf lf) v21 v22 v23 v24 (.b true) (.i .i64 (.ofNat 0)) h26)
noncomputable def F9 (cf : CallF) (lf : Nat) : Fv 2 := fun x0 x1 h =>
 cl (cf 21 [x0] h) fun v1 h2 =>
 al (zl prog 46) h2 fun v3 h4 =>
 st 4 v3 v1 h4 fun h5 =>
 o2 (buildSliceV prog 47 8 [(0, (.b true)), (1, (.b true)), (2, (.b true)), (3, (.b true)), (4, (.b true)), (5, (.b true)), (6, (.b true)), (7, (.b true))] h5) fun v6 h7 =>
 ldn 4 v3 h7 fun v8 =>
 al (zl prog 46) h7 fun v9 h10 =>
 st 4 v9 v8 h10 fun h11 =>
 o2 (buildSliceV prog 43 0 [] h11) fun v12 h13 =>
 fa 2 v3 fun v14 =>
 ld v14 h13 fun v15 =>
 o2 (appendV prog 43 43 v12 v15 h13) fun v16 h17 =>
 fa 2 v9 fun v18 =>
 st 1 v18 v16 h17 fun h19 =>
 loop 5 lf (F9_b4 cf lf) x1 v3 v6 v9 (.i .i64 (.ofNat 0)) h19
def A9 : Ann := (.s (.r []) (.s (.r []) (.s (.r []) (.s (.r []) (.s (.r []) (.s (.s (.r []) (.b (.l [1, 5, 6, 7, 8] (.s (.s (.r []) (.s .z .z)) (.s (.b (.r [])) (.r [])))))) (.s (.r []) (.s (.s (.r []) (.b (.l [1, 5, 6, 7, 9, 10] (.s (.s (.r []) (.s .z .z)) (.s (.b (.s (.r []) (.s (.s (.r []) (.b (.l [1, 5, 6, 7, 9, 10, 11, 12, 13] (.s (.s (.r []) (.s .z .z)) (.s (.b (.j [1, 5, 6, 7, 9, 10, 11, 12, 13] (.s (.d [] [] [0, 1, 0, 7, 15, 0, 32, 0, 224, 480, 992, 2047]) (.s (.r []) .z)) (.s (.d [] [] [0, 1, 0, 7, 15, 0, 32, 0, 224, 480, 992, 2047]) (.s (.r []) .z)))) (.r [])))))) (.s (.r [3, 7, 13, 19, 24, 29, 32]) (.s (.r []) .z))))) (.r [])))))) (.s (.r [6, 11, 15, 20]) .z)))))))))
theorem F9_eq (cf : CallF) (lf : Nat) (x0 : V) (x1 : V) (h : Heap) : bodyA prog 0 f9 (f9.body.getD .skip) A9 cf lf [x0, x1] h = F9 cf lf x0 x1 h := by kernel_rfl

-- footman/footmanlaw25.awake
noncomputable def F12 (cf : CallF) (lf : Nat) : Fv 0 := fun h =>
 cl (cf 13 [(.sl none 0 0 true), (.sl none 0 0 true)] h) fun v1 h2 =>
 bi .eql v1 (.i .i64 (.negSucc 0)) fun v3 =>
 vb v3 fun q4 => ifB q4 (
 o1 (buildV prog 30 [(0, (.i .u32 (.ofNat 4)))]) fun v5 =>
 o2 (buildSliceV prog 22 1 [(0, v5)] h2) fun v6 h7 =>
 cl (cf 13 [v6, (.sl none 0 0 true)] h7) fun v8 h9 =>
 bi .eql v8 (.i .i64 (.ofNat 0)) fun v10 =>
 vb v10 fun q11 => ifB q11 (
 o1 (buildV prog 33 []) fun v12 =>
 o2 (buildSliceV prog 23 1 [(0, v12)] h9) fun v13 h14 =>
 cl (cf 15 [(.sl none 0 0 true), v13] h14) fun v15 h16 =>
 vb v15 fun q17 => ifB q17 (
 o1 (buildV prog 33 []) fun v18 =>
 o2 (buildSliceV prog 23 1 [(0, v18)] h16) fun v19 h20 =>
 cl (cf 15 [v19, (.sl none 0 0 true)] h20) fun v21 h22 =>
 o1 (unV .not v21) fun v23 =>
 rt v23 h22) (
 rt (.b false) h16)) (
 rt (.b false) h9)) (
 rt (.b false) h2)
def A12 : Ann := (.s (.r []) (.s (.r [3, 9, 14]) .z))
theorem F12_eq (cf : CallF) (lf : Nat) (h : Heap) : bodyA prog 0 f12 (f12.body.getD .skip) A12 cf lf [] h = F12 cf lf h := by kernel_rfl

-- footman/leak.Differ
noncomputable def F13_b1 (cf : CallF) (lf : Nat) : Fv 5 → Fv 5 := fun S4 v5 v6 v7 v8 v9 h10 =>
 bi .lss v9 v8 fun v11 =>
 vb v11 fun q12 => ifB q12 (
 o2 (makeMapV prog 68 none h10) fun v13 h14 =>
 ix 3 v5 v9 fun v15 =>
 ldn 3 v15 h14 fun v16 =>
 oh (mapUpdateV prog 68 v13 v16 (.b true) h14) fun h17 =>
 ix 3 v6 v9 fun v18 =>
 ldn 3 v18 h17 fun v19 =>
 o1 (lookupV prog 68 v13 v19 false h17) fun v20 =>
 o1 (unV .not v20) fun v21 =>
 vb v21 fun q22 => ifB q22 (
 rt v9 h17) (
 bi .add v9 (.i .i64 (.ofNat 1)) fun v23 =>
 S4 v5 v6 v7 v8 v23 h17)) (
 lns v5 fun v24 =>
 lns v6 fun v25 =>
 bi .neq v24 v25 fun v26 =>
 vb v26 fun q27 => ifB q27 (
 rt v7 h10) (
 rt (.i .i64 (.negSucc 0)) h10))
noncomputable def F13 (cf : CallF) (lf : Nat) : Fv 2 := fun x0 x1 h =>
 lns x0 fun v1 =>
 lns x1 fun v2 =>
 o1 (minmaxV ilt [v1, v2]) fun v3 =>
 loop 5 lf (F13_b1 cf lf) x0 x1 v3 v3 (.i .i64 (.ofNat 0)) h
def A13 : Ann := (.s (.r []) (.s (.r []) (.s (.s (.r []) (.b (.l [0, 1, 5, 13, 14] (.s (.r []) (.s (.s .z .z) (.s (.b (.s (.r []) (.s (.r []) (.s (.r []) (.s (.s (.r []) .z) .z))))) (.r []))))))) (.s (.s (.r []) (.s (.s (.r []) .z) .z)) (.s (.r []) .z)))))
theorem F13_eq (cf : CallF) (lf : Nat) (x0 : V) (x1 : V) (h : Heap) : bodyA prog 0 f13 (f13.body.getD .skip) A13 cf lf [x0, x1] h = F13 cf lf x0 x1 h := by kernel_rfl

-- footman/footmanref6.Differ
noncomputable def F14_j1 (cf : CallF) (lf : Nat) (S2 : Fv 3) : Fv 3 := fun v14 v15 v16 h17 =>
 ix 3 v14 v16 fun v18 =>
 ldn 3 v18 h17 fun v19 =>
 ix 3 v15 v16 fun v20 =>
 ldn 3 v20 h17 fun v21 =>
 bn prog .neq 30 v19 v21 fun v22 =>
 vb v22 fun q23 => ifB q23 (
 rt v16 h17) (
 bi .add v16 (.i .i64 (.ofNat 1)) fun v24 =>
 S2 v14 v15 v24 h17)
noncomputable def F14_b2 (cf : CallF) (lf : Nat) (J1 : Fv 2) : Fv 3 → Fv 3 := fun S2 v3 v4 v5 h6 =>
 jn 3 (fun J7 =>
 lns v3 fun v8 =>
 bi .lss v5 v8 fun v9 =>
 vb v9 fun q10 => ifB q10 (
 lns v4 fun v11 =>
 bi .lss v5 v11 fun v12 =>
 vb v12 fun q13 => ifB q13 (
 J7 v3 v4 v5 h6) (
 J1 v3 v4 h6)) (
 J1 v3 v4 h6)) (F14_j1 cf lf S2)
noncomputable def F14_j3 (cf : CallF) (lf : Nat) : Fv 2 := fun v25 v26 h27 =>
 lns v25 fun v28 =>
 lns v26 fun v29 =>
 bi .eql v28 v29 fun v30 =>
 vb v30 fun q31 => ifB q31 (
 rt (.i .i64 (.negSucc 0)) h27) (
 lns v25 fun v32 =>
 lns v26 fun v33 =>
 o1 (minmaxV ilt [v32, v33]) fun v34 =>
 rt v34 h27)
noncomputable def F14 (cf : CallF) (lf : Nat) : Fv 2 := fun x0 x1 h =>
 jn 2 (fun J1 =>
 loop 3 lf (F14_b2 cf lf J1) x0 x1 (.i .i64 (.ofNat 0)) h) (F14_j3 cf lf)
def A14 : Ann := (.s (.r []) (.j [0, 1] (.s (.r []) (.b (.l [0, 1, 5] (.j [0, 1, 5] (.s (.r [5]) (.s .z .z)) (.s (.b (.s (.d [] [] [0, 0, 3, 7, 0, 0, 48, 112, 255]) (.s (.s (.r []) .z) .z))) (.r [])))))) (.s (.s (.r []) (.s (.s (.r []) .z) .z)) (.s (.r []) .z))))
theorem F14_eq (cf : CallF) (lf : Nat) (x0 : V) (x1 : V) (h : Heap) : bodyA prog 0 f14 (f14.body.getD .skip) A14 cf lf [x0, x1] h = F14 cf lf x0 x1 h := by kernel_rfl

-- footman/leak.Prefix
noncomputable def F15 (cf : CallF) (lf : Nat) : Fv 2 := fun x0 x1 h =>
 lns x0 fun v1 =>
 lns x1 fun v2 =>
 bi .leq v1 v2 fun v3 =>
 vb v3 fun q4 => ifB q4 (
 lns x0 fun v5 =>
 o2 (sliceV prog 23 x1 none (some v5) none h) fun v6 h7 =>
 cl (cf 30 [x0, v6] h7) fun v8 h9 =>
 rt v8 h9) (
 rt (.b false) h)
def A15 : Ann := (.s (.r []) (.s (.r [6]) .z))
theorem F15_eq (cf : CallF) (lf : Nat) (x0 : V) (x1 : V) (h : Heap) : bodyA prog 0 f15 (f15.body.getD .skip) A15 cf lf [x0, x1] h = F15 cf lf x0 x1 h := by kernel_rfl

-- footman/footmanref24.Prefix
noncomputable def F16 (cf : CallF) (lf : Nat) : Fv 2 := fun x0 x1 h =>
 lns x0 fun v1 =>
 lns x1 fun v2 =>
 bi .leq v1 v2 fun v3 =>
 vb v3 fun q4 => ifB q4 (
 lns x0 fun v5 =>
 o2 (sliceV prog 23 x1 none (some v5) none h) fun v6 h7 =>
 cl (cf 31 [x0, v6] h7) fun v8 h9 =>
 rt v8 h9) (
 rt (.b false) h)
def A16 : Ann := (.s (.r []) (.s (.r [6]) .z))
theorem F16_eq (cf : CallF) (lf : Nat) (x0 : V) (x1 : V) (h : Heap) : bodyA prog 0 f16 (f16.body.getD .skip) A16 cf lf [x0, x1] h = F16 cf lf x0 x1 h := by kernel_rfl

-- footman/leak.Low
noncomputable def F19 (cf : CallF) (lf : Nat) : Fv 2 := fun x0 x1 h =>
 al (V.cells x0) h fun v1 h2 =>
 al (V.cells x1) h2 fun v3 h4 =>
 fa 2 v1 fun v5 =>
 ld v5 h4 fun v6 =>
 cl (cf 33 [v6, (.f (.func 34) [] [v1, v3])] h4) fun v7 h8 =>
 o1 (unV .not v7) fun v9 =>
 rt v9 h8
def A19 : Ann := (.s (.r []) (.s (.r []) .z))
theorem F19_eq (cf : CallF) (lf : Nat) (x0 : V) (x1 : V) (h : Heap) : bodyA prog 0 f19 (f19.body.getD .skip) A19 cf lf [x0, x1] h = F19 cf lf x0 x1 h := by kernel_rfl

-- footman/footmanref24.Low
noncomputable def F20_j1 (cf : CallF) (lf : Nat) (S3 : Fv 3) : Fv 6 := fun v61 v62 v63 v64 v65 v66 h67 =>
 vb v65 fun q68 => ifB q68 (
 vb v66 fun q69 => ifB q69 (
 fa 4 v64 fun v70 =>
 ld v70 h67 fun v71 =>
 vb v71 fun q72 => ifB q72 (
 rt (.b false) h67) (
 bi .add v63 (.i .i64 (.ofNat 1)) fun v73 =>
 S3 v61 v62 v73 h67)) (
 bi .add v63 (.i .i64 (.ofNat 1)) fun v74 =>
 S3 v61 v62 v74 h67)) (
 bi .add v63 (.i .i64 (.ofNat 1)) fun v75 =>
 S3 v61 v62 v75 h67)
noncomputable def F20_j2 (cf : CallF) (lf : Nat) (S3 : Fv 3) : Fv 6 := fun v45 v46 v47 v48 v49 v50 h51 =>
 jn 6 (fun J52 =>
 bi .geq v49 (.i .i64 (.ofNat 0)) fun v53 =>
 vb v53 fun q54 => ifB q54 (
 lns v45 fun v55 =>
 bi .geq v49 v55 fun v56 =>
 vb v56 fun q57 => ifB q57 (
 J52 v45 v46 v47 v48 v50 (.b true) h51) (
 ix 1 v45 v49 fun v58 =>
 ld v58 h51 fun v59 =>
 o1 (unV .not v59) fun v60 =>
 J52 v45 v46 v47 v48 v50 v60 h51)) (
 J52 v45 v46 v47 v48 v50 (.b false) h51)) (F20_j1 cf lf S3)
noncomputable def F20_b3 (cf : CallF) (lf : Nat) : Fv 3 → Fv 3 := fun S3 v4 v5 v6 h7 =>
 fa 2 v5 fun v8 =>
 ld v8 h7 fun v9 =>
 lns v9 fun v10 =>
 bi .lss v6 v10 fun v11 =>
 vb v11 fun q12 => ifB q12 (
 fa 2 v5 fun v13 =>
 ld v13 h7 fun v14 =>
 ix 5 v14 v6 fun v15 =>
 ldn 5 v15 h7 fun v16 =>
 al (zl prog 52) h7 fun v17 h18 =>
 st 5 v17 v16 h18 fun h19 =>
 ldn 4 v5 h19 fun v20 =>
 fa 1 v17 fun v21 =>
 ld v21 h19 fun v22 =>
 cln (cf 36 [v20, v22] (Heap.mk h19.next h19.t [])) fun v23 h24 =>
 fh (Heap.new h24 .dead) fun h25 =>
 let r26 : Rc := ⟨3, ⟨none, h24.wl.filter (fun x => Nat.blt x h19.next), h19.next, Nat.succ h24.next⟩, none, h19, h25⟩
 ldn 4 v5 h25 fun v27 =>
 let r28 : Rc := ⟨4, ⟨some (V.ids v5), [], h25.next, h25.next⟩, some (46, v5, v27), h25, h25⟩
 fa 2 v17 fun v29 =>
 ld v29 h25 fun v30 =>
 let r31 : Rc := ⟨6, ⟨some (V.ids v29), [], h25.next, h25.next⟩, some (9, v29, v30), h25, h25⟩
 cln (cf 36 [v27, v30] (Heap.mk h25.next h25.t [])) fun v32 h33 =>
 fh (Heap.new h33 .dead) fun h34 =>
 let r35 : Rc := ⟨7, ⟨none, h33.wl.filter (fun x => Nat.blt x h25.next), h25.next, Nat.succ h33.next⟩, none, h25, h34⟩
 ifB (pc prog r26 r28) (
 ifB (pc prog r26 r31) (
 ifB (pc prog r28 r31) (
 fh (Heap.mk h34.next h34.t (wrR [r26, r28, r31, r35] ++ h19.wl)) fun h36 =>
 jn 6 (fun J37 =>
 bi .geq v23 (.i .i64 (.ofNat 0)) fun v38 =>
 vb v38 fun q39 => ifB q39 (
 lns v4 fun v40 =>
 bi .lss v23 v40 fun v41 =>
 vb v41 fun q42 => ifB q42 (
 ix 1 v4 v23 fun v43 =>
 ld v43 h36 fun v44 =>
 J37 v4 v5 v6 v17 v32 v44 h36) (
 J37 v4 v5 v6 v17 v32 (.b false) h36)) (
 J37 v4 v5 v6 v17 v32 (.b false) h36)) (F20_j2 cf lf S3)) .fail) .fail) .fail) (
 rt (.b true) h7)
noncomputable def F20 (cf : CallF) (lf : Nat) : Fv 2 := fun x0 x1 h =>
 al (V.cells x0) h fun v1 h2 =>
 loop 3 lf (F20_b3 cf lf) x1 v1 (.i .i64 (.ofNat 0)) h2
def A20 : Ann := (.s (.r []) (.s (.s (.r []) (.b (.l [1, 2, 5] (.s (.s (.r []) (.s .z .z)) (.s (.b (.s (.r []) (.s (.d [] [4, 6] [0, 0, 2, 7, 0, 0, 32, 127, 255, 511]) (.j [1, 2, 5, 6, 8, 9] (.r [3, 9]) (.j [1, 2, 5, 6, 9, 10] (.r [3, 8, 13]) (.s (.r [2, 5]) (.s (.s (.r []) .z) .z))))))) (.r [])))))) (.s (.r []) .z)))
theorem F20_eq (cf : CallF) (lf : Nat) (x0 : V) (x1 : V) (h : Heap) : bodyA prog 0 f20 (f20.body.getD .skip) A20 cf lf [x0, x1] h = F20 cf lf x0 x1 h := by kernel_rfl

-- footman/footmanlaw11.Manifest
noncomputable def F21_b1 (cf : CallF) (lf : Nat) : Fv 6 → Fv 6 := fun S118 v119 v120 v121 v122 v123 v124 h125 =>
 bi .lss v124 v122 fun v126 =>
 vb v126 fun q127 => ifB q127 (
 cl (cf 37 [v120, (.i .i64 (.ofNat 2))] h125) fun v128 h129 =>
 bi .eql v128 (.i .i64 (.ofNat 0)) fun v130 =>
 vb v130 fun q131 => ifB q131 (
 fa 3 v121 fun v132 =>
 ld v132 h129 fun v133 =>
 let r134 : Rc := ⟨1, ⟨some (V.ids v132), [], h129.next, h129.next⟩, some (44, v132, v133), h129, h129⟩
 cln (cf 38 [v124] (Heap.mk h129.next h129.t [])) fun v135 h136 =>
 fh (Heap.new h136 .dead) fun h137 =>
 let r138 : Rc := ⟨3, ⟨none, h136.wl.filter (fun x => Nat.blt x h129.next), h129.next, Nat.succ h136.next⟩, none, h129, h137⟩
 bs .add (.s ⟨1, 107⟩) v135 fun v139 =>
 ix 1 v123 v124 fun v140 =>
 ld v140 h137 fun v141 =>
 let r142 : Rc := ⟨8, ⟨some (V.ids v140), [], h137.next, h137.next⟩, some (9, v140, v141), h137, h137⟩
 o1 (buildV prog 81 [(0, v139), (1, v141)]) fun v143 =>
 o2 (buildSliceV prog 44 1 [(0, v143)] (Heap.mk h137.next h137.t [])) fun v144 h145 =>
 fh (Heap.new h145 .dead) fun h146 =>
 let r147 : Rc := ⟨10, ⟨(some (List.flatMap V.ids [])), h145.wl.filter (fun x => Nat.blt x h137.next), h137.next, Nat.succ h145.next⟩, none, h137, h146⟩
 o2 (appendV prog 44 44 v133 v144 (Heap.mk h146.next h146.t [])) fun v148 h149 =>
 fh (Heap.new h149 .dead) fun h150 =>
 let r151 : Rc := ⟨11, ⟨(some (List.flatMap V.ids [v133, v144])), h149.wl.filter (fun x => Nat.blt x h146.next), h146.next, Nat.succ h149.next⟩, none, h146, h150⟩
 fa 3 v121 fun v152 =>
 st 1 v152 v148 (Heap.mk h150.next h150.t []) fun h153 =>
 fh (Heap.new h153 .dead) fun h154 =>
 let r155 : Rc := ⟨13, ⟨(some (List.flatMap V.ids [v152])), h153.wl.filter (fun x => Nat.blt x h150.next), h150.next, Nat.succ h153.next⟩, none, h150, h154⟩
 ifB (pc prog r134 r138) (
 ifB (pc prog r134 r142) (
 ifB (pc prog r134 r147) (
 ifB (pc prog r138 r142) (
 fh (Heap.mk h154.next h154.t (wrR [r134, r138, r142, r147, r151, r155] ++ h129.wl)) fun h156 =>
 bi .add v124 (.i .i64 (.ofNat 1)) fun v157 =>
 S118 v119 v120 v121 v122 v123 v157 h156) .fail) .fail) .fail) .fail) (
 bi .add v124 (.i .i64 (.ofNat 1)) fun v158 =>
 S118 v119 v120 v121 v122 v123 v158 h129)) (
 ldn 4 v121 h125 fun v159 =>
 st 4 v119 v159 h125 fun h160 =>
 ldn 4 v119 h160 fun v161 =>
 rt v161 h160)
noncomputable def F21_b2 (cf : CallF) (lf : Nat) : Fv 7 → Fv 7 := fun S60 v61 v62 v63 v64 v65 v66 v67 h68 =>
 bi .lss v67 v66 fun v69 =>
 vb v69 fun q70 => ifB q70 (
 cl (cf 37 [v62, v64] h68) fun v71 h72 =>
 bi .add v71 (.i .i64 (.ofNat 1)) fun v73 =>
 bi .sub v64 (.i .i64 (.ofNat 1)) fun v74 =>
 cl (cf 37 [v62, v74] h72) fun v75 h76 =>
 bi .add v73 v75 fun v77 =>
 bi .rem v77 v64 fun v78 =>
 fa 2 v63 fun v79 =>
 ld v79 h76 fun v80 =>
 let r81 : Rc := ⟨1, ⟨some (V.ids v79), [], h76.next, h76.next⟩, some (43, v79, v80), h76, h76⟩
 cln (cf 38 [v67] (Heap.mk h76.next h76.t [])) fun v82 h83 =>
 fh (Heap.new h83 .dead) fun h84 =>
 let r85 : Rc := ⟨3, ⟨none, h83.wl.filter (fun x => Nat.blt x h76.next), h76.next, Nat.succ h83.next⟩, none, h76, h84⟩
 bs .add (.s ⟨1, 109⟩) v82 fun v86 =>
 ix 1 v65 v71 fun v87 =>
 ld v87 h84 fun v88 =>
 let r89 : Rc := ⟨8, ⟨some (V.ids v87), [], h84.next, h84.next⟩, some (9, v87, v88), h84, h84⟩
 ix 1 v65 v78 fun v90 =>
 ld v90 h84 fun v91 =>
 let r92 : Rc := ⟨12, ⟨some (V.ids v90), [], h84.next, h84.next⟩, some (9, v90, v91), h84, h84⟩
 cln (cf 37 [v62, (.i .i64 (.ofNat 3))] (Heap.mk h84.next h84.t [])) fun v93 h94 =>
 fh (Heap.new h94 .dead) fun h95 =>
 let r96 : Rc := ⟨14, ⟨none, h94.wl.filter (fun x => Nat.blt x h84.next), h84.next, Nat.succ h94.next⟩, none, h84, h95⟩
 bi .add (.i .i64 (.ofNat 1)) v93 fun v97 =>
 cln (cf 37 [v62, (.i .i64 (.ofNat 2))] (Heap.mk h95.next h95.t [])) fun v98 h99 =>
 fh (Heap.new h99 .dead) fun h100 =>
 let r101 : Rc := ⟨17, ⟨none, h99.wl.filter (fun x => Nat.blt x h95.next), h95.next, Nat.succ h99.next⟩, none, h95, h100⟩
 bi .eql v98 (.i .i64 (.ofNat 0)) fun v102 =>
 o1 (buildV prog 52 [(0, v86), (1, v88), (2, v91), (3, v97), (4, v102)]) fun v103 =>
 o2 (buildSliceV prog 43 1 [(0, v103)] (Heap.mk h100.next h100.t [])) fun v104 h105 =>
 fh (Heap.new h105 .dead) fun h106 =>
 let r107 : Rc := ⟨20, ⟨(some (List.flatMap V.ids [])), h105.wl.filter (fun x => Nat.blt x h100.next), h100.next, Nat.succ h105.next⟩, none, h100, h106⟩
 o2 (appendV prog 43 43 v80 v104 (Heap.mk h106.next h106.t [])) fun v108 h109 =>
 fh (Heap.new h109 .dead) fun h110 =>
 let r111 : Rc := ⟨21, ⟨(some (List.flatMap V.ids [v80, v104])), h109.wl.filter (fun x => Nat.blt x h106.next), h106.next, Nat.succ h109.next⟩, none, h106, h110⟩
 fa 2 v63 fun v112 =>
 st 1 v112 v108 (Heap.mk h110.next h110.t []) fun h113 =>
 fh (Heap.new h113 .dead) fun h114 =>
 let r115 : Rc := ⟨23, ⟨(some (List.flatMap V.ids [v112])), h113.wl.filter (fun x => Nat.blt x h110.next), h110.next, Nat.succ h113.next⟩, none, h110, h114⟩
 ifB (pc prog r81 r85) (
 ifB (pc prog r81 r89) (
 ifB (pc prog r81 r92) (
 ifB (pc prog r81 r96) (
 ifB (pc prog r81 r101) (
 ifB (pc prog r81 r107) (
 ifB (pc prog r85 r89) (
 ifB (pc prog r85 r92) (
 ifB (pc prog r89 r92) (
 ifB (pc prog r89 r96) (
 ifB (pc prog r89 r101) (
 ifB (pc prog r92 r96) (
 ifB (pc prog r92 r101) (
 fh (Heap.mk h114.next h114.t (wrR [r81, r85, r89, r92, r96, r101, r107, r111, r115] ++ h76.wl)) fun h116 =>
 bi .add v67 (.i .i64 (.ofNat 1)) fun v117 =>
 S60 v61 v62 v63 v64 v65 v66 v117 h116) .fail) .fail) .fail) .fail) .fail) .fail) .fail) .fail) .fail) .fail) .fail) .fail) .fail) (
 loop 6 lf (F21_b1 cf lf) v61 v62 v63 v64 v65 (.i .i64 (.ofNat 0)) h68)
noncomputable def F21_j3 (cf : CallF) (lf : Nat) : Fv 6 := fun v53 v54 v55 v56 v57 v58 h59 =>
 loop 7 lf (F21_b2 cf lf) v53 v54 v55 v56 v57 v58 (.i .i64 (.ofNat 0)) h59
noncomputable def F21_b4 (cf : CallF) (lf : Nat) : Fv 6 → Fv 6 := fun S19 v20 v21 v22 v23 v24 v25 h26 =>
 bi .lss v25 v23 fun v27 =>
 vb v27 fun q28 => ifB q28 (
 fa 1 v22 fun v29 =>
 ld v29 h26 fun v30 =>
 let r31 : Rc := ⟨1, ⟨some (V.ids v29), [], h26.next, h26.next⟩, some (42, v29, v30), h26, h26⟩
 ix 1 v24 v25 fun v32 =>
 ld v32 h26 fun v33 =>
 o2 (buildSliceV prog 42 1 [(0, v33)] (Heap.mk h26.next h26.t [])) fun v34 h35 =>
 fh (Heap.new h35 .dead) fun h36 =>
 let r37 : Rc := ⟨6, ⟨(some (List.flatMap V.ids [])), h35.wl.filter (fun x => Nat.blt x h26.next), h26.next, Nat.succ h35.next⟩, none, h26, h36⟩
 o2 (appendV prog 42 42 v30 v34 (Heap.mk h36.next h36.t [])) fun v38 h39 =>
 fh (Heap.new h39 .dead) fun h40 =>
 let r41 : Rc := ⟨7, ⟨(some (List.flatMap V.ids [v30, v34])), h39.wl.filter (fun x => Nat.blt x h36.next), h36.next, Nat.succ h39.next⟩, none, h36, h40⟩
 fa 1 v22 fun v42 =>
 st 1 v42 v38 (Heap.mk h40.next h40.t []) fun h43 =>
 fh (Heap.new h43 .dead) fun h44 =>
 let r45 : Rc := ⟨9, ⟨(some (List.flatMap V.ids [v42])), h43.wl.filter (fun x => Nat.blt x h40.next), h40.next, Nat.succ h43.next⟩, none, h40, h44⟩
 ifB (pc prog r31 r37) (
 fh (Heap.mk h44.next h44.t (wrR [r31, r37, r41, r45] ++ h26.wl)) fun h46 =>
 bi .add v25 (.i .i64 (.ofNat 1)) fun v47 =>
 S19 v20 v21 v22 v23 v24 v47 h46) .fail) (
 cl (cf 37 [v21, (.i .i64 (.ofNat 6))] h26) fun v48 h49 =>
 jn 6 (fun J50 =>
 bi .eql v23 (.i .i64 (.ofNat 1)) fun v51 =>
 vb v51 fun q52 => ifB q52 (
 J50 v20 v21 v22 v23 v24 (.i .i64 (.ofNat 0)) h49) (
 J50 v20 v21 v22 v23 v24 v48 h49)) (F21_j3 cf lf))
noncomputable def F21 (cf : CallF) (lf : Nat) : Fv 1 := fun x0 h =>
 al (zl prog 46) h fun v1 h2 =>
 o1 (buildV prog 77 [(0, x0)]) fun v3 =>
 al (V.cells v3) h2 fun v4 h5 =>
 cl (cf 37 [v4, (.i .i64 (.ofNat 30))] h5) fun v6 h7 =>
 bi .mul (.i .i64 (.ofNat 50)) v6 fun v8 =>
 bi .add (.i .i64 (.ofNat 400)) v8 fun v9 =>
 o1 (buildV prog 46 [(0, v9)]) fun v10 =>
 al (zl prog 46) h7 fun v11 h12 =>
 st 4 v11 v10 h12 fun h13 =>
 cl (cf 37 [v4, (.i .i64 (.ofNat 4))] h13) fun v14 h15 =>
 bi .add (.i .i64 (.ofNat 1)) v14 fun v16 =>
 o2 (buildSliceV prog 42 4 [(0, (.s ⟨5, 435459550305⟩)), (1, (.s ⟨3, 6451042⟩)), (2, (.s ⟨5, 465726234979⟩)), (3, (.s ⟨3, 7233892⟩))] h15) fun v17 h18 =>
 loop 6 lf (F21_b4 cf lf) v1 v4 v11 v16 v17 (.i .i64 (.ofNat 0)) h18
def A21 : Ann := (.s (.r []) (.s (.r []) (.s (.r []) (.s (.r []) (.s (.r []) (.s (.s (.r []) (.b (.l [2, 3, 4, 5, 6, 7] (.s (.s (.r []) (.s .z .z)) (.s (.b (.d [] [1] [0, 1, 0, 0, 12, 28, 60, 127, 255, 511])) (.r [])))))) (.s (.r []) (.j [2, 3, 4, 5, 6, 8] (.s (.r []) (.s (.r []) .z)) (.s (.s (.r []) (.b (.l [2, 3, 4, 5, 6, 8, 9] (.s (.s (.r []) (.s .z .z)) (.s (.b (.s (.r []) (.s (.r []) (.d [] [1, 8, 12] [0, 1, 0, 4, 12, 0, 0, 96, 224, 0, 0, 1536, 3584, 0, 8204, 24588, 0, 90124, 221196, 524284, 1048572, 2097151, 4194303, 8388607])))) (.r [])))))) (.s (.s (.r []) (.b (.l [2, 3, 4, 5, 6, 12] (.s (.s (.r []) (.s .z .z)) (.s (.b (.s (.r []) (.s (.d [] [1, 8] [0, 1, 0, 4, 12, 0, 0, 96, 224, 508, 1020, 2047, 4095, 8191]) .z))) (.r [])))))) (.s (.r []) .z)))))))))))
theorem F21_eq (cf : CallF) (lf : Nat) (x0 : V) (h : Heap) : bodyA prog 0 f21 (f21.body.getD .skip) A21 cf lf [x0] h = F21 cf lf x0 h := by kernel_rfl

-- slices.Equal[[]footman/api.Event,footman/api.Event]
noncomputable def F30_b1 (cf : CallF) (lf : Nat) : Fv 4 → Fv 4 := fun S6 v7 v8 v9 v10 h11 =>
 bi .lss v10 v9 fun v12 =>
 vb v12 fun q13 => ifB q13 (
 ix 3 v7 v10 fun v14 =>
 ldn 3 v14 h11 fun v15 =>
 ix 3 v8 v10 fun v16 =>
 ldn 3 v16 h11 fun v17 =>
 bn prog .neq 33 v15 v17 fun v18 =>
 vb v18 fun q19 => ifB q19 (
 rt (.b false) h11) (
 bi .add v10 (.i .i64 (.ofNat 1)) fun v20 =>
 S6 v7 v8 v9 v20 h11)) (
 rt (.b true) h11)
noncomputable def F30 (cf : CallF) (lf : Nat) : Fv 2 := fun x0 x1 h =>
 lns x0 fun v1 =>
 lns x1 fun v2 =>
 bi .neq v1 v2 fun v3 =>
 vb v3 fun q4 => ifB q4 (
 rt (.b false) h) (
 lns x0 fun v5 =>
 loop 4 lf (F30_b1 cf lf) x0 x1 v5 (.i .i64 (.ofNat 0)) h)
def A30 : Ann := (.s (.r []) (.s (.s (.r []) (.s (.s (.r []) .z) .z)) (.s (.s (.r []) (.b (.l [0, 1, 12, 13] (.s (.r []) (.s (.s .z .z) (.s (.b (.s (.r []) (.s (.d [] [] [0, 0, 3, 7, 0, 0, 48, 112, 255]) (.s (.s (.r []) .z) .z)))) (.r []))))))) (.s (.r []) .z))))
theorem F30_eq (cf : CallF) (lf : Nat) (x0 : V) (x1 : V) (h : Heap) : bodyA prog 0 f30 (f30.body.getD .skip) A30 cf lf [x0, x1] h = F30 cf lf x0 x1 h := by kernel_rfl

-- footman/footmanref6.SameEvents
noncomputable def F31_b1 (cf : CallF) (lf : Nat) : Fv 3 → Fv 3 := fun S5 v6 v7 v8 h9 =>
 lns v6 fun v10 =>
 bi .lss v8 v10 fun v11 =>
 vb v11 fun q12 => ifB q12 (
 ix 3 v6 v8 fun v13 =>
 ldn 3 v13 h9 fun v14 =>
 ix 3 v7 v8 fun v15 =>
 ldn 3 v15 h9 fun v16 =>
 bn prog .neq 33 v14 v16 fun v17 =>
 vb v17 fun q18 => ifB q18 (
 rt (.b false) h9) (
 bi .add v8 (.i .i64 (.ofNat 1)) fun v19 =>
 S5 v6 v7 v19 h9)) (
 rt (.b true) h9)
noncomputable def F31 (cf : CallF) (lf : Nat) : Fv 2 := fun x0 x1 h =>
 lns x0 fun v1 =>
 lns x1 fun v2 =>
 bi .neq v1 v2 fun v3 =>
 vb v3 fun q4 => ifB q4 (
 rt (.b false) h) (
 loop 3 lf (F31_b1 cf lf) x0 x1 (.i .i64 (.ofNat 0)) h)
def A31 : Ann := (.s (.r []) (.s (.s (.r []) (.s (.s (.r []) .z) .z)) (.s (.s (.r []) (.b (.l [0, 1, 5] (.s (.s (.r []) (.s .z .z)) (.s (.b (.s (.d [] [] [0, 0, 3, 7, 0, 0, 48, 112, 255]) (.s (.s (.r []) .z) .z))) (.r [])))))) (.s (.r []) .z))))
theorem F31_eq (cf : CallF) (lf : Nat) (x0 : V) (x1 : V) (h : Heap) : bodyA prog 0 f31 (f31.body.getD .skip) A31 cf lf [x0, x1] h = F31 cf lf x0 x1 h := by kernel_rfl

-- slices.ContainsFunc[[]footman/api.Box,footman/api.Box]
noncomputable def F33 (cf : CallF) (lf : Nat) : Fv 2 := fun x0 x1 h =>
 cl (cf 40 [x0, x1] h) fun v1 h2 =>
 bi .geq v1 (.i .i64 (.ofNat 0)) fun v3 =>
 rt v3 h2
def A33 : Ann := (.s (.r []) (.s (.r []) .z))
theorem F33_eq (cf : CallF) (lf : Nat) (x0 : V) (x1 : V) (h : Heap) : bodyA prog 0 f33 (f33.body.getD .skip) A33 cf lf [x0, x1] h = F33 cf lf x0 x1 h := by kernel_rfl

-- footman/leak.Low$1
noncomputable def F34 (cf : CallF) (lf : Nat) : Fv 3 := fun x0 x1 x2 h =>
 al (V.cells x0) h fun v1 h2 =>
 fa 4 v1 fun v3 =>
 ld v3 h2 fun v4 =>
 vb v4 fun q5 => ifB q5 (
 ldn 4 x1 h2 fun v6 =>
 ld x2 h2 fun v7 =>
 fa 1 v1 fun v8 =>
 ld v8 h2 fun v9 =>
 cl (cf 35 [(.b true), v6, v7, v9] h2) fun v10 h11 =>
 vb v10 fun q12 => ifB q12 (
 ldn 4 x1 h11 fun v13 =>
 ld x2 h11 fun v14 =>
 fa 2 v1 fun v15 =>
 ld v15 h11 fun v16 =>
 cl (cf 35 [(.b false), v13, v14, v16] h11) fun v17 h18 =>
 rt v17 h18) (
 rt (.b false) h11)) (
 rt (.b false) h2)
def A34 : Ann := (.s (.r []) (.s (.r [3, 10]) .z))
theorem F34_eq (cf : CallF) (lf : Nat) (x0 : V) (x1 : V) (x2 : V) (h : Heap) : bodyA prog 0 f34 (f34.body.getD .skip) A34 cf lf [x0, x1, x2] h = F34 cf lf x0 x1 x2 h := by kernel_rfl

-- footman/leak.is
noncomputable def F35 (cf : CallF) (lf : Nat) : Fv 4 := fun x0 x1 x2 x3 h =>
 al (V.cells x1) h fun v1 h2 =>
 fa 1 v1 fun v3 =>
 ld v3 h2 fun v4 =>
 cl (cf 41 [v4, x3] h2) fun v5 h6 =>
 bi .geq v5 (.i .i64 (.ofNat 0)) fun v7 =>
 vb v7 fun q8 => ifB q8 (
 lns x2 fun v9 =>
 bi .lss v5 v9 fun v10 =>
 vb v10 fun q11 => ifB q11 (
 ix 1 x2 v5 fun v12 =>
 ld v12 h6 fun v13 =>
 bn prog .eql 4 v13 x0 fun v14 =>
 rt v14 h6) (
 bn prog .eql 4 (.b false) x0 fun v15 =>
 rt v15 h6)) (
 rt (.b false) h6)
def A35 : Ann := (.s (.r []) (.s (.r []) (.s (.r [3, 8, 12]) .z)))
theorem F35_eq (cf : CallF) (lf : Nat) (x0 : V) (x1 : V) (x2 : V) (x3 : V) (h : Heap) : bodyA prog 0 f35 (f35.body.getD .skip) A35 cf lf [x0, x1, x2, x3] h = F35 cf lf x0 x1 x2 x3 h := by kernel_rfl

-- footman/footmanref10.Task
noncomputable def F36 (cf : CallF) (lf : Nat) : Fv 2 := fun x0 x1 h =>
 al (V.cells x0) h fun v1 h2 =>
 ldn 4 v1 h2 fun v3 =>
 cl (cf 42 [v3, x1] h2) fun v4 h5 =>
 rt v4 h5
def A36 : Ann := (.s (.r []) (.s (.r []) .z))
theorem F36_eq (cf : CallF) (lf : Nat) (x0 : V) (x1 : V) (h : Heap) : bodyA prog 0 f36 (f36.body.getD .skip) A36 cf lf [x0, x1] h = F36 cf lf x0 x1 h := by kernel_rfl

-- (*footman/footmanlaw11.Source).Take
noncomputable def F37 (cf : CallF) (lf : Nat) : Fv 2 := fun x0 x1 h =>
 nc x0 fun v1 =>
 fa 1 v1 fun v2 =>
 ld v2 h fun v3 =>
 nc x0 fun v4 =>
 fa 0 v4 fun v5 =>
 ld v5 h fun v6 =>
 lns v6 fun v7 =>
 bi .geq v3 v7 fun v8 =>
 vb v8 fun q9 => ifB q9 (
 rt (.i .i64 (.ofNat 0)) h) (
 nc x0 fun v10 =>
 fa 1 v10 fun v11 =>
 ld v11 h fun v12 =>
 bi .add v12 (.i .i64 (.ofNat 1)) fun v13 =>
 nc x0 fun v14 =>
 fa 1 v14 fun v15 =>
 st 1 v15 v13 h fun h16 =>
 nc x0 fun v17 =>
 fa 0 v17 fun v18 =>
 ld v18 h16 fun v19 =>
 nc x0 fun v20 =>
 fa 1 v20 fun v21 =>
 ld v21 h16 fun v22 =>
 bi .sub v22 (.i .i64 (.ofNat 1)) fun v23 =>
 ix 1 v19 v23 fun v24 =>
 ld v24 h16 fun v25 =>
 cv .i64 v25 fun v26 =>
 bi .rem v26 x1 fun v27 =>
 rt v27 h16)
def A37 : Ann := (.s (.r []) (.s (.s (.d [] [] [0, 1, 3, 7, 0, 16, 48, 112, 240, 511]) (.s (.s (.r []) .z) .z)) (.s (.r []) (.s (.d [] [] [0, 1, 3, 7, 0, 16, 48, 112, 240, 511, 1023, 2047, 0, 8191, 16383]) .z))))
theorem F37_eq (cf : CallF) (lf : Nat) (x0 : V) (x1 : V) (h : Heap) : bodyA prog 0 f37 (f37.body.getD .skip) A37 cf lf [x0, x1] h = F37 cf lf x0 x1 h := by kernel_rfl

-- footman/footmanref10.Digits
noncomputable def F38 (cf : CallF) (lf : Nat) : Fv 1 := fun x0 h =>
 bi .rem x0 (.i .i64 (.ofNat 10)) fun v1 =>
 bi .add (.i .i64 (.ofNat 48)) v1 fun v2 =>
 cv .u8 v2 fun v3 =>
 o2 (buildSliceV prog 49 1 [(0, v3)] h) fun v4 h5 =>
 o2 (convV prog 49 9 v4 h5) fun v6 h7 =>
 bi .lss x0 (.i .i64 (.ofNat 10)) fun v8 =>
 vb v8 fun q9 => ifB q9 (
 rt v6 h7) (
 bi .quo x0 (.i .i64 (.ofNat 10)) fun v10 =>
 cl (cf 38 [v10] h7) fun v11 h12 =>
 bs .add v11 v6 fun v13 =>
 rt v13 h12)
def A38 : Ann := (.s (.r []) (.s (.r []) (.s (.s (.r []) (.s (.s (.r []) .z) .z)) (.s (.r []) .z))))
theorem F38_eq (cf : CallF) (lf : Nat) (x0 : V) (h : Heap) : bodyA prog 0 f38 (f38.body.getD .skip) A38 cf lf [x0] h = F38 cf lf x0 h := by kernel_rfl

-- slices.IndexFunc[[]footman/api.Box,footman/api.Box]
noncomputable def F40_b1 (cf : CallF) (lf : Nat) : Fv 4 → Fv 4 := fun S2 v3 v4 v5 v6 h7 =>
 bi .lss v6 v5 fun v8 =>
 vb v8 fun q9 => ifB q9 (
 ix 5 v3 v6 fun v10 =>
 ldn 5 v10 h7 fun v11 =>
 cf1 cf v4 [v11] h7 fun v12 h13 =>
 vb v12 fun q14 => ifB q14 (
 rt v6 h13) (
 bi .add v6 (.i .i64 (.ofNat 1)) fun v15 =>
 S2 v3 v4 v5 v15 h13)) (
 rt (.i .i64 (.negSucc 0)) h7)
noncomputable def F40 (cf : CallF) (lf : Nat) : Fv 2 := fun x0 x1 h =>
 lns x0 fun v1 =>
 loop 4 lf (F40_b1 cf lf) x0 x1 v1 (.i .i64 (.ofNat 0)) h
def A40 : Ann := (.s (.r []) (.s (.s (.r []) (.b (.l [0, 1, 7, 8] (.s (.r []) (.s (.s .z .z) (.s (.b (.s (.r []) (.s (.r []) (.s (.s (.r []) .z) .z)))) (.r []))))))) (.s (.r []) .z)))
theorem F40_eq (cf : CallF) (lf : Nat) (x0 : V) (x1 : V) (h : Heap) : bodyA prog 0 f40 (f40.body.getD .skip) A40 cf lf [x0, x1] h = F40 cf lf x0 x1 h := by kernel_rfl

-- slices.Index[[]string,string]
noncomputable def F41_b1 (cf : CallF) (lf : Nat) : Fv 4 → Fv 4 := fun S2 v3 v4 v5 v6 h7 =>
 bi .lss v6 v5 fun v8 =>
 vb v8 fun q9 => ifB q9 (
 ix 1 v3 v6 fun v10 =>
 ld v10 h7 fun v11 =>
 bs .eql v4 v11 fun v12 =>
 vb v12 fun q13 => ifB q13 (
 rt v6 h7) (
 bi .add v6 (.i .i64 (.ofNat 1)) fun v14 =>
 S2 v3 v4 v5 v14 h7)) (
 rt (.i .i64 (.negSucc 0)) h7)
noncomputable def F41 (cf : CallF) (lf : Nat) : Fv 2 := fun x0 x1 h =>
 lns x0 fun v1 =>
 loop 4 lf (F41_b1 cf lf) x0 x1 v1 (.i .i64 (.ofNat 0)) h
def A41 : Ann := (.s (.r []) (.s (.s (.r []) (.b (.l [0, 1, 7, 8] (.s (.r []) (.s (.s .z .z) (.s (.b (.s (.r []) (.s (.r []) (.s (.s (.r []) .z) .z)))) (.r []))))))) (.s (.r []) .z)))
theorem F41_eq (cf : CallF) (lf : Nat) (x0 : V) (x1 : V) (h : Heap) : bodyA prog 0 f41 (f41.body.getD .skip) A41 cf lf [x0, x1] h = F41 cf lf x0 x1 h := by kernel_rfl

-- footman/footmanref10.task
noncomputable def F42_b1 (cf : CallF) (lf : Nat) : Fv 3 → Fv 3 := fun S3 v4 v5 v6 h7 =>
 fa 1 v5 fun v8 =>
 ld v8 h7 fun v9 =>
 lns v9 fun v10 =>
 bi .lss v6 v10 fun v11 =>
 vb v11 fun q12 => ifB q12 (
 fa 1 v5 fun v13 =>
 ld v13 h7 fun v14 =>
 ix 1 v14 v6 fun v15 =>
 ld v15 h7 fun v16 =>
 bs .eql v16 v4 fun v17 =>
 vb v17 fun q18 => ifB q18 (
 rt v6 h7) (
 bi .add v6 (.i .i64 (.ofNat 1)) fun v19 =>
 S3 v4 v5 v19 h7)) (
 rt (.i .i64 (.negSucc 0)) h7)
noncomputable def F42 (cf : CallF) (lf : Nat) : Fv 2 := fun x0 x1 h =>
 al (V.cells x0) h fun v1 h2 =>
 loop 3 lf (F42_b1 cf lf) x1 v1 (.i .i64 (.ofNat 0)) h2
def A42 : Ann := (.s (.r []) (.s (.s (.r []) (.b (.l [1, 2, 5] (.s (.s (.r []) (.s .z .z)) (.s (.b (.s (.r []) (.s (.s (.r []) .z) .z))) (.r [])))))) (.s (.r []) .z)))
theorem F42_eq (cf : CallF) (lf : Nat) (x0 : V) (x1 : V) (h : Heap) : bodyA prog 0 f42 (f42.body.getD .skip) A42 cf lf [x0, x1] h = F42 cf lf x0 x1 h := by kernel_rfl

theorem b3 : BodyOk prog 0 3 (wrapF 4 F3) := BodyOk.mk (n := 4) (an := A3) func3 (c := f3.body.getD .skip) (by kernel_rfl) (by kernel_rfl) fun cf lf x0 x1 x2 x3 h => F3_eq cf lf x0 x1 x2 x3 h
theorem b4 : BodyOk prog 0 4 (wrapF 4 F4) := BodyOk.mk (n := 4) (an := A4) func4 (c := f4.body.getD .skip) (by kernel_rfl) (by kernel_rfl) fun cf lf x0 x1 x2 x3 h => F4_eq cf lf x0 x1 x2 x3 h
theorem b5 : BodyOk prog 0 5 (wrapF 4 F5) := BodyOk.mk (n := 4) (an := A5) func5 (c := f5.body.getD .skip) (by kernel_rfl) (by kernel_rfl) fun cf lf x0 x1 x2 x3 h => F5_eq cf lf x0 x1 x2 x3 h
theorem b8 : BodyOk prog 0 8 (wrapF 2 F8) := BodyOk.mk (n := 2) (an := A8) func8 (c := f8.body.getD .skip) (by kernel_rfl) (by kernel_rfl) fun cf lf x0 x1 h => F8_eq cf lf x0 x1 h
theorem b9 : BodyOk prog 0 9 (wrapF 2 F9) := BodyOk.mk (n := 2) (an := A9) func9 (c := f9.body.getD .skip) (by kernel_rfl) (by kernel_rfl) fun cf lf x0 x1 h => F9_eq cf lf x0 x1 h
theorem b12 : BodyOk prog 0 12 (wrapF 0 F12) := BodyOk.mk (n := 0) (an := A12) func12 (c := f12.body.getD .skip) (by kernel_rfl) (by kernel_rfl) fun cf lf h => F12_eq cf lf h
theorem b13 : BodyOk prog 0 13 (wrapF 2 F13) := BodyOk.mk (n := 2) (an := A13) func13 (c := f13.body.getD .skip) (by kernel_rfl) (by kernel_rfl) fun cf lf x0 x1 h => F13_eq cf lf x0 x1 h
theorem b14 : BodyOk prog 0 14 (wrapF 2 F14) := BodyOk.mk (n := 2) (an := A14) func14 (c := f14.body.getD .skip) (by kernel_rfl) (by kernel_rfl) fun cf lf x0 x1 h => F14_eq cf lf x0 x1 h
theorem b15 : BodyOk prog 0 15 (wrapF 2 F15) := BodyOk.mk (n := 2) (an := A15) func15 (c := f15.body.getD .skip) (by kernel_rfl) (by kernel_rfl) fun cf lf x0 x1 h => F15_eq cf lf x0 x1 h
theorem b16 : BodyOk prog 0 16 (wrapF 2 F16) := BodyOk.mk (n := 2) (an := A16) func16 (c := f16.body.getD .skip) (by kernel_rfl) (by kernel_rfl) fun cf lf x0 x1 h => F16_eq cf lf x0 x1 h
theorem b19 : BodyOk prog 0 19 (wrapF 2 F19) := BodyOk.mk (n := 2) (an := A19) func19 (c := f19.body.getD .skip) (by kernel_rfl) (by kernel_rfl) fun cf lf x0 x1 h => F19_eq cf lf x0 x1 h
theorem b20 : BodyOk prog 0 20 (wrapF 2 F20) := BodyOk.mk (n := 2) (an := A20) func20 (c := f20.body.getD .skip) (by kernel_rfl) (by kernel_rfl) fun cf lf x0 x1 h => F20_eq cf lf x0 x1 h
theorem b21 : BodyOk prog 0 21 (wrapF 1 F21) := BodyOk.mk (n := 1) (an := A21) func21 (c := f21.body.getD .skip) (by kernel_rfl) (by kernel_rfl) fun cf lf x0 h => F21_eq cf lf x0 h
theorem b30 : BodyOk prog 0 30 (wrapF 2 F30) := BodyOk.mk (n := 2) (an := A30) func30 (c := f30.body.getD .skip) (by kernel_rfl) (by kernel_rfl) fun cf lf x0 x1 h => F30_eq cf lf x0 x1 h
theorem b31 : BodyOk prog 0 31 (wrapF 2 F31) := BodyOk.mk (n := 2) (an := A31) func31 (c := f31.body.getD .skip) (by kernel_rfl) (by kernel_rfl) fun cf lf x0 x1 h => F31_eq cf lf x0 x1 h
theorem b33 : BodyOk prog 0 33 (wrapF 2 F33) := BodyOk.mk (n := 2) (an := A33) func33 (c := f33.body.getD .skip) (by kernel_rfl) (by kernel_rfl) fun cf lf x0 x1 h => F33_eq cf lf x0 x1 h
theorem b34 : BodyOk prog 0 34 (wrapF 3 F34) := BodyOk.mk (n := 3) (an := A34) func34 (c := f34.body.getD .skip) (by kernel_rfl) (by kernel_rfl) fun cf lf x0 x1 x2 h => F34_eq cf lf x0 x1 x2 h
theorem b35 : BodyOk prog 0 35 (wrapF 4 F35) := BodyOk.mk (n := 4) (an := A35) func35 (c := f35.body.getD .skip) (by kernel_rfl) (by kernel_rfl) fun cf lf x0 x1 x2 x3 h => F35_eq cf lf x0 x1 x2 x3 h
theorem b36 : BodyOk prog 0 36 (wrapF 2 F36) := BodyOk.mk (n := 2) (an := A36) func36 (c := f36.body.getD .skip) (by kernel_rfl) (by kernel_rfl) fun cf lf x0 x1 h => F36_eq cf lf x0 x1 h
theorem b37 : BodyOk prog 0 37 (wrapF 2 F37) := BodyOk.mk (n := 2) (an := A37) func37 (c := f37.body.getD .skip) (by kernel_rfl) (by kernel_rfl) fun cf lf x0 x1 h => F37_eq cf lf x0 x1 h
theorem b38 : BodyOk prog 0 38 (wrapF 1 F38) := BodyOk.mk (n := 1) (an := A38) func38 (c := f38.body.getD .skip) (by kernel_rfl) (by kernel_rfl) fun cf lf x0 h => F38_eq cf lf x0 h
theorem b40 : BodyOk prog 0 40 (wrapF 2 F40) := BodyOk.mk (n := 2) (an := A40) func40 (c := f40.body.getD .skip) (by kernel_rfl) (by kernel_rfl) fun cf lf x0 x1 h => F40_eq cf lf x0 x1 h
theorem b41 : BodyOk prog 0 41 (wrapF 2 F41) := BodyOk.mk (n := 2) (an := A41) func41 (c := f41.body.getD .skip) (by kernel_rfl) (by kernel_rfl) fun cf lf x0 x1 h => F41_eq cf lf x0 x1 h
theorem b42 : BodyOk prog 0 42 (wrapF 2 F42) := BodyOk.mk (n := 2) (an := A42) func42 (c := f42.body.getD .skip) (by kernel_rfl) (by kernel_rfl) fun cf lf x0 x1 h => F42_eq cf lf x0 x1 h
noncomputable def tabL : List (Nat × Sem1) := [(3, wrapF 4 F3), (4, wrapF 4 F4), (5, wrapF 4 F5), (8, wrapF 2 F8), (9, wrapF 2 F9), (12, wrapF 0 F12), (13, wrapF 2 F13), (14, wrapF 2 F14), (15, wrapF 2 F15), (16, wrapF 2 F16), (19, wrapF 2 F19), (20, wrapF 2 F20), (21, wrapF 1 F21), (30, wrapF 2 F30), (31, wrapF 2 F31), (33, wrapF 2 F33), (34, wrapF 3 F34), (35, wrapF 4 F35), (36, wrapF 2 F36), (37, wrapF 2 F37), (38, wrapF 1 F38), (40, wrapF 2 F40), (41, wrapF 2 F41), (42, wrapF 2 F42)]
noncomputable def tabT : PT Sem1 := (.n (.n (.n (.n (.n .e (some (wrapF 2 F30)) .e) (some (wrapF 2 F14)) (.n .e none (.n .e (some (wrapF 1 F38)) .e))) none (.n (.n .e none (.n .e (some (wrapF 2 F42)) .e)) none (.n .e none (.n .e (some (wrapF 3 F34)) .e)))) none (.n (.n .e (some (wrapF 0 F12)) (.n .e (some (wrapF 2 F20)) (.n .e (some (wrapF 2 F36)) .e))) (some (wrapF 4 F4)) (.n (.n .e none (.n .e (some (wrapF 2 F40)) .e)) (some (wrapF 2 F8)) (.n .e (some (wrapF 2 F16)) .e)))) none (.n (.n (.n .e (some (wrapF 2 F13)) (.n .e (some (wrapF 1 F21)) (.n .e (some (wrapF 2 F37)) .e))) (some (wrapF 4 F5)) (.n (.n .e none (.n .e (some (wrapF 2 F41)) .e)) (some (wrapF 2 F9)) (.n .e none (.n .e (some (wrapF 2 F33)) .e)))) none (.n (.n .e none (.n .e (some (wrapF 2 F19)) (.n .e (some (wrapF 4 F35)) .e))) (some (wrapF 4 F3)) (.n .e none (.n .e (some (wrapF 2 F15)) (.n .e (some (wrapF 2 F31)) .e))))))
noncomputable def tab (f : Nat) : Option Sem1 := (path f).get tabT
theorem tabAll : ∀ p ∈ tabL, BodyOk prog 0 p.1 p.2 := List.forall_mem_cons.2 ⟨b3, List.forall_mem_cons.2 ⟨b4, List.forall_mem_cons.2 ⟨b5, List.forall_mem_cons.2 ⟨b8, List.forall_mem_cons.2 ⟨b9, List.forall_mem_cons.2 ⟨b12, List.forall_mem_cons.2 ⟨b13, List.forall_mem_cons.2 ⟨b14, List.forall_mem_cons.2 ⟨b15, List.forall_mem_cons.2 ⟨b16, List.forall_mem_cons.2 ⟨b19, List.forall_mem_cons.2 ⟨b20, List.forall_mem_cons.2 ⟨b21, List.forall_mem_cons.2 ⟨b30, List.forall_mem_cons.2 ⟨b31, List.forall_mem_cons.2 ⟨b33, List.forall_mem_cons.2 ⟨b34, List.forall_mem_cons.2 ⟨b35, List.forall_mem_cons.2 ⟨b36, List.forall_mem_cons.2 ⟨b37, List.forall_mem_cons.2 ⟨b38, List.forall_mem_cons.2 ⟨b40, List.forall_mem_cons.2 ⟨b41, List.forall_mem_cons.2 ⟨b42, fun _ h => nomatch h⟩⟩⟩⟩⟩⟩⟩⟩⟩⟩⟩⟩⟩⟩⟩⟩⟩⟩⟩⟩⟩⟩⟩⟩
theorem tab_ok : ∀ f F, tab f = some F → BodyOk prog 0 f F := fun f F h => tabAll (f, F) (mkT_mem (by rw [← (show tabT = mkT tabL by kernel_rfl)]; exact h))
end R
end Go.Proofs.Try
