/-
  Functions of the program, printed as functions of values (by a program of this claim), each with the proof that the code is it. Conditions: none.
-/
import Derived.Test.YtfpcbdihdgolbaaRs6
import Derived.Test.YtfpcbdihdgolbaaProg
set_option linter.unusedVariables false
set_option linter.unusedSimpArgs false
set_option maxRecDepth 100000
namespace Go.Proofs.Try
open Go.Ab
namespace R

-- footman/footmanlaw13.NamesForms
noncomputable def F6 (cf : CallF) (lf : Nat) : Fv 1 := fun x0 h =>
 o2 (buildSliceV prog 23 2 [(0, (.s ⟨1, 97⟩)), (1, (.s ⟨1, 98⟩))] h) fun v1 h2 =>
 o1 (buildV prog 42 [(0, (.s ⟨1, 109⟩)), (1, (.s ⟨1, 97⟩)), (2, (.s ⟨1, 98⟩)), (3, (.i .i64 (.ofNat 1)))]) fun v3 =>
 o2 (buildSliceV prog 24 1 [(0, v3)] h2) fun v4 h5 =>
 o1 (buildV prog 44 [(0, (.s ⟨1, 107⟩)), (1, (.s ⟨1, 97⟩))]) fun v6 =>
 o2 (buildSliceV prog 25 1 [(0, v6)] h5) fun v7 h8 =>
 o1 (buildV prog 27 [(0, (.i .i64 (.ofNat 400))), (1, v1), (2, v4), (3, v7)]) fun v9 =>
 al (zl prog 27) h8 fun v10 h11 =>
 st 4 v10 v9 h11 fun h12 =>
 o2 (buildSliceV prog 23 22 [(0, (.s ⟨6, 65082180313208⟩)), (1, (.s ⟨19, 1326208484778049028421361797887860196212110704⟩)), (2, (.s ⟨13, 4703308024018520398213415073136⟩)), (3, (.s ⟨12, 18372274041584435806796412272⟩)), (4, (.s ⟨6, 65326997398891⟩)), (5, (.s ⟨19, 1320023439010655825173405003269690110672794992⟩)), (6, (.s ⟨19, 1320023439011202172646027651621600015163749744⟩)), (7, (.s ⟨19, 1326208484861059609617338441586944812316259696⟩)), (8, (.s ⟨19, 1323861864442054176704771028323951644411852144⟩)), (9, (.s ⟨16, 78679528177419652054172096650479756651⟩)), (10, (.s ⟨13, 9941625883389138224734023085926⟩)), (11, (.s ⟨16, 166792805238446708945366744813968453478⟩)), (12, (.s ⟨23, 12018688230796207277633487912252743944639879038101517680⟩)), (13, (.s ⟨28, 13177402135156702711398470842914800097253219600097302073196030357350⟩)), (14, (.s ⟨21, 182871712394468238538192299961565989664989186781030⟩)), (15, (.s ⟨9, 1097013938818862245234⟩)), (16, (.s ⟨9, 1091897850741379720563⟩)), (17, (.s ⟨9, 1097085996412598904179⟩)), (18, (.s ⟨28, 6256671856115248762136348856505406282237291724732962134408402464614⟩)), (19, (.s ⟨24, 3068102887973510432702047145526007526991530025475759043952⟩)), (20, (.s ⟨24, 3068078283529962094811528050082692758224399244128723038054⟩)), (21, (.s ⟨23, 5696021754266777513031053308485172593576508661409412464⟩))] h12) fun v13 h14 =>
 o2 (buildSliceV prog 38 22 [(0, (.i .i64 (.ofNat 9))), (1, (.i .i64 (.ofNat 19))), (2, (.i .i64 (.ofNat 9))), (3, (.i .i64 (.ofNat 9))), (4, (.i .i64 (.ofNat 9))), (5, (.i .i64 (.ofNat 19))), (6, (.i .i64 (.ofNat 22))), (7, (.i .i64 (.ofNat 26))), (8, (.i .i64 (.ofNat 23))), (9, (.i .i64 (.ofNat 16))), (10, (.i .i64 (.ofNat 9))), (11, (.i .i64 (.ofNat 9))), (12, (.i .i64 (.ofNat 19))), (13, (.i .i64 (.ofNat 22))), (14, (.i .i64 (.ofNat 22))), (15, (.i .i64 (.ofNat 9))), (16, (.i .i64 (.ofNat 9))), (17, (.i .i64 (.ofNat 16))), (18, (.i .i64 (.ofNat 35))), (19, (.i .i64 (.ofNat 27))), (20, (.i .i64 (.ofNat 26))), (21, (.i .i64 (.ofNat 23)))] h14) fun v15 h16 =>
 o2 (buildSliceV prog 38 22 [(0, (.i .i64 (.ofNat 6))), (1, (.i .i64 (.ofNat 6))), (2, (.i .i64 (.ofNat 1))), (3, (.i .i64 (.ofNat 1))), (4, (.i .i64 (.ofNat 6))), (5, (.i .i64 (.ofNat 7))), (6, (.i .i64 (.ofNat 7))), (7, (.i .i64 (.ofNat 7))), (8, (.i .i64 (.ofNat 7))), (9, (.i .i64 (.ofNat 7))), (10, (.i .i64 (.ofNat 1))), (11, (.i .i64 (.ofNat 1))), (12, (.i .i64 (.ofNat 6))), (13, (.i .i64 (.ofNat 6))), (14, (.i .i64 (.ofNat 7))), (15, (.i .i64 (.ofNat 6))), (16, (.i .i64 (.ofNat 6))), (17, (.i .i64 (.ofNat 6))), (18, (.i .i64 (.ofNat 6))), (19, (.i .i64 (.ofNat 6))), (20, (.i .i64 (.ofNat 6))), (21, (.i .i64 (.ofNat 6)))] h16) fun v17 h18 =>
 cv .i64 x0 fun v19 =>
 lns v13 fun v20 =>
 bi .rem v19 v20 fun v21 =>
 ix 1 v13 v21 fun v22 =>
 ld v22 h18 fun v23 =>
 bs .add (.s ⟨9, 599168008416495100276⟩) v23 fun v24 =>
 bs .add v24 (.s ⟨33, 14488590238879783179337180920611514229349611821070622819973809110518034304367904⟩) fun v25 =>
 cln (cf 16 [v25] (Heap.mk h18.next h18.t [])) fun v26 h27 =>
 fh (Heap.new h27 .dead) fun h28 =>
 let r29 : Rc := ⟨6, ⟨none, h27.wl.filter (fun x => Nat.blt x h18.next), h18.next, Nat.succ h27.next⟩, none, h18, h28⟩
 ldn 4 v10 h28 fun v30 =>
 let r31 : Rc := ⟨7, ⟨some (V.ids v10), [], h28.next, h28.next⟩, some (27, v10, v30), h28, h28⟩
 cln (cf 15 [v26, v30] (Heap.mk h28.next h28.t [])) fun v32 h33 =>
 fh (Heap.new h33 .dead) fun h34 =>
 let r35 : Rc := ⟨8, ⟨none, h33.wl.filter (fun x => Nat.blt x h28.next), h28.next, Nat.succ h33.next⟩, none, h28, h34⟩
 o1 (extractV v32 0) fun v36 =>
 o1 (extractV v32 1) fun v37 =>
 ifB (pc prog r29 r31) (
 fh (Heap.mk h34.next h34.t (wrR [r29, r31, r35] ++ h18.wl)) fun h38 =>
 cln (cf 16 [(.s ⟨93, 45229735574345398723567486026406523479764539413302789084395347667169769727729358120415158447872419894995404259182397453163692512783896054905186615782743995946655372639602704574553311387329015204994796202809550581084777046388⟩)] (Heap.mk h38.next h38.t [])) fun v39 h40 =>
 fh (Heap.new h40 .dead) fun h41 =>
 let r42 : Rc := ⟨0, ⟨none, h40.wl.filter (fun x => Nat.blt x h38.next), h38.next, Nat.succ h40.next⟩, none, h38, h41⟩
 ldn 4 v10 h41 fun v43 =>
 let r44 : Rc := ⟨1, ⟨some (V.ids v10), [], h41.next, h41.next⟩, some (27, v10, v43), h41, h41⟩
 cln (cf 15 [v39, v43] (Heap.mk h41.next h41.t [])) fun v45 h46 =>
 fh (Heap.new h46 .dead) fun h47 =>
 let r48 : Rc := ⟨2, ⟨none, h46.wl.filter (fun x => Nat.blt x h41.next), h41.next, Nat.succ h46.next⟩, none, h41, h47⟩
 o1 (extractV v45 0) fun v49 =>
 o1 (extractV v45 1) fun v50 =>
 ifB (pc prog r42 r44) (
 fh (Heap.mk h47.next h47.t (wrR [r42, r44, r48] ++ h38.wl)) fun h51 =>
 cln (cf 16 [(.s ⟨29, 3382960066988951354498369540047726499224853920308618597384582522429812⟩)] (Heap.mk h51.next h51.t [])) fun v52 h53 =>
 fh (Heap.new h53 .dead) fun h54 =>
 let r55 : Rc := ⟨0, ⟨none, h53.wl.filter (fun x => Nat.blt x h51.next), h51.next, Nat.succ h53.next⟩, none, h51, h54⟩
 ldn 4 v10 h54 fun v56 =>
 let r57 : Rc := ⟨1, ⟨some (V.ids v10), [], h54.next, h54.next⟩, some (27, v10, v56), h54, h54⟩
 cln (cf 15 [v52, v56] (Heap.mk h54.next h54.t [])) fun v58 h59 =>
 fh (Heap.new h59 .dead) fun h60 =>
 let r61 : Rc := ⟨2, ⟨none, h59.wl.filter (fun x => Nat.blt x h54.next), h54.next, Nat.succ h59.next⟩, none, h54, h60⟩
 o1 (extractV v58 0) fun v62 =>
 o1 (extractV v58 1) fun v63 =>
 ifB (pc prog r55 r57) (
 fh (Heap.mk h60.next h60.t (wrR [r55, r57, r61] ++ h51.wl)) fun h64 =>
 cln (cf 16 [(.s ⟨29, 3382960066988951354498369540047729157680845490140364404998703083118964⟩)] (Heap.mk h64.next h64.t [])) fun v65 h66 =>
 fh (Heap.new h66 .dead) fun h67 =>
 let r68 : Rc := ⟨0, ⟨none, h66.wl.filter (fun x => Nat.blt x h64.next), h64.next, Nat.succ h66.next⟩, none, h64, h67⟩
 ldn 4 v10 h67 fun v69 =>
 let r70 : Rc := ⟨1, ⟨some (V.ids v10), [], h67.next, h67.next⟩, some (27, v10, v69), h67, h67⟩
 cln (cf 15 [v65, v69] (Heap.mk h67.next h67.t [])) fun v71 h72 =>
 fh (Heap.new h72 .dead) fun h73 =>
 let r74 : Rc := ⟨2, ⟨none, h72.wl.filter (fun x => Nat.blt x h67.next), h67.next, Nat.succ h72.next⟩, none, h67, h73⟩
 o1 (extractV v71 0) fun v75 =>
 o1 (extractV v71 1) fun v76 =>
 ifB (pc prog r68 r70) (
 fh (Heap.mk h73.next h73.t (wrR [r68, r70, r74] ++ h64.wl)) fun h77 =>
 ix 1 v15 v21 fun v78 =>
 ld v78 h77 fun v79 =>
 bi .eql v36 v79 fun v80 =>
 vb v80 fun q81 => ifB q81 (
 cln (cf 13 [v37] (Heap.mk h77.next h77.t [])) fun v82 h83 =>
 fh (Heap.new h83 .dead) fun h84 =>
 let r85 : Rc := ⟨8, ⟨none, h83.wl.filter (fun x => Nat.blt x h77.next), h77.next, Nat.succ h83.next⟩, none, h77, h84⟩
 ix 1 v17 v21 fun v86 =>
 ld v86 h84 fun v87 =>
 let r88 : Rc := ⟨12, ⟨some (V.ids v86), [], h84.next, h84.next⟩, some (3, v86, v87), h84, h84⟩
 bi .eql v82 v87 fun v89 =>
 vb v89 fun q90 => ifB q90 (
 cln (cf 13 [v50] (Heap.mk h84.next h84.t [])) fun v91 h92 =>
 fh (Heap.new h92 .dead) fun h93 =>
 let r94 : Rc := ⟨17, ⟨none, h92.wl.filter (fun x => Nat.blt x h84.next), h84.next, Nat.succ h92.next⟩, none, h84, h93⟩
 bi .eql v91 (.i .i64 (.ofNat 0)) fun v95 =>
 vb v95 fun q96 => ifB q96 (
 bi .eql v62 (.i .i64 (.ofNat 10)) fun v97 =>
 vb v97 fun q98 => ifB q98 (
 cln (cf 13 [v63] (Heap.mk h93.next h93.t [])) fun v99 h100 =>
 fh (Heap.new h100 .dead) fun h101 =>
 let r102 : Rc := ⟨26, ⟨none, h100.wl.filter (fun x => Nat.blt x h93.next), h93.next, Nat.succ h100.next⟩, none, h93, h101⟩
 bi .eql v99 (.i .i64 (.ofNat 6)) fun v103 =>
 vb v103 fun q104 => ifB q104 (
 bi .eql v75 (.i .i64 (.ofNat 10)) fun v105 =>
 vb v105 fun q106 => ifB q106 (
 cln (cf 13 [v76] (Heap.mk h101.next h101.t [])) fun v107 h108 =>
 fh (Heap.new h108 .dead) fun h109 =>
 let r110 : Rc := ⟨35, ⟨none, h108.wl.filter (fun x => Nat.blt x h101.next), h101.next, Nat.succ h108.next⟩, none, h101, h109⟩
 bi .eql v107 (.i .i64 (.ofNat 6)) fun v111 =>
 vb v111 fun q112 => ifB q112 (
 cln (cf 14 [] (Heap.mk h109.next h109.t [])) fun v113 h114 =>
 fh (Heap.new h114 .dead) fun h115 =>
 let r116 : Rc := ⟨39, ⟨none, h114.wl.filter (fun x => Nat.blt x h109.next), h109.next, Nat.succ h114.next⟩, none, h109, h115⟩
 ifB (pc prog r85 r88) (
 fh (Heap.mk h115.next h115.t (wrR [r85, r88, r94, r102, r110, r116] ++ h77.wl)) fun h117 =>
 rt v113 h117) .fail) (
 ifB (pc prog r85 r88) (
 fh (Heap.mk h109.next h109.t (wrR [r85, r88, r94, r102, r110] ++ h77.wl)) fun h118 =>
 rt (.b false) h118) .fail)) (
 ifB (pc prog r85 r88) (
 fh (Heap.mk h101.next h101.t (wrR [r85, r88, r94, r102] ++ h77.wl)) fun h119 =>
 rt (.b false) h119) .fail)) (
 ifB (pc prog r85 r88) (
 fh (Heap.mk h101.next h101.t (wrR [r85, r88, r94, r102] ++ h77.wl)) fun h120 =>
 rt (.b false) h120) .fail)) (
 ifB (pc prog r85 r88) (
 fh (Heap.mk h93.next h93.t (wrR [r85, r88, r94] ++ h77.wl)) fun h121 =>
 rt (.b false) h121) .fail)) (
 ifB (pc prog r85 r88) (
 fh (Heap.mk h93.next h93.t (wrR [r85, r88, r94] ++ h77.wl)) fun h122 =>
 rt (.b false) h122) .fail)) (
 ifB (pc prog r85 r88) (
 fh (Heap.mk h84.next h84.t (wrR [r85, r88] ++ h77.wl)) fun h123 =>
 rt (.b false) h123) .fail)) (
 rt (.b false) h77)) .fail) .fail) .fail) .fail
def A6 : Ann := (.s (.r []) (.s (.r []) (.s (.r []) (.s (.r []) (.s (.r []) (.s (.r []) (.s (.d [] [7] [0, 0, 3, 7, 15, 31, 63, 0, 255, 511, 1023, 1023, 2047, 8191]) (.s (.d [] [1] [0, 0, 3, 7, 15, 15, 31, 127]) (.s (.d [] [1] [0, 0, 3, 7, 15, 15, 31, 127]) (.s (.d [] [1] [0, 0, 3, 7, 15, 15, 31, 127]) (.s (.d [7, 16, 21, 25, 30, 34, 39] [12] [0, 0, 0, 6, 14, 31, 63, 127, 255, 127, 127, 1663, 3711, 8191, 16383, 32767, 65535, 131071, 262143, 524287, 1048575, 2097151, 4194303, 8388607, 16777215, 33554431, 67108863, 134217727, 268435455, 536870911, 1073741823, 2147483647, 4294967295, 8589934591, 17179869183, 34359738367, 68719476735, 137438953471, 274877906943, 549755813887, 1099511627775, 2199023255551]) .z)))))))))))
theorem F6_eq (cf : CallF) (lf : Nat) (x0 : V) (h : Heap) : bodyA prog 0 f6 (f6.body.getD .skip) A6 cf lf [x0] h = F6 cf lf x0 h := by kernel_rfl

-- footman/footmanref10.Parse
noncomputable def F10_b1 (cf : CallF) (lf : Nat) (J14 : Fv 3) : Fv 3 → Fv 3 := fun S15 v16 v17 v18 h19 =>
 nc v17 fun v20 =>
 fa 4 v20 fun v21 =>
 ld v21 h19 fun v22 =>
 o1 (unV .not v22) fun v23 =>
 vb v23 fun q24 => ifB q24 (
 cl (cf 21 [v17] h19) fun v25 h26 =>
 o1 (fieldV prog 61 v25 0) fun v27 =>
 bi .neq v27 (.i .i64 (.ofNat 0)) fun v28 =>
 vb v28 fun q29 => ifB q29 (
 cl (cf 22 [v17] h26) fun v30 h31 =>
 o2 (buildSliceV prog 38 1 [(0, v30)] h31) fun v32 h33 =>
 o2 (appendV prog 38 38 v18 v32 h33) fun v34 h35 =>
 S15 v16 v17 v34 h35) (
 J14 v16 v17 v18 h26)) (
 J14 v16 v17 v18 h19)
noncomputable def F10_j2 (cf : CallF) (lf : Nat) : Fv 3 := fun v36 v37 v38 h39 =>
 nc v37 fun v40 =>
 fa 4 v40 fun v41 =>
 ld v41 h39 fun v42 =>
 vb v42 fun q43 => ifB q43 (
 cl (cf 21 [v37] h39) fun v44 h45 =>
 o1 (fieldV prog 61 v44 3) fun v46 =>
 o1 (buildV prog 32 [(1, v46)]) fun v47 =>
 st 3 v36 v47 h45 fun h48 =>
 ldn 3 v36 h48 fun v49 =>
 rt v49 h48) (
 o1 (buildV prog 66 [(0, (.i .i64 (.ofNat 18))), (5, v38)]) fun v50 =>
 cl (cf 23 [v37, v50] h39) fun v51 h52 =>
 nc v37 fun v53 =>
 fa 2 v53 fun v54 =>
 ld v54 h52 fun v55 =>
 o1 (buildV prog 32 [(0, v55), (2, (.b true))]) fun v56 =>
 st 3 v36 v56 h52 fun h57 =>
 ldn 3 v36 h57 fun v58 =>
 rt v58 h57)
noncomputable def F10 (cf : CallF) (lf : Nat) : Fv 1 := fun x0 h =>
 al (zl prog 32) h fun v1 h2 =>
 lnt x0 fun v3 =>
 bi .gtr v3 (.i .i64 (.ofNat 8192)) fun v4 =>
 vb v4 fun q5 => ifB q5 (
 o1 (buildV prog 32 []) fun v6 =>
 st 3 v1 v6 h2 fun h7 =>
 ldn 3 v1 h7 fun v8 =>
 rt v8 h7) (
 cl (cf 20 [x0] h2) fun v9 h10 =>
 o1 (buildV prog 58 [(0, v9)]) fun v11 =>
 al (V.cells v11) h10 fun v12 h13 =>
 jn 3 (fun J14 =>
 loop 3 lf (F10_b1 cf lf J14) v1 v12 (.sl none 0 0 true) h13) (F10_j2 cf lf))
def A10 : Ann := (.s (.r []) (.s (.s (.r []) (.s (.s (.r []) .z) .z)) (.s (.r []) (.s (.r []) (.j [2, 3, 4] (.b (.l [2, 3, 4] (.s (.s (.r [6]) (.s .z .z)) (.b (.r []))))) (.s (.s (.r []) (.s (.s (.r []) .z) .z)) (.s (.r []) (.s (.r []) .z))))))))
theorem F10_eq (cf : CallF) (lf : Nat) (x0 : V) (h : Heap) : bodyA prog 0 f10 (f10.body.getD .skip) A10 cf lf [x0] h = F10 cf lf x0 h := by kernel_rfl

-- footman/footmanlaw1.Err
noncomputable def F13 (cf : CallF) (lf : Nat) : Fv 1 := fun x0 h =>
 rt x0 h
def A13 : Ann := (.s (.r []) (.s (.r []) .z))
theorem F13_eq (cf : CallF) (lf : Nat) (x0 : V) (h : Heap) : bodyA prog 0 f13 (f13.body.getD .skip) A13 cf lf [x0] h = F13 cf lf x0 h := by kernel_rfl

-- footman/footmanlaw13.awake
noncomputable def F14 (cf : CallF) (lf : Nat) : Fv 0 := fun h =>
 cl (cf 16 [(.s ⟨0, 0⟩)] h) fun v1 h2 =>
 o2 (buildSliceV prog 23 1 [(0, (.s ⟨1, 97⟩))] h2) fun v3 h4 =>
 o1 (buildV prog 27 [(1, v3)]) fun v5 =>
 cl (cf 15 [v1, v5] h4) fun v6 h7 =>
 o1 (extractV v6 0) fun v8 =>
 o1 (extractV v6 1) fun v9 =>
 cl (cf 16 [(.s ⟨9, 2314715207271483400564⟩)] h7) fun v10 h11 =>
 o2 (buildSliceV prog 23 1 [(0, (.s ⟨1, 97⟩))] h11) fun v12 h13 =>
 o1 (buildV prog 27 [(1, v12)]) fun v14 =>
 cl (cf 15 [v10, v14] h13) fun v15 h16 =>
 o1 (extractV v15 0) fun v17 =>
 o1 (extractV v15 1) fun v18 =>
 bi .eql v8 (.i .i64 (.ofNat 0)) fun v19 =>
 vb v19 fun q20 => ifB q20 (
 cl (cf 13 [v9] h16) fun v21 h22 =>
 bi .eql v21 (.i .i64 (.ofNat 2)) fun v23 =>
 vb v23 fun q24 => ifB q24 (
 cl (cf 13 [v18] h22) fun v25 h26 =>
 bi .eql v25 (.i .i64 (.ofNat 0)) fun v27 =>
 rt v27 h26) (
 rt (.b false) h22)) (
 rt (.b false) h16)
def A14 : Ann := (.s (.r []) (.s (.r []) (.s (.r []) (.s (.r [3, 8]) .z))))
theorem F14_eq (cf : CallF) (lf : Nat) (h : Heap) : bodyA prog 0 f14 (f14.body.getD .skip) A14 cf lf [] h = F14 cf lf h := by kernel_rfl

-- footman/names.Check
noncomputable def F15_b1 (cf : CallF) (lf : Nat) : Fv 6 → Fv 6 := fun S80 v81 v82 v83 v84 v85 v86 h87 =>
 bi .lss v86 v85 fun v88 =>
 vb v88 fun q89 => ifB q89 (
 ix 7 v84 v86 fun v90 =>
 ldn 7 v90 h87 fun v91 =>
 al (zl prog 66) h87 fun v92 h93 =>
 st 7 v92 v91 h93 fun h94 =>
 cl (cf 28 [v83, v86] h94) fun v95 h96 =>
 bi .neq v95 (.i .i64 (.ofNat 0)) fun v97 =>
 vb v97 fun q98 => ifB q98 (
 bi .eql v82 (.i .i64 (.ofNat 0)) fun v99 =>
 vb v99 fun q100 => ifB q100 (
 fa 6 v92 fun v101 =>
 ld v101 h96 fun v102 =>
 bi .add v86 (.i .i64 (.ofNat 1)) fun v103 =>
 S80 v102 v95 v83 v84 v85 v103 h96) (
 fa 6 v92 fun v104 =>
 ld v104 h96 fun v105 =>
 bi .lss v105 v81 fun v106 =>
 vb v106 fun q107 => ifB q107 (
 fa 6 v92 fun v108 =>
 ld v108 h96 fun v109 =>
 bi .add v86 (.i .i64 (.ofNat 1)) fun v110 =>
 S80 v109 v95 v83 v84 v85 v110 h96) (
 bi .add v86 (.i .i64 (.ofNat 1)) fun v111 =>
 S80 v81 v82 v83 v84 v85 v111 h96))) (
 bi .add v86 (.i .i64 (.ofNat 1)) fun v112 =>
 S80 v81 v82 v83 v84 v85 v112 h96)) (
 bi .eql v82 (.i .i64 (.ofNat 0)) fun v113 =>
 vb v113 fun q114 => ifB q114 (
 cl (cf 29 [v83] h87) fun v115 h116 =>
 vb v115 fun q117 => ifB q117 (
 rt (.tup [(.i .i64 (.ofNat 0)), (.i .i64 (.ofNat 2))]) h116) (
 rt (.tup [v81, v82]) h116)) (
 rt (.tup [v81, v82]) h87))
noncomputable def F15_b2 (cf : CallF) (lf : Nat) : Fv 7 → Fv 7 := fun S20 v21 v22 v23 v24 v25 v26 v27 h28 =>
 bi .lss v27 v26 fun v29 =>
 vb v29 fun q30 => ifB q30 (
 ix 7 v25 v27 fun v31 =>
 ldn 7 v31 h28 fun v32 =>
 al (zl prog 66) h28 fun v33 h34 =>
 st 7 v33 v32 h34 fun h35 =>
 fa 0 v33 fun v36 =>
 ld v36 h35 fun v37 =>
 bi .eql v37 (.i .i64 (.ofNat 7)) fun v38 =>
 vb v38 fun q39 => ifB q39 (
 cln (cf 27 [v24, v27] (Heap.mk h35.next h35.t [])) fun v40 h41 =>
 fh (Heap.new h41 .dead) fun h42 =>
 let r43 : Rc := ⟨2, ⟨none, h41.wl.filter (fun x => Nat.blt x h35.next), h35.next, Nat.succ h41.next⟩, none, h35, h42⟩
 fa 1 v33 fun v44 =>
 ld v44 h42 fun v45 =>
 let r46 : Rc := ⟨4, ⟨some (V.ids v44), [], h42.next, h42.next⟩, some (9, v44, v45), h42, h42⟩
 o1 (buildV prog 76 [(0, v40), (1, v45)]) fun v47 =>
 al (zl prog 76) (Heap.mk h42.next h42.t []) fun v48 h49 =>
 fh (Heap.new h49 .dead) fun h50 =>
 let r51 : Rc := ⟨6, ⟨(some (List.flatMap V.ids [])), h49.wl.filter (fun x => Nat.blt x h42.next), h42.next, Nat.succ h49.next⟩, none, h42, h50⟩
 st 2 v48 v47 (Heap.mk h50.next h50.t []) fun h52 =>
 fh (Heap.new h52 .dead) fun h53 =>
 let r54 : Rc := ⟨7, ⟨(some (List.flatMap V.ids [v48])), h52.wl.filter (fun x => Nat.blt x h50.next), h50.next, Nat.succ h52.next⟩, none, h50, h53⟩
 ifB (pc prog r43 r46) (
 ifB (pc prog r43 r51) (
 ifB (pc prog r46 r51) (
 fh (Heap.mk h53.next h53.t (wrR [r43, r46, r51, r54] ++ h35.wl)) fun h55 =>
 nc v24 fun v56 =>
 fa 6 v56 fun v57 =>
 ld v57 h55 fun v58 =>
 ldn 2 v48 h55 fun v59 =>
 o1 (lookupV prog 72 v58 v59 true (Heap.mk h55.next h55.t [])) fun v60 =>
 fh (Heap.new (Heap.mk h55.next h55.t []) .dead) fun h61 =>
 let r62 : Rc := ⟨5, ⟨(some (List.flatMap V.ids [v58])), (Heap.mk h55.next h55.t []).wl.filter (fun x => Nat.blt x h55.next), h55.next, Nat.succ (Heap.mk h55.next h55.t []).next⟩, none, h55, h61⟩
 o1 (extractV v60 0) fun v63 =>
 o1 (extractV v60 1) fun v64 =>
 fh (Heap.mk h61.next h61.t (wrR [r62] ++ h55.wl)) fun h65 =>
 o1 (unV .not v64) fun v66 =>
 vb v66 fun q67 => ifB q67 (
 nc v24 fun v68 =>
 fa 6 v68 fun v69 =>
 ld v69 h65 fun v70 =>
 ldn 2 v48 h65 fun v71 =>
 oh (mapUpdateV prog 72 v70 v71 v27 (Heap.mk h65.next h65.t [])) fun h72 =>
 fh (Heap.new h72 .dead) fun h73 =>
 let r74 : Rc := ⟨6, ⟨(some (List.flatMap V.ids [v70])), h72.wl.filter (fun x => Nat.blt x h65.next), h65.next, Nat.succ h72.next⟩, none, h65, h73⟩
 fh (Heap.mk h73.next h73.t (wrR [r74] ++ h65.wl)) fun h75 =>
 bi .add v27 (.i .i64 (.ofNat 1)) fun v76 =>
 S20 v21 v22 v23 v24 v25 v26 v76 h75) (
 bi .add v27 (.i .i64 (.ofNat 1)) fun v77 =>
 S20 v21 v22 v23 v24 v25 v26 v77 h65)) .fail) .fail) .fail) (
 bi .add v27 (.i .i64 (.ofNat 1)) fun v78 =>
 S20 v21 v22 v23 v24 v25 v26 v78 h35)) (
 lns v21 fun v79 =>
 loop 6 lf (F15_b1 cf lf) v22 v23 v24 v21 v79 (.i .i64 (.ofNat 0)) h28)
noncomputable def F15 (cf : CallF) (lf : Nat) : Fv 2 := fun x0 x1 h =>
 al (V.cells x1) h fun v1 h2 =>
 ldn 4 v1 h2 fun v3 =>
 let r4 : Rc := ⟨1, ⟨some (V.ids v1), [], h2.next, h2.next⟩, some (27, v1, v3), h2, h2⟩
 cln (cf 26 [x0] (Heap.mk h2.next h2.t [])) fun v5 h6 =>
 fh (Heap.new h6 .dead) fun h7 =>
 let r8 : Rc := ⟨3, ⟨none, h6.wl.filter (fun x => Nat.blt x h2.next), h2.next, Nat.succ h6.next⟩, none, h2, h7⟩
 o2 (makeMapV prog 72 none (Heap.mk h7.next h7.t [])) fun v9 h10 =>
 fh (Heap.new h10 .dead) fun h11 =>
 let r12 : Rc := ⟨4, ⟨(some (List.flatMap V.ids [])), h10.wl.filter (fun x => Nat.blt x h7.next), h7.next, Nat.succ h10.next⟩, none, h7, h11⟩
 o1 (buildV prog 74 [(0, x0), (1, v3), (2, v5), (3, v9)]) fun v13 =>
 al (V.cells v13) (Heap.mk h11.next h11.t []) fun v14 h15 =>
 fh (Heap.new h15 .dead) fun h16 =>
 let r17 : Rc := ⟨6, ⟨(some (List.flatMap V.ids [])), h15.wl.filter (fun x => Nat.blt x h11.next), h11.next, Nat.succ h15.next⟩, none, h11, h16⟩
 ifB (pc prog r4 r8) (
 ifB (pc prog r4 r12) (
 ifB (pc prog r8 r12) (
 fh (Heap.mk h16.next h16.t (wrR [r4, r8, r12, r17] ++ h2.wl)) fun h18 =>
 lns x0 fun v19 =>
 loop 7 lf (F15_b2 cf lf) x0 (.i .i64 (.ofNat 0)) (.i .i64 (.ofNat 0)) v14 x0 v19 (.i .i64 (.ofNat 0)) h18) .fail) .fail) .fail
def A15 : Ann := (.s (.r []) (.s (.d [] [1] [0, 0, 0, 4, 0, 31, 63, 127]) (.s (.s (.r []) (.b (.l [0, 4, 5, 6, 22, 23, 24] (.s (.r []) (.s (.s .z .z) (.s (.b (.s (.r []) (.s (.r []) (.s (.s (.d [] [4] [0, 0, 3, 0, 8, 31, 0, 127]) (.s (.d [] [] [0, 1, 3, 7, 0, 31, 63, 127, 127, 255, 1023]) (.s (.r []) (.s (.d [] [] [0, 1, 3, 7, 0, 0, 63]) .z)))) .z)))) (.r []))))))) (.s (.s (.r []) (.b (.l [4, 5, 6, 56, 57, 58] (.s (.r []) (.s (.s .z .z) (.s (.b (.s (.r []) (.s (.r []) (.s (.r [3, 6, 10]) (.s (.r []) .z))))) (.r []))))))) (.s (.s (.r [3]) (.s (.s (.r []) .z) .z)) (.s (.r []) .z))))))
theorem F15_eq (cf : CallF) (lf : Nat) (x0 : V) (x1 : V) (h : Heap) : bodyA prog 0 f15 (f15.body.getD .skip) A15 cf lf [x0, x1] h = F15 cf lf x0 x1 h := by kernel_rfl

-- footman/footmanlaw13.tree
noncomputable def F16 (cf : CallF) (lf : Nat) : Fv 1 := fun x0 h =>
 cl (cf 10 [x0] h) fun v1 h2 =>
 o1 (fieldV prog 32 v1 0) fun v3 =>
 rt v3 h2
def A16 : Ann := (.s (.r []) (.s (.r []) .z))
theorem F16_eq (cf : CallF) (lf : Nat) (x0 : V) (h : Heap) : bodyA prog 0 f16 (f16.body.getD .skip) A16 cf lf [x0] h = F16 cf lf x0 h := by kernel_rfl

-- footman/footmanref10.All
noncomputable def F20_b1 (cf : CallF) (lf : Nat) : Fv 3 → Fv 3 := fun S1 v2 v3 v4 h5 =>
 cl (cf 32 [v2, v4] h5) fun v6 h7 =>
 al (zl prog 80) h7 fun v8 h9 =>
 st 5 v8 v6 h9 fun h10 =>
 fa 0 v8 fun v11 =>
 ldn 4 v11 h10 fun v12 =>
 o2 (buildSliceV prog 55 1 [(0, v12)] h10) fun v13 h14 =>
 o2 (appendV prog 55 55 v3 v13 h14) fun v15 h16 =>
 fa 0 v8 fun v17 =>
 fa 0 v17 fun v18 =>
 ld v18 h16 fun v19 =>
 bi .eql v19 (.i .i64 (.ofNat 0)) fun v20 =>
 vb v20 fun q21 => ifB q21 (
 rt v15 h16) (
 fa 0 v8 fun v22 =>
 fa 0 v22 fun v23 =>
 ld v23 h16 fun v24 =>
 bi .eql v24 (.i .i64 (.ofNat 5)) fun v25 =>
 vb v25 fun q26 => ifB q26 (
 rt v15 h16) (
 fa 4 v8 fun v27 =>
 ld v27 h16 fun v28 =>
 S1 v2 v15 v28 h16))
noncomputable def F20 (cf : CallF) (lf : Nat) : Fv 1 := fun x0 h =>
 loop 3 lf (F20_b1 cf lf) x0 (.sl none 0 0 true) (.i .i64 (.ofNat 0)) h
def A20 : Ann := (.s (.r []) (.s (.r []) (.s (.r []) (.b (.l [0, 3, 4] (.b (.s (.r []) (.s (.r []) (.s (.s (.r [5]) (.s (.s (.r []) .z) .z)) (.r []))))))))))
theorem F20_eq (cf : CallF) (lf : Nat) (x0 : V) (h : Heap) : bodyA prog 0 f20 (f20.body.getD .skip) A20 cf lf [x0] h = F20 cf lf x0 h := by kernel_rfl

-- (*footman/footmanref10.parser).t
noncomputable def F21 (cf : CallF) (lf : Nat) : Fv 1 := fun x0 h =>
 al (zl prog 61) h fun v1 h2 =>
 nc x0 fun v3 =>
 fa 0 v3 fun v4 =>
 ld v4 h2 fun v5 =>
 nc x0 fun v6 =>
 fa 1 v6 fun v7 =>
 ld v7 h2 fun v8 =>
 ix 4 v5 v8 fun v9 =>
 ldn 4 v9 h2 fun v10 =>
 st 4 v1 v10 (Heap.mk h2.next h2.t []) fun h11 =>
 fh (Heap.new h11 .dead) fun h12 =>
 let r13 : Rc := ⟨10, ⟨(some (List.flatMap V.ids [v1])), h11.wl.filter (fun x => Nat.blt x h2.next), h2.next, Nat.succ h11.next⟩, none, h2, h12⟩
 fh (Heap.mk h12.next h12.t (wrR [r13] ++ h2.wl)) fun h14 =>
 ldn 4 v1 h14 fun v15 =>
 rt v15 h14
def A21 : Ann := (.s (.r []) (.s (.d [] [] [0, 1, 3, 7, 0, 16, 48, 112, 255, 511, 1023]) .z))
theorem F21_eq (cf : CallF) (lf : Nat) (x0 : V) (h : Heap) : bodyA prog 0 f21 (f21.body.getD .skip) A21 cf lf [x0] h = F21 cf lf x0 h := by kernel_rfl

-- (*footman/footmanref10.parser).task
noncomputable def F22_b1 (cf : CallF) (lf : Nat) (J43 : Fv 3) : Fv 3 → Fv 3 := fun S44 v45 v46 v47 h48 =>
 nc v45 fun v49 =>
 fa 4 v49 fun v50 =>
 ld v50 h48 fun v51 =>
 o1 (unV .not v51) fun v52 =>
 vb v52 fun q53 => ifB q53 (
 cl (cf 36 [v45, (.s ⟨1, 125⟩)] h48) fun v54 h55 =>
 o1 (unV .not v54) fun v56 =>
 vb v56 fun q57 => ifB q57 (
 fa 5 v47 fun v58 =>
 ld v58 h55 fun v59 =>
 let r60 : Rc := ⟨1, ⟨some (V.ids v58), [], h55.next, h55.next⟩, some (38, v58, v59), h55, h55⟩
 cln (cf 37 [v45] (Heap.mk h55.next h55.t [])) fun v61 h62 =>
 fh (Heap.new h62 .dead) fun h63 =>
 let r64 : Rc := ⟨3, ⟨none, h62.wl.filter (fun x => Nat.blt x h55.next), h55.next, Nat.succ h62.next⟩, none, h55, h63⟩
 o2 (buildSliceV prog 38 1 [(0, v61)] (Heap.mk h63.next h63.t [])) fun v65 h66 =>
 fh (Heap.new h66 .dead) fun h67 =>
 let r68 : Rc := ⟨4, ⟨(some (List.flatMap V.ids [])), h66.wl.filter (fun x => Nat.blt x h63.next), h63.next, Nat.succ h66.next⟩, none, h63, h67⟩
 o2 (appendV prog 38 38 v59 v65 (Heap.mk h67.next h67.t [])) fun v69 h70 =>
 fh (Heap.new h70 .dead) fun h71 =>
 let r72 : Rc := ⟨5, ⟨(some (List.flatMap V.ids [v59, v65])), h70.wl.filter (fun x => Nat.blt x h67.next), h67.next, Nat.succ h70.next⟩, none, h67, h71⟩
 fa 5 v47 fun v73 =>
 st 1 v73 v69 (Heap.mk h71.next h71.t []) fun h74 =>
 fh (Heap.new h74 .dead) fun h75 =>
 let r76 : Rc := ⟨7, ⟨(some (List.flatMap V.ids [v73])), h74.wl.filter (fun x => Nat.blt x h71.next), h71.next, Nat.succ h74.next⟩, none, h71, h75⟩
 ifB (pc prog r60 r64) (
 ifB (pc prog r60 r68) (
 fh (Heap.mk h75.next h75.t (wrR [r60, r64, r68, r72, r76] ++ h55.wl)) fun h77 =>
 S44 v45 v46 v47 h77) .fail) .fail) (
 J43 v45 v46 v47 h55)) (
 J43 v45 v46 v47 h48)
noncomputable def F22_j2 (cf : CallF) (lf : Nat) : Fv 3 := fun v78 v79 v80 h81 =>
 fa 5 v79 fun v82 =>
 ld v82 h81 fun v83 =>
 let r84 : Rc := ⟨1, ⟨some (V.ids v82), [], h81.next, h81.next⟩, some (38, v82, v83), h81, h81⟩
 ldn 7 v80 h81 fun v85 =>
 cln (cf 23 [v78, v85] (Heap.mk h81.next h81.t [])) fun v86 h87 =>
 fh (Heap.new h87 .dead) fun h88 =>
 let r89 : Rc := ⟨4, ⟨none, h87.wl.filter (fun x => Nat.blt x h81.next), h81.next, Nat.succ h87.next⟩, none, h81, h88⟩
 o2 (buildSliceV prog 38 1 [(0, v86)] (Heap.mk h88.next h88.t [])) fun v90 h91 =>
 fh (Heap.new h91 .dead) fun h92 =>
 let r93 : Rc := ⟨5, ⟨(some (List.flatMap V.ids [])), h91.wl.filter (fun x => Nat.blt x h88.next), h88.next, Nat.succ h91.next⟩, none, h88, h92⟩
 o2 (appendV prog 38 38 v83 v90 (Heap.mk h92.next h92.t [])) fun v94 h95 =>
 fh (Heap.new h95 .dead) fun h96 =>
 let r97 : Rc := ⟨6, ⟨(some (List.flatMap V.ids [v83, v90])), h95.wl.filter (fun x => Nat.blt x h92.next), h92.next, Nat.succ h95.next⟩, none, h92, h96⟩
 fa 5 v79 fun v98 =>
 st 1 v98 v94 (Heap.mk h96.next h96.t []) fun h99 =>
 fh (Heap.new h99 .dead) fun h100 =>
 let r101 : Rc := ⟨8, ⟨(some (List.flatMap V.ids [v98])), h99.wl.filter (fun x => Nat.blt x h96.next), h96.next, Nat.succ h99.next⟩, none, h96, h100⟩
 ifB (pc prog r84 r89) (
 ifB (pc prog r84 r93) (
 fh (Heap.mk h100.next h100.t (wrR [r84, r89, r93, r97, r101] ++ h81.wl)) fun h102 =>
 ldn 7 v79 h102 fun v103 =>
 cl (cf 23 [v78, v103] h102) fun v104 h105 =>
 rt v104 h105) .fail) .fail
noncomputable def F22_b3 (cf : CallF) (lf : Nat) : Fv 4 → Fv 4 := fun S24 v25 v26 v27 v28 h29 =>
 vb v28 fun q30 => ifB q30 (
 fa 5 v26 fun v31 =>
 ld v31 h29 fun v32 =>
 cl (cf 35 [v25, v32] h29) fun v33 h34 =>
 o1 (extractV v33 0) fun v35 =>
 o1 (extractV v33 1) fun v36 =>
 fa 5 v26 fun v37 =>
 st 1 v37 v35 h34 fun h38 =>
 S24 v25 v26 v27 v36 h38) (
 o1 (buildV prog 66 [(0, (.i .i64 (.ofNat 16))), (6, v27)]) fun v39 =>
 al (zl prog 66) h29 fun v40 h41 =>
 st 7 v40 v39 h41 fun h42 =>
 jn 3 (fun J43 =>
 loop 3 lf (F22_b1 cf lf J43) v25 v26 v40 h42) (F22_j2 cf lf))
noncomputable def F22 (cf : CallF) (lf : Nat) : Fv 1 := fun x0 h =>
 cl (cf 21 [x0] h) fun v1 h2 =>
 o1 (fieldV prog 61 v1 3) fun v3 =>
 o1 (buildV prog 66 [(0, (.i .i64 (.ofNat 17))), (6, v3)]) fun v4 =>
 al (zl prog 66) h2 fun v5 h6 =>
 st 7 v5 v4 h6 fun h7 =>
 cl (cf 33 [x0, (.s ⟨4, 1802723700⟩)] h7) fun v8 h9 =>
 cl (cf 34 [x0, (.i .i64 (.ofNat 2))] h9) fun v10 h11 =>
 o1 (fieldV prog 61 v10 1) fun v12 =>
 fa 1 v5 fun v13 =>
 st 1 v13 v12 h11 fun h14 =>
 cl (cf 21 [x0] h14) fun v15 h16 =>
 o1 (fieldV prog 61 v15 3) fun v17 =>
 cl (cf 33 [x0, (.s ⟨1, 123⟩)] h16) fun v18 h19 =>
 nc x0 fun v20 =>
 fa 4 v20 fun v21 =>
 ld v21 h19 fun v22 =>
 o1 (unV .not v22) fun v23 =>
 loop 4 lf (F22_b3 cf lf) x0 v5 v17 v23 h19
def A22 : Ann := (.s (.r []) (.s (.r []) (.s (.r []) (.s (.r []) (.s (.r []) (.s (.r []) (.s (.r []) (.s (.b (.l [0, 3, 4, 5] (.s (.s (.r []) (.s .z .z)) (.b (.r []))))) (.s (.r []) (.j [0, 3, 6] (.b (.l [0, 3, 6] (.s (.s (.r [6]) (.s .z .z)) (.b (.d [] [1] [0, 1, 0, 4, 12, 31, 63, 127]))))) (.s (.d [] [1] [0, 1, 0, 0, 12, 28, 63, 127, 255]) (.s (.r []) .z))))))))))))
theorem F22_eq (cf : CallF) (lf : Nat) (x0 : V) (h : Heap) : bodyA prog 0 f22 (f22.body.getD .skip) A22 cf lf [x0] h = F22 cf lf x0 h := by kernel_rfl

-- (*footman/footmanref10.parser).put
noncomputable def F23 (cf : CallF) (lf : Nat) : Fv 2 := fun x0 x1 h =>
 al (V.cells x1) h fun v1 h2 =>
 nc x0 fun v3 =>
 fa 2 v3 fun v4 =>
 ld v4 h2 fun v5 =>
 let r6 : Rc := ⟨4, ⟨some (V.ids v4), [], h2.next, h2.next⟩, some (30, v4, v5), h2, h2⟩
 ldn 7 v1 h2 fun v7 =>
 o2 (buildSliceV prog 30 1 [(0, v7)] (Heap.mk h2.next h2.t [])) fun v8 h9 =>
 fh (Heap.new h9 .dead) fun h10 =>
 let r11 : Rc := ⟨6, ⟨(some (List.flatMap V.ids [])), h9.wl.filter (fun x => Nat.blt x h2.next), h2.next, Nat.succ h9.next⟩, none, h2, h10⟩
 o2 (appendV prog 30 30 v5 v8 (Heap.mk h10.next h10.t [])) fun v12 h13 =>
 fh (Heap.new h13 .dead) fun h14 =>
 let r15 : Rc := ⟨7, ⟨(some (List.flatMap V.ids [v5, v8])), h13.wl.filter (fun x => Nat.blt x h10.next), h10.next, Nat.succ h13.next⟩, none, h10, h14⟩
 nc x0 fun v16 =>
 fa 2 v16 fun v17 =>
 st 1 v17 v12 (Heap.mk h14.next h14.t []) fun h18 =>
 fh (Heap.new h18 .dead) fun h19 =>
 let r20 : Rc := ⟨10, ⟨(some (List.flatMap V.ids [v17])), h18.wl.filter (fun x => Nat.blt x h14.next), h14.next, Nat.succ h18.next⟩, none, h14, h19⟩
 ifB (pc prog r6 r11) (
 fh (Heap.mk h19.next h19.t (wrR [r6, r11, r15, r20] ++ h2.wl)) fun h21 =>
 nc x0 fun v22 =>
 fa 2 v22 fun v23 =>
 ld v23 h21 fun v24 =>
 lns v24 fun v25 =>
 bi .sub v25 (.i .i64 (.ofNat 1)) fun v26 =>
 rt v26 h21) .fail
def A23 : Ann := (.s (.r []) (.s (.d [] [4] [0, 0, 2, 6, 14, 0, 32, 126, 255, 511, 1023]) (.s (.r []) .z)))
theorem F23_eq (cf : CallF) (lf : Nat) (x0 : V) (x1 : V) (h : Heap) : bodyA prog 0 f23 (f23.body.getD .skip) A23 cf lf [x0, x1] h = F23 cf lf x0 x1 h := by kernel_rfl

-- footman/names.ups
noncomputable def F26_b1 (cf : CallF) (lf : Nat) (S7 : Fv 4) : Fv 8 → Fv 8 := fun S23 v24 v25 v26 v27 v28 v29 v30 v31 h32 =>
 bi .lss v31 v30 fun v33 =>
 vb v33 fun q34 => ifB q34 (
 ix 1 v29 v31 fun v35 =>
 ld v35 h32 fun v36 =>
 ix 1 v24 v36 fun v37 =>
 st 1 v37 v25 h32 fun h38 =>
 bi .add v31 (.i .i64 (.ofNat 1)) fun v39 =>
 S23 v24 v25 v26 v27 v28 v29 v30 v39 h38) (
 bi .add v28 (.i .i64 (.ofNat 1)) fun v40 =>
 S7 v24 v26 v27 v40 h32)
noncomputable def F26_b2 (cf : CallF) (lf : Nat) : Fv 4 → Fv 4 := fun S7 v8 v9 v10 v11 h12 =>
 bi .lss v11 v10 fun v13 =>
 vb v13 fun q14 => ifB q14 (
 ix 7 v9 v11 fun v15 =>
 ldn 7 v15 h12 fun v16 =>
 al (zl prog 66) h12 fun v17 h18 =>
 st 7 v17 v16 h18 fun h19 =>
 fa 5 v17 fun v20 =>
 ld v20 h19 fun v21 =>
 lns v21 fun v22 =>
 loop 8 lf (F26_b1 cf lf S7) v8 v11 v9 v10 v11 v21 v22 (.i .i64 (.ofNat 0)) h19) (
 rt v8 h12)
noncomputable def F26 (cf : CallF) (lf : Nat) : Fv 1 := fun x0 h =>
 o2 (buildSliceV prog 38 1 [(0, (.i .i64 (.negSucc 0)))] h) fun v1 h2 =>
 lns x0 fun v3 =>
 cl (cf 45 [v1, v3] h2) fun v4 h5 =>
 lns x0 fun v6 =>
 loop 4 lf (F26_b2 cf lf) v4 x0 v6 (.i .i64 (.ofNat 0)) h5
def A26 : Ann := (.s (.r []) (.s (.r []) (.s (.s (.r []) (.b (.l [3, 12, 13, 14] (.s (.r []) (.s (.s .z .z) (.s (.b (.s (.r []) (.s (.r []) (.b (.l [3, 4, 12, 13, 14, 20, 21, 22] (.s (.r []) (.s (.s .z .z) (.s (.b (.s (.r []) (.r []))) (.r []))))))))) (.r []))))))) (.s (.r []) .z))))
theorem F26_eq (cf : CallF) (lf : Nat) (x0 : V) (h : Heap) : bodyA prog 0 f26 (f26.body.getD .skip) A26 cf lf [x0] h = F26 cf lf x0 h := by kernel_rfl

-- (*footman/names.checker).task
noncomputable def F27_b1 (cf : CallF) (lf : Nat) : Fv 2 → Fv 2 := fun S1 v2 v3 h4 =>
 bi .geq v3 (.i .i64 (.ofNat 0)) fun v5 =>
 vb v5 fun q6 => ifB q6 (
 nc v2 fun v7 =>
 fa 0 v7 fun v8 =>
 ld v8 h4 fun v9 =>
 ix 7 v9 v3 fun v10 =>
 fa 0 v10 fun v11 =>
 ld v11 h4 fun v12 =>
 bi .neq v12 (.i .i64 (.ofNat 17)) fun v13 =>
 vb v13 fun q14 => ifB q14 (
 nc v2 fun v15 =>
 fa 5 v15 fun v16 =>
 ld v16 h4 fun v17 =>
 ix 1 v17 v3 fun v18 =>
 ld v18 h4 fun v19 =>
 S1 v2 v19 h4) (
 rt v3 h4)) (
 rt v3 h4)
noncomputable def F27 (cf : CallF) (lf : Nat) : Fv 2 := fun x0 x1 h =>
 loop 2 lf (F27_b1 cf lf) x0 x1 h
def A27 : Ann := (.s (.r []) (.s (.b (.l [0, 1] (.s (.s (.r [3]) (.s .z .z)) (.b (.r []))))) (.s (.r []) .z)))
theorem F27_eq (cf : CallF) (lf : Nat) (x0 : V) (x1 : V) (h : Heap) : bodyA prog 0 f27 (f27.body.getD .skip) A27 cf lf [x0, x1] h = F27 cf lf x0 x1 h := by kernel_rfl

-- (*footman/names.checker).wrong
noncomputable def F28 (cf : CallF) (lf : Nat) : Fv 2 := fun x0 x1 h =>
 nc x0 fun v1 =>
 fa 0 v1 fun v2 =>
 ld v2 h fun v3 =>
 ix 7 v3 x1 fun v4 =>
 ldn 7 v4 h fun v5 =>
 al (zl prog 66) h fun v6 h7 =>
 st 7 v6 v5 h7 fun h8 =>
 fa 0 v6 fun v9 =>
 ld v9 h8 fun v10 =>
 bi .eql v10 (.i .i64 (.ofNat 17)) fun v11 =>
 vb v11 fun q12 => ifB q12 (
 cl (cf 46 [x0, x1] h8) fun v13 h14 =>
 rt v13 h14) (
 bi .eql v10 (.i .i64 (.ofNat 7)) fun v15 =>
 vb v15 fun q16 => ifB q16 (
 cl (cf 47 [x0, x1] h8) fun v17 h18 =>
 rt v17 h18) (
 bi .eql v10 (.i .i64 (.ofNat 11)) fun v19 =>
 vb v19 fun q20 => ifB q20 (
 cl (cf 48 [x0, x1] h8) fun v21 h22 =>
 rt v21 h22) (
 bi .eql v10 (.i .i64 (.ofNat 2)) fun v23 =>
 vb v23 fun q24 => ifB q24 (
 fa 1 v6 fun v25 =>
 ld v25 h8 fun v26 =>
 cl (cf 49 [x0, x1, v26, (.b false)] h8) fun v27 h28 =>
 rt v27 h28) (
 bi .eql v10 (.i .i64 (.ofNat 8)) fun v29 =>
 vb v29 fun q30 => ifB q30 (
 fa 1 v6 fun v31 =>
 ld v31 h8 fun v32 =>
 cl (cf 49 [x0, x1, v32, (.b true)] h8) fun v33 h34 =>
 rt v33 h34) (
 bi .eql v10 (.i .i64 (.ofNat 3)) fun v35 =>
 vb v35 fun q36 => ifB q36 (
 fa 1 v6 fun v37 =>
 ld v37 h8 fun v38 =>
 cl (cf 50 [x0, x1, v38, (.b false)] h8) fun v39 h40 =>
 rt v39 h40) (
 bi .eql v10 (.i .i64 (.ofNat 9)) fun v41 =>
 vb v41 fun q42 => ifB q42 (
 fa 1 v6 fun v43 =>
 ld v43 h8 fun v44 =>
 cl (cf 50 [x0, x1, v44, (.b true)] h8) fun v45 h46 =>
 rt v45 h46) (
 bi .eql v10 (.i .i64 (.ofNat 12)) fun v47 =>
 vb v47 fun q48 => ifB q48 (
 cl (cf 51 [x0, x1, (.b false)] h8) fun v49 h50 =>
 rt v49 h50) (
 bi .eql v10 (.i .i64 (.ofNat 13)) fun v51 =>
 vb v51 fun q52 => ifB q52 (
 cl (cf 52 [x0, x1] h8) fun v53 h54 =>
 rt v53 h54) (
 rt (.i .i64 (.ofNat 0)) h8)))))))))
def A28 : Ann := (.s (.r []) (.s (.r []) (.s (.s (.r []) (.b (.s (.r []) (.s (.s (.r []) .z) (.s (.r []) (.s (.s (.r []) .z) (.s (.r []) (.s (.s (.r []) .z) (.s (.r []) (.s (.s (.r []) .z) (.s (.r []) (.s (.s (.r []) .z) (.s (.r []) (.s (.s (.r []) .z) (.s (.r []) (.s (.s (.r []) .z) (.s (.r []) (.s (.s (.r []) .z) (.s (.r []) (.s (.s (.r []) .z) .z)))))))))))))))))))) (.s (.r []) .z))))
theorem F28_eq (cf : CallF) (lf : Nat) (x0 : V) (x1 : V) (h : Heap) : bodyA prog 0 f28 (f28.body.getD .skip) A28 cf lf [x0, x1] h = F28 cf lf x0 x1 h := by kernel_rfl

-- (*footman/names.checker).missing
noncomputable def F29 (cf : CallF) (lf : Nat) : Fv 1 := fun x0 h =>
 al (V.cells x0) h fun v1 h2 =>
 ld v1 h2 fun v3 =>
 nc v3 fun v4 =>
 fa 1 v4 fun v5 =>
 fa 1 v5 fun v6 =>
 ld v6 h2 fun v7 =>
 cl (cf 43 [v7, (.f (.func 53) [] [v1])] h2) fun v8 h9 =>
 rt v8 h9
def A29 : Ann := (.s (.r []) (.s (.r []) .z))
theorem F29_eq (cf : CallF) (lf : Nat) (x0 : V) (h : Heap) : bodyA prog 0 f29 (f29.body.getD .skip) A29 cf lf [x0] h = F29 cf lf x0 h := by kernel_rfl

-- footman/footmanref10.Next
noncomputable def F32_b1 (cf : CallF) (lf : Nat) (J27 : Fv 4) : Fv 4 → Fv 4 := fun S28 v29 v30 v31 v32 h33 =>
 lnt v29 fun v34 =>
 bi .lss v32 v34 fun v35 =>
 vb v35 fun q36 => ifB q36 (
 o1 (indexV prog 9 v29 v32) fun v37 =>
 cl (cf 59 [v37] h33) fun v38 h39 =>
 vb v38 fun q40 => ifB q40 (
 bi .add v32 (.i .i64 (.ofNat 1)) fun v41 =>
 S28 v29 v30 v31 v41 h39) (
 o1 (indexV prog 9 v29 v32) fun v42 =>
 cl (cf 57 [v42] h39) fun v43 h44 =>
 vb v43 fun q45 => ifB q45 (
 bi .add v32 (.i .i64 (.ofNat 1)) fun v46 =>
 S28 v29 v30 v31 v46 h44) (
 J27 v29 v30 v31 v32 h44))) (
 J27 v29 v30 v31 v32 h33)
noncomputable def F32_j2 (cf : CallF) (lf : Nat) : Fv 5 := fun v58 v59 v60 v61 v62 h63 =>
 o2 (sliceV prog 9 v58 (some v59) (some v61) none h63) fun v64 h65 =>
 o1 (buildV prog 61 [(0, v62), (1, v64), (3, v59)]) fun v66 =>
 o1 (buildV prog 80 [(0, v66), (1, v61)]) fun v67 =>
 st 5 v60 v67 h65 fun h68 =>
 ldn 5 v60 h68 fun v69 =>
 rt v69 h68
noncomputable def F32_j3 (cf : CallF) (lf : Nat) : Fv 4 := fun v47 v48 v49 v50 h51 =>
 jn 5 (fun J52 =>
 o2 (sliceV prog 9 v47 (some v48) (some v50) none h51) fun v53 h54 =>
 cl (cf 60 [v53] h54) fun v55 h56 =>
 vb v55 fun q57 => ifB q57 (
 J52 v47 v48 v49 v50 (.i .i64 (.ofNat 3)) h56) (
 J52 v47 v48 v49 v50 (.i .i64 (.ofNat 2)) h56)) (F32_j2 cf lf)
noncomputable def F32_j4 (cf : CallF) (lf : Nat) (S72 : Fv 5) : Fv 7 := fun v100 v101 v102 v103 v104 v105 v106 h107 =>
 vb v106 fun q108 => ifB q108 (
 ix 1 v103 v104 fun v109 =>
 ld v109 h107 fun v110 =>
 o1 (buildV prog 61 [(0, (.i .i64 (.ofNat 4))), (1, v110), (3, v101)]) fun v111 =>
 bi .add v101 v105 fun v112 =>
 o1 (buildV prog 80 [(0, v111), (1, v112)]) fun v113 =>
 st 5 v102 v113 h107 fun h114 =>
 ldn 5 v102 h114 fun v115 =>
 rt v115 h114) (
 bi .add v104 (.i .i64 (.ofNat 1)) fun v116 =>
 S72 v100 v101 v102 v103 v116 h107)
noncomputable def F32_b5 (cf : CallF) (lf : Nat) : Fv 5 → Fv 5 := fun S72 v73 v74 v75 v76 v77 h78 =>
 lns v76 fun v79 =>
 bi .lss v77 v79 fun v80 =>
 vb v80 fun q81 => ifB q81 (
 ix 1 v76 v77 fun v82 =>
 ld v82 h78 fun v83 =>
 lnt v83 fun v84 =>
 jn 7 (fun J85 =>
 lnt v73 fun v86 =>
 bi .sub v86 v74 fun v87 =>
 bi .geq v87 v84 fun v88 =>
 vb v88 fun q89 => ifB q89 (
 bi .add v74 v84 fun v90 =>
 o2 (sliceV prog 9 v73 (some v74) (some v90) none (Heap.mk h78.next h78.t [])) fun v91 h92 =>
 fh (Heap.new h92 .dead) fun h93 =>
 let r94 : Rc := ⟨12, ⟨(some (List.flatMap V.ids [v73])), h92.wl.filter (fun x => Nat.blt x h78.next), h78.next, Nat.succ h92.next⟩, none, h78, h93⟩
 ix 1 v76 v77 fun v95 =>
 ld v95 h93 fun v96 =>
 let r97 : Rc := ⟨16, ⟨some (V.ids v95), [], h93.next, h93.next⟩, some (9, v95, v96), h93, h93⟩
 bs .eql v91 v96 fun v98 =>
 ifB (pc prog r94 r97) (
 fh (Heap.mk h93.next h93.t (wrR [r94, r97] ++ h78.wl)) fun h99 =>
 J85 v73 v74 v75 v76 v77 v84 v98 h99) .fail) (
 J85 v73 v74 v75 v76 v77 v84 (.b false) h78)) (F32_j4 cf lf S72)) (
 o1 (buildV prog 61 [(0, (.i .i64 (.ofNat 5))), (3, v74)]) fun v117 =>
 o1 (buildV prog 80 [(0, v117), (1, v74)]) fun v118 =>
 st 5 v75 v118 h78 fun h119 =>
 ldn 5 v75 h119 fun v120 =>
 rt v120 h119)
noncomputable def F32 (cf : CallF) (lf : Nat) : Fv 2 := fun x0 x1 h =>
 al (zl prog 80) h fun v1 h2 =>
 lnt x0 fun v3 =>
 o1 (minmaxV ilt [x1, v3]) fun v4 =>
 o1 (minmaxV (fun y x => ilt x y) [(.i .i64 (.ofNat 0)), v4]) fun v5 =>
 cl (cf 56 [x0, v5] h2) fun v6 h7 =>
 lnt x0 fun v8 =>
 bi .eql v6 v8 fun v9 =>
 vb v9 fun q10 => ifB q10 (
 o1 (buildV prog 61 [(3, v6)]) fun v11 =>
 o1 (buildV prog 80 [(0, v11), (1, v6)]) fun v12 =>
 st 5 v1 v12 h7 fun h13 =>
 ldn 5 v1 h13 fun v14 =>
 rt v14 h13) (
 o1 (indexV prog 9 x0 v6) fun v15 =>
 cl (cf 57 [v15] h7) fun v16 h17 =>
 vb v16 fun q18 => ifB q18 (
 cl (cf 58 [x0, v6] h17) fun v19 h20 =>
 st 5 v1 v19 h20 fun h21 =>
 ldn 5 v1 h21 fun v22 =>
 rt v22 h21) (
 o1 (indexV prog 9 x0 v6) fun v23 =>
 cl (cf 59 [v23] h17) fun v24 h25 =>
 vb v24 fun q26 => ifB q26 (
 jn 4 (fun J27 =>
 loop 4 lf (F32_b1 cf lf J27) x0 v6 v1 v6 h25) (F32_j3 cf lf)) (
 cl (cf 61 [] h25) fun v70 h71 =>
 loop 5 lf (F32_b5 cf lf) x0 v6 v1 v70 (.i .i64 (.ofNat 0)) h71)))
def A32 : Ann := (.s (.r []) (.s (.r []) (.s (.s (.r []) (.s (.s (.r []) .z) .z)) (.s (.s (.r []) (.s (.s (.r []) .z) .z)) (.s (.s (.r []) (.s (.s (.r []) (.j [0, 1, 4, 5] (.b (.l [0, 1, 4, 5] (.s (.s (.r [5, 10, 14]) (.s .z .z)) (.b (.r []))))) (.s (.r []) (.j [0, 1, 4, 5, 6] (.s (.r []) (.s (.r []) .z)) (.s (.r []) .z))))) .z)) (.s (.r []) (.s (.s (.r []) (.b (.l [0, 1, 4, 7, 8] (.s (.s (.r []) (.s .z .z)) (.s (.b (.s (.r []) (.j [0, 1, 4, 7, 8, 9, 99] (.d [7] [16] [0, 1, 0, 7, 0, 31, 63, 127, 127, 127, 127, 1663, 4095, 127, 127, 24703, 57471, 131071, 262143]) (.s (.s (.r []) .z) .z)))) (.r [])))))) (.s (.r []) .z))))))))
theorem F32_eq (cf : CallF) (lf : Nat) (x0 : V) (x1 : V) (h : Heap) : bodyA prog 0 f32 (f32.body.getD .skip) A32 cf lf [x0, x1] h = F32 cf lf x0 x1 h := by kernel_rfl

-- (*footman/footmanref10.parser).must
noncomputable def F33 (cf : CallF) (lf : Nat) : Fv 2 := fun x0 x1 h =>
 cl (cf 36 [x0, x1] h) fun v1 h2 =>
 o1 (unV .not v1) fun v3 =>
 vb v3 fun q4 => ifB q4 (
 nc x0 fun v5 =>
 fa 4 v5 fun v6 =>
 st 1 v6 (.b true) h2 fun h7 =>
 rt (.tup []) h7) (
 rt (.tup []) h2)
def A33 : Ann := (.s (.r []) (.s (.r []) .z))
theorem F33_eq (cf : CallF) (lf : Nat) (x0 : V) (x1 : V) (h : Heap) : bodyA prog 0 f33 (f33.body.getD .skip) A33 cf lf [x0, x1] h = F33 cf lf x0 x1 h := by kernel_rfl

-- (*footman/footmanref10.parser).kind
noncomputable def F34_j1 (cf : CallF) (lf : Nat) : Fv 3 := fun v29 v30 v31 h32 =>
 nc v29 fun v33 =>
 fa 1 v33 fun v34 =>
 ld v34 h32 fun v35 =>
 bi .add v35 (.i .i64 (.ofNat 1)) fun v36 =>
 nc v29 fun v37 =>
 fa 1 v37 fun v38 =>
 st 1 v38 v36 h32 fun h39 =>
 ldn 4 v31 h39 fun v40 =>
 st 4 v30 v40 h39 fun h41 =>
 ldn 4 v30 h41 fun v42 =>
 rt v42 h41
noncomputable def F34 (cf : CallF) (lf : Nat) : Fv 2 := fun x0 x1 h =>
 al (zl prog 61) h fun v1 h2 =>
 cl (cf 21 [x0] h2) fun v3 h4 =>
 al (zl prog 61) h4 fun v5 h6 =>
 st 4 v5 v3 h6 fun h7 =>
 jn 3 (fun J8 =>
 nc x0 fun v9 =>
 fa 4 v9 fun v10 =>
 ld v10 h7 fun v11 =>
 vb v11 fun q12 => ifB q12 (
 nc x0 fun v13 =>
 fa 4 v13 fun v14 =>
 st 1 v14 (.b true) h7 fun h15 =>
 o1 (buildV prog 61 []) fun v16 =>
 st 4 v1 v16 h15 fun h17 =>
 ldn 4 v1 h17 fun v18 =>
 rt v18 h17) (
 fa 0 v5 fun v19 =>
 ld v19 h7 fun v20 =>
 bi .neq v20 x1 fun v21 =>
 vb v21 fun q22 => ifB q22 (
 nc x0 fun v23 =>
 fa 4 v23 fun v24 =>
 st 1 v24 (.b true) h7 fun h25 =>
 o1 (buildV prog 61 []) fun v26 =>
 st 4 v1 v26 h25 fun h27 =>
 ldn 4 v1 h27 fun v28 =>
 rt v28 h27) (
 J8 x0 v1 v5 h7))) (F34_j1 cf lf)
def A34 : Ann := (.s (.r []) (.s (.r []) (.j [0, 4, 5] (.s (.r [5]) (.s (.s (.r []) (.s (.r []) .z)) .z)) (.s (.r []) (.s (.r []) .z)))))
theorem F34_eq (cf : CallF) (lf : Nat) (x0 : V) (x1 : V) (h : Heap) : bodyA prog 0 f34 (f34.body.getD .skip) A34 cf lf [x0, x1] h = F34 cf lf x0 x1 h := by kernel_rfl

-- (*footman/footmanref10.parser).variable
noncomputable def F35_j1 (cf : CallF) (lf : Nat) : Fv 3 := fun v125 v126 v127 h128 =>
 cl (cf 33 [v125, (.s ⟨1, 59⟩)] h128) fun v129 h130 =>
 ldn 7 v127 h130 fun v131 =>
 cln (cf 23 [v125, v131] (Heap.mk h130.next h130.t [])) fun v132 h133 =>
 fh (Heap.new h133 .dead) fun h134 =>
 let r135 : Rc := ⟨3, ⟨none, h133.wl.filter (fun x => Nat.blt x h130.next), h130.next, Nat.succ h133.next⟩, none, h130, h134⟩
 o2 (buildSliceV prog 38 1 [(0, v132)] (Heap.mk h134.next h134.t [])) fun v136 h137 =>
 fh (Heap.new h137 .dead) fun h138 =>
 let r139 : Rc := ⟨4, ⟨(some (List.flatMap V.ids [])), h137.wl.filter (fun x => Nat.blt x h134.next), h134.next, Nat.succ h137.next⟩, none, h134, h138⟩
 o2 (appendV prog 38 38 v126 v136 (Heap.mk h138.next h138.t [])) fun v140 h141 =>
 fh (Heap.new h141 .dead) fun h142 =>
 let r143 : Rc := ⟨5, ⟨(some (List.flatMap V.ids [v126, v136])), h141.wl.filter (fun x => Nat.blt x h138.next), h138.next, Nat.succ h141.next⟩, none, h138, h142⟩
 nc v125 fun v144 =>
 fa 4 v144 fun v145 =>
 ld v145 h142 fun v146 =>
 let r147 : Rc := ⟨9, ⟨some (V.ids v145), [], h142.next, h142.next⟩, some (4, v145, v146), h142, h142⟩
 o1 (unV .not v146) fun v148 =>
 ifB (pc prog r135 r147) (
 ifB (pc prog r139 r147) (
 ifB (pc prog r143 r147) (
 fh (Heap.mk h142.next h142.t (wrR [r135, r139, r143, r147] ++ h130.wl)) fun h149 =>
 rt (.tup [v140, v148]) h149) .fail) .fail) .fail
noncomputable def F35_j2 (cf : CallF) (lf : Nat) : Fv 3 := fun v105 v106 v107 h108 =>
 jn 3 (fun J109 =>
 cl (cf 36 [v105, (.s ⟨1, 91⟩)] h108) fun v110 h111 =>
 vb v110 fun q112 => ifB q112 (
 fa 4 v107 fun v113 =>
 ld v113 h111 fun v114 =>
 bi .or v114 (.i .i64 (.ofNat 8)) fun v115 =>
 fa 4 v107 fun v116 =>
 st 1 v116 v115 h111 fun h117 =>
 cl (cf 34 [v105, (.i .i64 (.ofNat 1))] h117) fun v118 h119 =>
 o1 (fieldV prog 61 v118 2) fun v120 =>
 fa 3 v107 fun v121 =>
 st 1 v121 v120 h119 fun h122 =>
 cl (cf 33 [v105, (.s ⟨1, 93⟩)] h122) fun v123 h124 =>
 J109 v105 v106 v107 h124) (
 J109 v105 v106 v107 h111)) (F35_j1 cf lf)
noncomputable def F35_j3 (cf : CallF) (lf : Nat) : Fv 3 := fun v83 v84 v85 h86 =>
 cl (cf 34 [v83, (.i .i64 (.ofNat 2))] h86) fun v87 h88 =>
 o1 (fieldV prog 61 v87 1) fun v89 =>
 fa 1 v85 fun v90 =>
 st 1 v90 v89 h88 fun h91 =>
 jn 3 (fun J92 =>
 fa 4 v85 fun v93 =>
 ld v93 h91 fun v94 =>
 bi .and v94 (.i .i64 (.ofNat 2)) fun v95 =>
 bi .neq v95 (.i .i64 (.ofNat 0)) fun v96 =>
 vb v96 fun q97 => ifB q97 (
 cl (cf 62 [v83, (.s ⟨1, 91⟩)] h91) fun v98 h99 =>
 o1 (unV .not v98) fun v100 =>
 vb v100 fun q101 => ifB q101 (
 nc v83 fun v102 =>
 fa 4 v102 fun v103 =>
 st 1 v103 (.b true) h99 fun h104 =>
 J92 v83 v84 v85 h104) (
 J92 v83 v84 v85 h99)) (
 J92 v83 v84 v85 h91)) (F35_j2 cf lf)
noncomputable def F35_j4 (cf : CallF) (lf : Nat) : Fv 3 := fun v68 v69 v70 h71 =>
 jn 3 (fun J72 =>
 cl (cf 36 [v68, (.s ⟨6, 127979059635571⟩)] h71) fun v73 h74 =>
 vb v73 fun q75 => ifB q75 (
 fa 4 v70 fun v76 =>
 ld v76 h74 fun v77 =>
 bi .or v77 (.i .i64 (.ofNat 1)) fun v78 =>
 fa 4 v70 fun v79 =>
 st 1 v79 v78 h74 fun h80 =>
 J72 v68 v69 v70 h80) (
 cl (cf 33 [v68, (.s ⟨6, 109304441107824⟩)] h74) fun v81 h82 =>
 J72 v68 v69 v70 h82)) (F35_j3 cf lf)
noncomputable def F35_j5 (cf : CallF) (lf : Nat) : Fv 3 := fun v58 v59 v60 h61 =>
 jn 3 (fun J62 =>
 cl (cf 36 [v58, (.s ⟨5, 500186508905⟩)] h61) fun v63 h64 =>
 vb v63 fun q65 => ifB q65 (
 fa 4 v60 fun v66 =>
 st 1 v66 (.i .i64 (.ofNat 2)) h64 fun h67 =>
 J62 v58 v59 v60 h67) (
 J62 v58 v59 v60 h64)) (F35_j4 cf lf)
noncomputable def F35 (cf : CallF) (lf : Nat) : Fv 2 := fun x0 x1 h =>
 cl (cf 21 [x0] h) fun v1 h2 =>
 al (zl prog 61) h2 fun v3 h4 =>
 st 4 v3 v1 h4 fun h5 =>
 fa 3 v3 fun v6 =>
 ld v6 h5 fun v7 =>
 o1 (buildV prog 66 [(0, (.i .i64 (.ofNat 7))), (6, v7)]) fun v8 =>
 al (zl prog 66) h5 fun v9 h10 =>
 st 7 v9 v8 h10 fun h11 =>
 cl (cf 36 [x0, (.s ⟨3, 7955819⟩)] h11) fun v12 h13 =>
 vb v12 fun q14 => ifB q14 (
 fa 4 v9 fun v15 =>
 st 1 v15 (.i .i64 (.ofNat 13)) h13 fun h16 =>
 fa 3 v9 fun v17 =>
 st 1 v17 (.i .u32 (.ofNat 4)) h16 fun h18 =>
 cl (cf 34 [x0, (.i .i64 (.ofNat 2))] h18) fun v19 h20 =>
 o1 (fieldV prog 61 v19 1) fun v21 =>
 fa 1 v9 fun v22 =>
 st 1 v22 v21 h20 fun h23 =>
 cl (cf 33 [x0, (.s ⟨1, 59⟩)] h23) fun v24 h25 =>
 ldn 7 v9 h25 fun v26 =>
 cln (cf 23 [x0, v26] (Heap.mk h25.next h25.t [])) fun v27 h28 =>
 fh (Heap.new h28 .dead) fun h29 =>
 let r30 : Rc := ⟨3, ⟨none, h28.wl.filter (fun x => Nat.blt x h25.next), h25.next, Nat.succ h28.next⟩, none, h25, h29⟩
 o2 (buildSliceV prog 38 1 [(0, v27)] (Heap.mk h29.next h29.t [])) fun v31 h32 =>
 fh (Heap.new h32 .dead) fun h33 =>
 let r34 : Rc := ⟨4, ⟨(some (List.flatMap V.ids [])), h32.wl.filter (fun x => Nat.blt x h29.next), h29.next, Nat.succ h32.next⟩, none, h29, h33⟩
 o2 (appendV prog 38 38 x1 v31 (Heap.mk h33.next h33.t [])) fun v35 h36 =>
 fh (Heap.new h36 .dead) fun h37 =>
 let r38 : Rc := ⟨5, ⟨(some (List.flatMap V.ids [x1, v31])), h36.wl.filter (fun x => Nat.blt x h33.next), h33.next, Nat.succ h36.next⟩, none, h33, h37⟩
 nc x0 fun v39 =>
 fa 4 v39 fun v40 =>
 ld v40 h37 fun v41 =>
 let r42 : Rc := ⟨9, ⟨some (V.ids v40), [], h37.next, h37.next⟩, some (4, v40, v41), h37, h37⟩
 o1 (unV .not v41) fun v43 =>
 ifB (pc prog r30 r42) (
 ifB (pc prog r34 r42) (
 ifB (pc prog r38 r42) (
 fh (Heap.mk h37.next h37.t (wrR [r30, r34, r38, r42] ++ h25.wl)) fun h44 =>
 rt (.tup [v35, v43]) h44) .fail) .fail) .fail) (
 jn 3 (fun J45 =>
 cl (cf 62 [x0, (.s ⟨5, 500186508905⟩)] h13) fun v46 h47 =>
 o1 (unV .not v46) fun v48 =>
 vb v48 fun q49 => ifB q49 (
 cl (cf 62 [x0, (.s ⟨6, 109304441107824⟩)] h47) fun v50 h51 =>
 o1 (unV .not v50) fun v52 =>
 vb v52 fun q53 => ifB q53 (
 cl (cf 62 [x0, (.s ⟨6, 127979059635571⟩)] h51) fun v54 h55 =>
 o1 (unV .not v54) fun v56 =>
 vb v56 fun q57 => ifB q57 (
 rt (.tup [x1, (.b false)]) h55) (
 J45 x0 x1 v9 h55)) (
 J45 x0 x1 v9 h51)) (
 J45 x0 x1 v9 h47)) (F35_j5 cf lf))
def A35 : Ann := (.s (.r []) (.s (.r []) (.s (.r []) (.s (.s (.r []) (.s (.s (.r []) (.s (.r []) (.s (.r []) (.s (.r []) (.s (.d [] [9] [0, 0, 0, 6, 14, 31, 0, 64, 192, 448, 960, 63, 4095]) .z))))) .z)) (.j [0, 1, 7] (.s (.r [4, 9]) (.s (.s (.r []) .z) .z)) (.j [0, 1, 7] (.s (.r []) (.s (.r []) .z)) (.j [0, 1, 7] (.s (.r []) (.s (.r []) (.r []))) (.s (.r []) (.j [0, 1, 7] (.s (.r [5]) (.s (.r []) .z)) (.j [0, 1, 7] (.s (.r []) (.s (.s (.r []) (.s (.r []) (.r []))) .z)) (.s (.r []) (.s (.d [] [9] [0, 0, 0, 6, 14, 31, 0, 64, 192, 448, 960, 63, 4095]) .z))))))))))))
theorem F35_eq (cf : CallF) (lf : Nat) (x0 : V) (x1 : V) (h : Heap) : bodyA prog 0 f35 (f35.body.getD .skip) A35 cf lf [x0, x1] h = F35 cf lf x0 x1 h := by kernel_rfl

-- (*footman/footmanref10.parser).take
noncomputable def F36 (cf : CallF) (lf : Nat) : Fv 2 := fun x0 x1 h =>
 cl (cf 62 [x0, x1] h) fun v1 h2 =>
 vb v1 fun q3 => ifB q3 (
 nc x0 fun v4 =>
 fa 1 v4 fun v5 =>
 ld v5 h2 fun v6 =>
 bi .add v6 (.i .i64 (.ofNat 1)) fun v7 =>
 nc x0 fun v8 =>
 fa 1 v8 fun v9 =>
 st 1 v9 v7 h2 fun h10 =>
 rt (.b true) h10) (
 rt (.b false) h2)
def A36 : Ann := (.s (.r []) (.s (.s (.r []) (.s (.s (.r []) (.s (.r []) .z)) .z)) (.s (.r []) .z)))
theorem F36_eq (cf : CallF) (lf : Nat) (x0 : V) (x1 : V) (h : Heap) : bodyA prog 0 f36 (f36.body.getD .skip) A36 cf lf [x0, x1] h = F36 cf lf x0 x1 h := by kernel_rfl

-- (*footman/footmanref10.parser).s
noncomputable def F37 (cf : CallF) (lf : Nat) : Fv 1 := fun x0 h =>
 cl (cf 63 [x0] h) fun v1 h2 =>
 nc x0 fun v3 =>
 fa 4 v3 fun v4 =>
 ld v4 h2 fun v5 =>
 vb v5 fun q6 => ifB q6 (
 rt (.i .i64 (.ofNat 0)) h2) (
 cl (cf 64 [x0] h2) fun v7 h8 =>
 nc x0 fun v9 =>
 fa 3 v9 fun v10 =>
 ld v10 h8 fun v11 =>
 bi .sub v11 (.i .i64 (.ofNat 1)) fun v12 =>
 nc x0 fun v13 =>
 fa 3 v13 fun v14 =>
 st 1 v14 v12 h8 fun h15 =>
 rt v7 h15)
def A37 : Ann := (.s (.r []) (.s (.r []) (.s (.s (.r []) (.s (.s (.r []) .z) .z)) (.s (.r []) (.s (.r []) (.s (.r []) .z))))))
theorem F37_eq (cf : CallF) (lf : Nat) (x0 : V) (h : Heap) : bodyA prog 0 f37 (f37.body.getD .skip) A37 cf lf [x0] h = F37 cf lf x0 h := by kernel_rfl

-- slices.ContainsFunc[[]string,string]
noncomputable def F43 (cf : CallF) (lf : Nat) : Fv 2 := fun x0 x1 h =>
 cl (cf 67 [x0, x1] h) fun v1 h2 =>
 bi .geq v1 (.i .i64 (.ofNat 0)) fun v3 =>
 rt v3 h2
def A43 : Ann := (.s (.r []) (.s (.r []) .z))
theorem F43_eq (cf : CallF) (lf : Nat) (x0 : V) (x1 : V) (h : Heap) : bodyA prog 0 f43 (f43.body.getD .skip) A43 cf lf [x0, x1] h = F43 cf lf x0 x1 h := by kernel_rfl

-- slices.Repeat[[]int,int]
noncomputable def F45_b1 (cf : CallF) (lf : Nat) : Fv 2 → Fv 2 := fun S30 v31 v32 h33 =>
 lns v31 fun v34 =>
 bi .lss v32 v34 fun v35 =>
 vb v35 fun q36 => ifB q36 (
 o2 (sliceV prog 38 v31 (some v32) none none (Heap.mk h33.next h33.t [])) fun v37 h38 =>
 fh (Heap.new h38 .dead) fun h39 =>
 let r40 : Rc := ⟨3, ⟨(some (List.flatMap V.ids [v31])), h38.wl.filter (fun x => Nat.blt x h33.next), h33.next, Nat.succ h38.next⟩, none, h33, h39⟩
 o2 (sliceV prog 38 v31 none (some v32) none (Heap.mk h39.next h39.t [])) fun v41 h42 =>
 fh (Heap.new h42 .dead) fun h43 =>
 let r44 : Rc := ⟨6, ⟨(some (List.flatMap V.ids [v31])), h42.wl.filter (fun x => Nat.blt x h39.next), h39.next, Nat.succ h42.next⟩, none, h39, h43⟩
 o2 (copyV prog 38 v37 v41 (Heap.mk h43.next h43.t [])) fun v45 h46 =>
 fh (Heap.new h46 .dead) fun h47 =>
 let r48 : Rc := ⟨7, ⟨(some (List.flatMap V.ids [v37, v41])), h46.wl.filter (fun x => Nat.blt x h43.next), h43.next, Nat.succ h46.next⟩, none, h43, h47⟩
 bi .add v32 v45 fun v49 =>
 ifB (pc prog r40 r44) (
 fh (Heap.mk h47.next h47.t (wrR [r40, r44, r48] ++ h33.wl)) fun h50 =>
 S30 v31 v49 h50) .fail) (
 rt v31 h33)
noncomputable def F45_j2 (cf : CallF) (lf : Nat) : Fv 2 := fun v22 v23 h24 =>
 cv .i64 v23 fun v25 =>
 o2 (makeSliceV prog 38 v25 v25 h24) fun v26 h27 =>
 o2 (copyV prog 38 v26 v22 h27) fun v28 h29 =>
 loop 2 lf (F45_b1 cf lf) v26 v28 h29
noncomputable def F45_j3 (cf : CallF) (lf : Nat) : Fv 2 := fun v5 v6 h7 =>
 lns v5 fun v8 =>
 cv .u64 v8 fun v9 =>
 cv .u64 v6 fun v10 =>
 cl (cf 68 [v9, v10] h7) fun v11 h12 =>
 o1 (extractV v11 0) fun v13 =>
 o1 (extractV v11 1) fun v14 =>
 jn 2 (fun J15 =>
 bi .gtr v13 (.i .u64 (.ofNat 0)) fun v16 =>
 vb v16 fun q17 => ifB q17 (
 o1 (makeIfaceV prog 9 (.s ⟨40, 963418128638552869720407654453272125421877327008697887680703274632671259614598848762731909441652⟩)) fun v18 =>
 pn v18 h12) (
 bi .gtr v14 (.i .u64 (.ofNat 9223372036854775807)) fun v19 =>
 vb v19 fun q20 => ifB q20 (
 o1 (makeIfaceV prog 9 (.s ⟨40, 963418128638552869720407654453272125421877327008697887680703274632671259614598848762731909441652⟩)) fun v21 =>
 pn v21 h12) (
 J15 v5 v14 h12))) (F45_j2 cf lf)
noncomputable def F45 (cf : CallF) (lf : Nat) : Fv 2 := fun x0 x1 h =>
 jn 2 (fun J1 =>
 bi .lss x1 (.i .i64 (.ofNat 0)) fun v2 =>
 vb v2 fun q3 => ifB q3 (
 o1 (makeIfaceV prog 9 (.s ⟨18, 8838634371626034279618351153450530198413667⟩)) fun v4 =>
 pn v4 h) (
 J1 x0 x1 h)) (F45_j3 cf lf)
def A45 : Ann := (.s (.r []) (.j [0, 1] (.s (.r []) (.s (.r []) .z)) (.s (.r []) (.j [0, 6] (.s (.r [3]) (.s (.r []) .z)) (.s (.r []) (.s (.r []) (.s (.b (.l [7, 8] (.s (.s (.r []) (.s .z .z)) (.b (.d [] [] [0, 0, 0, 6, 0, 0, 48, 126, 255, 511]))))) (.s (.r []) .z))))))))
theorem F45_eq (cf : CallF) (lf : Nat) (x0 : V) (x1 : V) (h : Heap) : bodyA prog 0 f45 (f45.body.getD .skip) A45 cf lf [x0, x1] h = F45 cf lf x0 x1 h := by kernel_rfl

-- (*footman/names.checker).aTask
noncomputable def F46 (cf : CallF) (lf : Nat) : Fv 2 := fun x0 x1 h =>
 nc x0 fun v1 =>
 fa 0 v1 fun v2 =>
 ld v2 h fun v3 =>
 ix 7 v3 x1 fun v4 =>
 fa 1 v4 fun v5 =>
 ld v5 h fun v6 =>
 al (zl prog 9) h fun v7 h8 =>
 st 1 v7 v6 h8 fun h9 =>
 nc x0 fun v10 =>
 fa 1 v10 fun v11 =>
 ldn 4 v11 h9 fun v12 =>
 ld v7 h9 fun v13 =>
 cln (cf 69 [v12, v13] (Heap.mk h9.next h9.t [])) fun v14 h15 =>
 fh (Heap.new h15 .dead) fun h16 =>
 let r17 : Rc := ⟨5, ⟨none, h15.wl.filter (fun x => Nat.blt x h9.next), h9.next, Nat.succ h15.next⟩, none, h9, h16⟩
 o1 (extractV v14 0) fun v18 =>
 o1 (extractV v14 1) fun v19 =>
 fh (Heap.mk h16.next h16.t (wrR [r17] ++ h9.wl)) fun h20 =>
 o1 (unV .not v19) fun v21 =>
 vb v21 fun q22 => ifB q22 (
 rt (.i .i64 (.ofNat 6)) h20) (
 nc x0 fun v23 =>
 fa 0 v23 fun v24 =>
 ld v24 h20 fun v25 =>
 o2 (sliceV prog 30 v25 none (some x1) none h20) fun v26 h27 =>
 cl (cf 54 [v26, (.f (.func 70) [] [v7])] h27) fun v28 h29 =>
 vb v28 fun q30 => ifB q30 (
 rt (.i .i64 (.ofNat 6)) h29) (
 rt (.i .i64 (.ofNat 0)) h29))
def A46 : Ann := (.s (.r []) (.s (.r []) (.s (.d [] [] [0, 1, 3, 7, 0, 31, 63, 127, 127, 255, 1023]) (.s (.s (.r [3]) (.s (.s (.r []) .z) .z)) (.s (.r []) .z)))))
theorem F46_eq (cf : CallF) (lf : Nat) (x0 : V) (x1 : V) (h : Heap) : bodyA prog 0 f46 (f46.body.getD .skip) A46 cf lf [x0, x1] h = F46 cf lf x0 x1 h := by kernel_rfl

-- (*footman/names.checker).aVar
noncomputable def F47_j1 (cf : CallF) (lf : Nat) : Fv 3 := fun v41 v42 v43 h44 =>
 fa 4 v43 fun v45 =>
 ld v45 h44 fun v46 =>
 bi .and v46 (.i .i64 (.ofNat 4)) fun v47 =>
 bi .neq v47 (.i .i64 (.ofNat 0)) fun v48 =>
 vb v48 fun q49 => ifB q49 (
 nc v41 fun v50 =>
 fa 1 v50 fun v51 =>
 ldn 4 v51 h44 fun v52 =>
 fa 1 v43 fun v53 =>
 ld v53 h44 fun v54 =>
 cln (cf 71 [v52, v54] (Heap.mk h44.next h44.t [])) fun v55 h56 =>
 fh (Heap.new h56 .dead) fun h57 =>
 let r58 : Rc := ⟨6, ⟨none, h56.wl.filter (fun x => Nat.blt x h44.next), h44.next, Nat.succ h56.next⟩, none, h44, h57⟩
 o1 (extractV v55 0) fun v59 =>
 o1 (extractV v55 1) fun v60 =>
 fh (Heap.mk h57.next h57.t (wrR [r58] ++ h44.wl)) fun h61 =>
 o1 (unV .not v60) fun v62 =>
 vb v62 fun q63 => ifB q63 (
 rt (.i .i64 (.ofNat 6)) h61) (
 nc v41 fun v64 =>
 fa 1 v64 fun v65 =>
 fa 3 v65 fun v66 =>
 ld v66 h61 fun v67 =>
 let r68 : Rc := ⟨7, ⟨some (V.ids v66), [], h61.next, h61.next⟩, some (25, v66, v67), h61, h61⟩
 ix 2 v67 v59 fun v69 =>
 fa 1 v69 fun v70 =>
 ld v70 h61 fun v71 =>
 let r72 : Rc := ⟨11, ⟨some (V.ids v70), [], h61.next, h61.next⟩, some (9, v70, v71), h61, h61⟩
 cln (cf 72 [v41, v42] (Heap.mk h61.next h61.t [])) fun v73 h74 =>
 fh (Heap.new h74 .dead) fun h75 =>
 let r76 : Rc := ⟨14, ⟨none, h74.wl.filter (fun x => Nat.blt x h61.next), h61.next, Nat.succ h74.next⟩, none, h61, h75⟩
 bs .neq v71 v73 fun v77 =>
 ifB (pc prog r68 r76) (
 ifB (pc prog r72 r76) (
 fh (Heap.mk h75.next h75.t (wrR [r68, r72, r76] ++ h61.wl)) fun h78 =>
 vb v77 fun q79 => ifB q79 (
 rt (.i .i64 (.ofNat 6)) h78) (
 rt (.i .i64 (.ofNat 0)) h78)) .fail) .fail)) (
 rt (.i .i64 (.ofNat 0)) h44)
noncomputable def F47 (cf : CallF) (lf : Nat) : Fv 2 := fun x0 x1 h =>
 nc x0 fun v1 =>
 fa 0 v1 fun v2 =>
 ld v2 h fun v3 =>
 ix 7 v3 x1 fun v4 =>
 ldn 7 v4 h fun v5 =>
 al (zl prog 66) h fun v6 h7 =>
 st 7 v6 v5 h7 fun h8 =>
 nc x0 fun v9 =>
 fa 6 v9 fun v10 =>
 ld v10 h8 fun v11 =>
 let r12 : Rc := ⟨3, ⟨some (V.ids v10), [], h8.next, h8.next⟩, some (72, v10, v11), h8, h8⟩
 cln (cf 27 [x0, x1] (Heap.mk h8.next h8.t [])) fun v13 h14 =>
 fh (Heap.new h14 .dead) fun h15 =>
 let r16 : Rc := ⟨6, ⟨none, h14.wl.filter (fun x => Nat.blt x h8.next), h8.next, Nat.succ h14.next⟩, none, h8, h15⟩
 fa 1 v6 fun v17 =>
 ld v17 h15 fun v18 =>
 let r19 : Rc := ⟨8, ⟨some (V.ids v17), [], h15.next, h15.next⟩, some (9, v17, v18), h15, h15⟩
 o1 (buildV prog 76 [(0, v13), (1, v18)]) fun v20 =>
 o1 (lookupV prog 72 v11 v20 false (Heap.mk h15.next h15.t [])) fun v21 =>
 fh (Heap.new (Heap.mk h15.next h15.t []) .dead) fun h22 =>
 let r23 : Rc := ⟨10, ⟨(some (List.flatMap V.ids [v11])), (Heap.mk h15.next h15.t []).wl.filter (fun x => Nat.blt x h15.next), h15.next, Nat.succ (Heap.mk h15.next h15.t []).next⟩, none, h15, h22⟩
 bi .neq v21 x1 fun v24 =>
 ifB (pc prog r12 r16) (
 ifB (pc prog r12 r19) (
 ifB (pc prog r16 r19) (
 fh (Heap.mk h22.next h22.t (wrR [r12, r16, r19, r23] ++ h8.wl)) fun h25 =>
 vb v24 fun q26 => ifB q26 (
 rt (.i .i64 (.ofNat 6)) h25) (
 jn 3 (fun J27 =>
 fa 3 v6 fun v28 =>
 ld v28 h25 fun v29 =>
 bi .gtr v29 (.i .u32 (.ofNat 64)) fun v30 =>
 vb v30 fun q31 => ifB q31 (
 rt (.i .i64 (.ofNat 1)) h25) (
 fa 3 v6 fun v32 =>
 ld v32 h25 fun v33 =>
 bi .eql v33 (.i .u32 (.ofNat 0)) fun v34 =>
 vb v34 fun q35 => ifB q35 (
 fa 4 v6 fun v36 =>
 ld v36 h25 fun v37 =>
 bi .and v37 (.i .i64 (.ofNat 8)) fun v38 =>
 bi .neq v38 (.i .i64 (.ofNat 0)) fun v39 =>
 vb v39 fun q40 => ifB q40 (
 rt (.i .i64 (.ofNat 1)) h25) (
 J27 x0 x1 v6 h25)) (
 J27 x0 x1 v6 h25))) (F47_j1 cf lf))) .fail) .fail) .fail
def A47 : Ann := (.s (.r []) (.s (.r []) (.s (.s (.d [] [3, 8] [0, 1, 3, 7, 0, 0, 48, 0, 128, 496, 1023, 0, 4095]) (.s (.s (.r []) .z) .z)) (.j [0, 1, 5] (.s (.r [4, 8, 12]) (.s (.s (.r []) .z) .z)) (.s (.s (.r []) (.s (.s (.d [] [] [0, 1, 3, 7, 0, 16, 63, 127, 255, 255, 511, 2047]) (.s (.d [3] [7, 11] [0, 1, 3, 7, 15, 31, 63, 127, 7, 511, 1023, 2047, 7, 7, 12295, 32767, 65535]) (.s (.s (.r []) .z) .z))) .z)) (.s (.r []) .z))))))
theorem F47_eq (cf : CallF) (lf : Nat) (x0 : V) (x1 : V) (h : Heap) : bodyA prog 0 f47 (f47.body.getD .skip) A47 cf lf [x0, x1] h = F47 cf lf x0 x1 h := by kernel_rfl

-- (*footman/names.checker).aFor
noncomputable def F48_j1 (cf : CallF) (lf : Nat) : Fv 3 := fun v18 v19 v20 h21 =>
 fa 1 v20 fun v22 =>
 ld v22 h21 fun v23 =>
 cl (cf 73 [v18, v19, v23] h21) fun v24 h25 =>
 o1 (extractV v24 0) fun v26 =>
 o1 (extractV v24 1) fun v27 =>
 al (zl prog 66) h25 fun v28 h29 =>
 st 7 v28 v26 h29 fun h30 =>
 vb v27 fun q31 => ifB q31 (
 rt (.i .i64 (.ofNat 6)) h30) (
 fa 1 v20 fun v32 =>
 ld v32 h30 fun v33 =>
 cl (cf 74 [v18, v19, v33] h30) fun v34 h35 =>
 vb v34 fun q36 => ifB q36 (
 rt (.i .i64 (.ofNat 6)) h35) (
 rt (.i .i64 (.ofNat 0)) h35))
noncomputable def F48 (cf : CallF) (lf : Nat) : Fv 2 := fun x0 x1 h =>
 nc x0 fun v1 =>
 fa 0 v1 fun v2 =>
 ld v2 h fun v3 =>
 ix 7 v3 x1 fun v4 =>
 ldn 7 v4 h fun v5 =>
 al (zl prog 66) h fun v6 h7 =>
 st 7 v6 v5 h7 fun h8 =>
 jn 3 (fun J9 =>
 fa 3 v6 fun v10 =>
 ld v10 h8 fun v11 =>
 bi .lss v11 (.i .u32 (.ofNat 1)) fun v12 =>
 vb v12 fun q13 => ifB q13 (
 rt (.i .i64 (.ofNat 1)) h8) (
 fa 3 v6 fun v14 =>
 ld v14 h8 fun v15 =>
 bi .gtr v15 (.i .u32 (.ofNat 1024)) fun v16 =>
 vb v16 fun q17 => ifB q17 (
 rt (.i .i64 (.ofNat 1)) h8) (
 J9 x0 x1 v6 h8))) (F48_j1 cf lf)
def A48 : Ann := (.s (.r []) (.s (.r []) (.j [0, 1, 5] (.s (.r [4]) (.s (.s (.r []) .z) .z)) (.s (.s (.r []) (.s (.r [2]) (.s (.s (.r []) .z) .z))) (.s (.r []) .z)))))
theorem F48_eq (cf : CallF) (lf : Nat) (x0 : V) (x1 : V) (h : Heap) : bodyA prog 0 f48 (f48.body.getD .skip) A48 cf lf [x0, x1] h = F48 cf lf x0 x1 h := by kernel_rfl

-- (*footman/names.checker).single
noncomputable def F49_j1 (cf : CallF) (lf : Nat) : Fv 4 := fun v14 v15 v16 v17 h18 =>
 vb v17 fun q19 => ifB q19 (
 rt (.i .i64 (.ofNat 6)) h18) (
 vb v16 fun q20 => ifB q20 (
 fa 4 v15 fun v21 =>
 ld v21 h18 fun v22 =>
 bi .and v22 (.i .i64 (.ofNat 8)) fun v23 =>
 bi .neq v23 (.i .i64 (.ofNat 0)) fun v24 =>
 vb v24 fun q25 => ifB q25 (
 vb v24 fun q26 => ifB q26 (
 rt (.i .i64 (.ofNat 7)) h18) (
 rt (.i .i64 (.ofNat 0)) h18)) (
 o1 (unV .not v16) fun v27 =>
 vb v27 fun q28 => ifB q28 (
 vb v14 fun q29 => ifB q29 (
 rt (.i .i64 (.ofNat 7)) h18) (
 rt (.i .i64 (.ofNat 0)) h18)) (
 rt (.i .i64 (.ofNat 0)) h18))) (
 o1 (unV .not v16) fun v30 =>
 vb v30 fun q31 => ifB q31 (
 vb v14 fun q32 => ifB q32 (
 rt (.i .i64 (.ofNat 7)) h18) (
 rt (.i .i64 (.ofNat 0)) h18)) (
 rt (.i .i64 (.ofNat 0)) h18)))
noncomputable def F49 (cf : CallF) (lf : Nat) : Fv 4 := fun x0 x1 x2 x3 h =>
 cl (cf 73 [x0, x1, x2] h) fun v1 h2 =>
 o1 (extractV v1 0) fun v3 =>
 o1 (extractV v1 1) fun v4 =>
 al (zl prog 66) h2 fun v5 h6 =>
 st 7 v5 v3 h6 fun h7 =>
 cl (cf 74 [x0, x1, x2] h7) fun v8 h9 =>
 jn 4 (fun J10 =>
 o1 (unV .not v4) fun v11 =>
 vb v11 fun q12 => ifB q12 (
 o1 (unV .not v8) fun v13 =>
 J10 x3 v5 v4 v13 h9) (
 J10 x3 v5 v4 (.b false) h9)) (F49_j1 cf lf)
def A49 : Ann := (.s (.r []) (.s (.r []) (.s (.r []) (.s (.b (.j [3, 9, 10, 23] (.r [3]) (.s (.s (.r []) .z) (.s (.s (.r [2]) (.s .z (.r [3]))) (.s (.s (.r []) .z) .z))))) (.s (.r []) .z)))))
theorem F49_eq (cf : CallF) (lf : Nat) (x0 : V) (x1 : V) (x2 : V) (x3 : V) (h : Heap) : bodyA prog 0 f49 (f49.body.getD .skip) A49 cf lf [x0, x1, x2, x3] h = F49 cf lf x0 x1 x2 x3 h := by kernel_rfl

-- (*footman/names.checker).array
noncomputable def F50 (cf : CallF) (lf : Nat) : Fv 4 := fun x0 x1 x2 x3 h =>
 cl (cf 73 [x0, x1, x2] h) fun v1 h2 =>
 o1 (extractV v1 0) fun v3 =>
 o1 (extractV v1 1) fun v4 =>
 al (zl prog 66) h2 fun v5 h6 =>
 st 7 v5 v3 h6 fun h7 =>
 o1 (unV .not v4) fun v8 =>
 vb v8 fun q9 => ifB q9 (
 rt (.i .i64 (.ofNat 6)) h7) (
 fa 4 v5 fun v10 =>
 ld v10 h7 fun v11 =>
 bi .and v11 (.i .i64 (.ofNat 8)) fun v12 =>
 bi .eql v12 (.i .i64 (.ofNat 0)) fun v13 =>
 vb v13 fun q14 => ifB q14 (
 vb v13 fun q15 => ifB q15 (
 rt (.i .i64 (.ofNat 7)) h7) (
 rt (.i .i64 (.ofNat 0)) h7)) (
 vb x3 fun q16 => ifB q16 (
 fa 4 v5 fun v17 =>
 ld v17 h7 fun v18 =>
 bi .and v18 (.i .i64 (.ofNat 4)) fun v19 =>
 bi .neq v19 (.i .i64 (.ofNat 0)) fun v20 =>
 vb v20 fun q21 => ifB q21 (
 rt (.i .i64 (.ofNat 7)) h7) (
 rt (.i .i64 (.ofNat 0)) h7)) (
 rt (.i .i64 (.ofNat 0)) h7)))
def A50 : Ann := (.s (.r []) (.s (.r []) (.s (.b (.s (.r []) (.s (.s (.r []) .z) (.s (.s (.r []) (.s .z (.r [2]))) (.s (.s (.r []) .z) .z))))) (.s (.r []) .z))))
theorem F50_eq (cf : CallF) (lf : Nat) (x0 : V) (x1 : V) (x2 : V) (x3 : V) (h : Heap) : bodyA prog 0 f50 (f50.body.getD .skip) A50 cf lf [x0, x1, x2, x3] h = F50 cf lf x0 x1 x2 x3 h := by kernel_rfl

-- (*footman/names.checker).box
noncomputable def F51_j1 (cf : CallF) (lf : Nat) : Fv 3 := fun v35 v36 v37 h38 =>
 cl (cf 72 [v35, v36] h38) fun v39 h40 =>
 bs .neq v37 v39 fun v41 =>
 vb v41 fun q42 => ifB q42 (
 rt (.i .i64 (.ofNat 6)) h40) (
 rt (.i .i64 (.ofNat 0)) h40)
noncomputable def F51 (cf : CallF) (lf : Nat) : Fv 3 := fun x0 x1 x2 h =>
 nc x0 fun v1 =>
 fa 1 v1 fun v2 =>
 ldn 4 v2 h fun v3 =>
 nc x0 fun v4 =>
 fa 0 v4 fun v5 =>
 ld v5 h fun v6 =>
 ix 7 v6 x1 fun v7 =>
 fa 1 v7 fun v8 =>
 ld v8 h fun v9 =>
 cln (cf 66 [v3, v9] (Heap.mk h.next h.t [])) fun v10 h11 =>
 fh (Heap.new h11 .dead) fun h12 =>
 let r13 : Rc := ⟨12, ⟨none, h11.wl.filter (fun x => Nat.blt x h.next), h.next, Nat.succ h11.next⟩, none, h, h12⟩
 o1 (extractV v10 0) fun v14 =>
 o1 (extractV v10 1) fun v15 =>
 fh (Heap.mk h12.next h12.t (wrR [r13] ++ h.wl)) fun h16 =>
 o1 (unV .not v15) fun v17 =>
 vb v17 fun q18 => ifB q18 (
 rt (.i .i64 (.ofNat 6)) h16) (
 nc x0 fun v19 =>
 fa 1 v19 fun v20 =>
 fa 2 v20 fun v21 =>
 ld v21 h16 fun v22 =>
 ix 5 v22 v14 fun v23 =>
 fa 1 v23 fun v24 =>
 ld v24 h16 fun v25 =>
 jn 3 (fun J26 =>
 vb x2 fun q27 => ifB q27 (
 nc x0 fun v28 =>
 fa 1 v28 fun v29 =>
 fa 2 v29 fun v30 =>
 ld v30 h16 fun v31 =>
 ix 5 v31 v14 fun v32 =>
 fa 2 v32 fun v33 =>
 ld v33 h16 fun v34 =>
 J26 x0 x1 v34 h16) (
 J26 x0 x1 v25 h16)) (F51_j1 cf lf))
def A51 : Ann := (.s (.r []) (.s (.d [] [] [0, 1, 3, 7, 0, 16, 48, 112, 0, 496, 1008, 2032, 4095, 8191, 16383, 16383, 32767, 131071]) (.s (.s (.r []) (.s (.s (.r []) .z) .z)) (.s (.r []) (.j [0, 1, 9] (.s (.r []) (.s (.r []) .z)) (.s (.s (.r []) (.s (.s (.r []) .z) .z)) (.s (.r []) .z)))))))
theorem F51_eq (cf : CallF) (lf : Nat) (x0 : V) (x1 : V) (x2 : V) (h : Heap) : bodyA prog 0 f51 (f51.body.getD .skip) A51 cf lf [x0, x1, x2] h = F51 cf lf x0 x1 x2 h := by kernel_rfl

-- (*footman/names.checker).receives
noncomputable def F52_b1 (cf : CallF) (lf : Nat) : Fv 5 → Fv 5 := fun S12 v13 v14 v15 v16 v17 h18 =>
 bi .lss v17 v16 fun v19 =>
 vb v19 fun q20 => ifB q20 (
 ix 1 v15 v17 fun v21 =>
 ld v21 h18 fun v22 =>
 cl (cf 49 [v13, v14, v22, (.b true)] h18) fun v23 h24 =>
 bi .neq v23 (.i .i64 (.ofNat 0)) fun v25 =>
 vb v25 fun q26 => ifB q26 (
 rt v23 h24) (
 bi .add v17 (.i .i64 (.ofNat 1)) fun v27 =>
 S12 v13 v14 v15 v16 v27 h24)) (
 rt (.i .i64 (.ofNat 0)) h18)
noncomputable def F52 (cf : CallF) (lf : Nat) : Fv 2 := fun x0 x1 h =>
 cl (cf 51 [x0, x1, (.b true)] h) fun v1 h2 =>
 bi .neq v1 (.i .i64 (.ofNat 0)) fun v3 =>
 vb v3 fun q4 => ifB q4 (
 rt v1 h2) (
 nc x0 fun v5 =>
 fa 0 v5 fun v6 =>
 ld v6 h2 fun v7 =>
 ix 7 v7 x1 fun v8 =>
 fa 2 v8 fun v9 =>
 ld v9 h2 fun v10 =>
 lns v10 fun v11 =>
 loop 5 lf (F52_b1 cf lf) x0 x1 v10 v11 (.i .i64 (.ofNat 0)) h2)
def A52 : Ann := (.s (.r []) (.s (.s (.r []) (.s (.r []) (.s (.s (.r []) .z) .z))) (.s (.s (.r []) (.b (.l [0, 1, 22, 23, 24] (.s (.r []) (.s (.s .z .z) (.s (.b (.s (.r []) (.s (.r []) (.s (.r []) (.s (.s (.r []) .z) .z))))) (.r []))))))) (.s (.r []) .z))))
theorem F52_eq (cf : CallF) (lf : Nat) (x0 : V) (x1 : V) (h : Heap) : bodyA prog 0 f52 (f52.body.getD .skip) A52 cf lf [x0, x1] h = F52 cf lf x0 x1 h := by kernel_rfl

-- (*footman/names.checker).missing$1
noncomputable def F53 (cf : CallF) (lf : Nat) : Fv 2 := fun x0 x1 h =>
 al (V.cells x0) h fun v1 h2 =>
 ld x1 h2 fun v3 =>
 nc v3 fun v4 =>
 fa 0 v4 fun v5 =>
 ld v5 h2 fun v6 =>
 cl (cf 54 [v6, (.f (.func 55) [] [v1])] h2) fun v7 h8 =>
 o1 (unV .not v7) fun v9 =>
 rt v9 h8
def A53 : Ann := (.s (.r []) (.s (.r []) .z))
theorem F53_eq (cf : CallF) (lf : Nat) (x0 : V) (x1 : V) (h : Heap) : bodyA prog 0 f53 (f53.body.getD .skip) A53 cf lf [x0, x1] h = F53 cf lf x0 x1 h := by kernel_rfl

-- slices.ContainsFunc[[]footman/api.Node,footman/api.Node]
noncomputable def F54 (cf : CallF) (lf : Nat) : Fv 2 := fun x0 x1 h =>
 cl (cf 75 [x0, x1] h) fun v1 h2 =>
 bi .geq v1 (.i .i64 (.ofNat 0)) fun v3 =>
 rt v3 h2
def A54 : Ann := (.s (.r []) (.s (.r []) .z))
theorem F54_eq (cf : CallF) (lf : Nat) (x0 : V) (x1 : V) (h : Heap) : bodyA prog 0 f54 (f54.body.getD .skip) A54 cf lf [x0, x1] h = F54 cf lf x0 x1 h := by kernel_rfl

-- (*footman/names.checker).missing$1$1
noncomputable def F55 (cf : CallF) (lf : Nat) : Fv 2 := fun x0 x1 h =>
 al (V.cells x0) h fun v1 h2 =>
 fa 0 v1 fun v3 =>
 ld v3 h2 fun v4 =>
 bi .eql v4 (.i .i64 (.ofNat 17)) fun v5 =>
 vb v5 fun q6 => ifB q6 (
 fa 1 v1 fun v7 =>
 ld v7 h2 fun v8 =>
 ld x1 h2 fun v9 =>
 bs .eql v8 v9 fun v10 =>
 rt v10 h2) (
 rt (.b false) h2)
def A55 : Ann := (.s (.r []) (.s (.r [4]) .z))
theorem F55_eq (cf : CallF) (lf : Nat) (x0 : V) (x1 : V) (h : Heap) : bodyA prog 0 f55 (f55.body.getD .skip) A55 cf lf [x0, x1] h = F55 cf lf x0 x1 h := by kernel_rfl

-- footman/footmanref10.skip
noncomputable def F56_b1 (cf : CallF) (lf : Nat) (S1 : Fv 2) : Fv 2 → Fv 2 := fun S26 v27 v28 h29 =>
 lnt v27 fun v30 =>
 bi .lss v28 v30 fun v31 =>
 vb v31 fun q32 => ifB q32 (
 o1 (indexV prog 9 v27 v28) fun v33 =>
 bi .neq v33 (.i .u8 (.ofNat 10)) fun v34 =>
 vb v34 fun q35 => ifB q35 (
 bi .add v28 (.i .i64 (.ofNat 1)) fun v36 =>
 S26 v27 v36 h29) (
 S1 v27 v28 h29)) (
 S1 v27 v28 h29)
noncomputable def F56_j2 (cf : CallF) (lf : Nat) (S1 : Fv 2) : Fv 3 := fun v20 v21 v22 h23 =>
 bi .eql v22 (.i .u8 (.ofNat 35)) fun v24 =>
 vb v24 fun q25 => ifB q25 (
 loop 2 lf (F56_b1 cf lf S1) v20 v21 h23) (
 bi .add v21 (.i .i64 (.ofNat 1)) fun v37 =>
 S1 v20 v37 h23)
noncomputable def F56_b3 (cf : CallF) (lf : Nat) : Fv 2 → Fv 2 := fun S1 v2 v3 h4 =>
 lnt v2 fun v5 =>
 bi .lss v3 v5 fun v6 =>
 vb v6 fun q7 => ifB q7 (
 o1 (indexV prog 9 v2 v3) fun v8 =>
 jn 3 (fun J9 =>
 bi .neq v8 (.i .u8 (.ofNat 9)) fun v10 =>
 vb v10 fun q11 => ifB q11 (
 bi .neq v8 (.i .u8 (.ofNat 10)) fun v12 =>
 vb v12 fun q13 => ifB q13 (
 bi .neq v8 (.i .u8 (.ofNat 13)) fun v14 =>
 vb v14 fun q15 => ifB q15 (
 bi .neq v8 (.i .u8 (.ofNat 32)) fun v16 =>
 vb v16 fun q17 => ifB q17 (
 bi .neq v8 (.i .u8 (.ofNat 35)) fun v18 =>
 vb v18 fun q19 => ifB q19 (
 rt v3 h4) (
 J9 v2 v3 v8 h4)) (
 J9 v2 v3 v8 h4)) (
 J9 v2 v3 v8 h4)) (
 J9 v2 v3 v8 h4)) (
 J9 v2 v3 v8 h4)) (F56_j2 cf lf S1)) (
 rt v3 h4)
noncomputable def F56 (cf : CallF) (lf : Nat) : Fv 2 := fun x0 x1 h =>
 loop 2 lf (F56_b3 cf lf) x0 x1 h
def A56 : Ann := (.s (.r []) (.s (.b (.l [0, 1] (.s (.s (.r []) (.s .z .z)) (.b (.s (.r []) (.j [0, 1, 5] (.s (.r [3, 7, 11, 15]) (.s (.s (.r []) .z) .z)) (.s (.r []) (.s (.b (.l [0, 1] (.s (.s (.r [5]) (.s .z .z)) (.b (.r []))))) (.r []))))))))) (.s (.r []) .z)))
theorem F56_eq (cf : CallF) (lf : Nat) (x0 : V) (x1 : V) (h : Heap) : bodyA prog 0 f56 (f56.body.getD .skip) A56 cf lf [x0, x1] h = F56 cf lf x0 x1 h := by kernel_rfl

-- footman/footmanref10.digit
noncomputable def F57 (cf : CallF) (lf : Nat) : Fv 1 := fun x0 h =>
 bi .geq x0 (.i .u8 (.ofNat 48)) fun v1 =>
 vb v1 fun q2 => ifB q2 (
 bi .leq x0 (.i .u8 (.ofNat 57)) fun v3 =>
 rt v3 h) (
 rt (.b false) h)
def A57 : Ann := (.s (.r []) (.s (.r [3]) .z))
theorem F57_eq (cf : CallF) (lf : Nat) (x0 : V) (h : Heap) : bodyA prog 0 f57 (f57.body.getD .skip) A57 cf lf [x0] h = F57 cf lf x0 h := by kernel_rfl

-- footman/footmanref10.number
noncomputable def F58_j1 (cf : CallF) (lf : Nat) (S27 : Fv 6) : Fv 6 := fun v54 v55 v56 v57 v58 v59 h60 =>
 bi .mul v59 v57 fun v61 =>
 o1 (indexV prog 9 v54 v58) fun v62 =>
 cl (cf 76 [v62] h60) fun v63 h64 =>
 bi .add v61 v63 fun v65 =>
 o1 (minmaxV ilt [v65, (.i .i64 (.ofNat 4294967296))]) fun v66 =>
 bi .add v58 (.i .i64 (.ofNat 1)) fun v67 =>
 S27 v54 v55 v56 v57 v67 v66 h64
noncomputable def F58_b2 (cf : CallF) (lf : Nat) (J26 : Fv 5) : Fv 6 → Fv 6 := fun S27 v28 v29 v30 v31 v32 v33 h34 =>
 jn 6 (fun J35 =>
 lnt v28 fun v36 =>
 bi .lss v32 v36 fun v37 =>
 vb v37 fun q38 => ifB q38 (
 bi .eql v31 (.i .i64 (.ofNat 16)) fun v39 =>
 vb v39 fun q40 => ifB q40 (
 o1 (indexV prog 9 v28 v32) fun v41 =>
 cl (cf 76 [v41] h34) fun v42 h43 =>
 bi .geq v42 (.i .i64 (.ofNat 0)) fun v44 =>
 vb v44 fun q45 => ifB q45 (
 J35 v28 v29 v30 v31 v32 v33 h43) (
 o1 (indexV prog 9 v28 v32) fun v46 =>
 cl (cf 57 [v46] h43) fun v47 h48 =>
 vb v47 fun q49 => ifB q49 (
 J35 v28 v29 v30 v31 v32 v33 h48) (
 J26 v28 v29 v30 v32 v33 h48))) (
 o1 (indexV prog 9 v28 v32) fun v50 =>
 cl (cf 57 [v50] h34) fun v51 h52 =>
 vb v51 fun q53 => ifB q53 (
 J35 v28 v29 v30 v31 v32 v33 h52) (
 J26 v28 v29 v30 v32 v33 h52))) (
 J26 v28 v29 v30 v32 v33 h34)) (F58_j1 cf lf S27)
noncomputable def F58_j3 (cf : CallF) (lf : Nat) : Fv 5 := fun v100 v101 v102 v103 v104 h105 =>
 o2 (sliceV prog 9 v100 (some v101) (some v103) none h105) fun v106 h107 =>
 cv .u32 v104 fun v108 =>
 o1 (buildV prog 61 [(0, (.i .i64 (.ofNat 1))), (1, v106), (2, v108), (3, v101)]) fun v109 =>
 o1 (buildV prog 80 [(0, v109), (1, v103)]) fun v110 =>
 st 5 v102 v110 h107 fun h111 =>
 ldn 5 v102 h111 fun v112 =>
 rt v112 h111
noncomputable def F58_j4 (cf : CallF) (lf : Nat) : Fv 5 := fun v68 v69 v70 v71 v72 h73 =>
 jn 5 (fun J74 =>
 bi .geq v72 (.i .i64 (.ofNat 4294967296)) fun v75 =>
 vb v75 fun q76 => ifB q76 (
 o1 (buildV prog 61 [(0, (.i .i64 (.ofNat 5))), (3, v69)]) fun v77 =>
 o1 (buildV prog 80 [(0, v77), (1, v71)]) fun v78 =>
 st 5 v70 v78 h73 fun h79 =>
 ldn 5 v70 h79 fun v80 =>
 rt v80 h79) (
 lnt v68 fun v81 =>
 bi .lss v71 v81 fun v82 =>
 vb v82 fun q83 => ifB q83 (
 o1 (indexV prog 9 v68 v71) fun v84 =>
 cl (cf 59 [v84] h73) fun v85 h86 =>
 vb v85 fun q87 => ifB q87 (
 o1 (buildV prog 61 [(0, (.i .i64 (.ofNat 5))), (3, v69)]) fun v88 =>
 o1 (buildV prog 80 [(0, v88), (1, v71)]) fun v89 =>
 st 5 v70 v89 h86 fun h90 =>
 ldn 5 v70 h90 fun v91 =>
 rt v91 h90) (
 o1 (indexV prog 9 v68 v71) fun v92 =>
 cl (cf 57 [v92] h86) fun v93 h94 =>
 vb v93 fun q95 => ifB q95 (
 o1 (buildV prog 61 [(0, (.i .i64 (.ofNat 5))), (3, v69)]) fun v96 =>
 o1 (buildV prog 80 [(0, v96), (1, v71)]) fun v97 =>
 st 5 v70 v97 h94 fun h98 =>
 ldn 5 v70 h98 fun v99 =>
 rt v99 h98) (
 J74 v68 v69 v70 v71 v72 h94))) (
 J74 v68 v69 v70 v71 v72 h73))) (F58_j3 cf lf)
noncomputable def F58_j5 (cf : CallF) (lf : Nat) : Fv 5 := fun v20 v21 v22 v23 v24 h25 =>
 jn 5 (fun J26 =>
 loop 6 lf (F58_b2 cf lf J26) v20 v21 v22 v23 v24 (.i .i64 (.ofNat 0)) h25) (F58_j4 cf lf)
noncomputable def F58 (cf : CallF) (lf : Nat) : Fv 2 := fun x0 x1 h =>
 al (zl prog 80) h fun v1 h2 =>
 jn 5 (fun J3 =>
 lnt x0 fun v4 =>
 bi .sub v4 x1 fun v5 =>
 bi .gtr v5 (.i .i64 (.ofNat 2)) fun v6 =>
 vb v6 fun q7 => ifB q7 (
 bi .add x1 (.i .i64 (.ofNat 2)) fun v8 =>
 o2 (sliceV prog 9 x0 (some x1) (some v8) none h2) fun v9 h10 =>
 bs .eql v9 (.s ⟨2, 30768⟩) fun v11 =>
 vb v11 fun q12 => ifB q12 (
 bi .add x1 (.i .i64 (.ofNat 2)) fun v13 =>
 o1 (indexV prog 9 x0 v13) fun v14 =>
 cl (cf 76 [v14] h10) fun v15 h16 =>
 bi .geq v15 (.i .i64 (.ofNat 0)) fun v17 =>
 vb v17 fun q18 => ifB q18 (
 bi .add x1 (.i .i64 (.ofNat 2)) fun v19 =>
 J3 x0 x1 v1 (.i .i64 (.ofNat 16)) v19 h16) (
 J3 x0 x1 v1 (.i .i64 (.ofNat 10)) x1 h16)) (
 J3 x0 x1 v1 (.i .i64 (.ofNat 10)) x1 h10)) (
 J3 x0 x1 v1 (.i .i64 (.ofNat 10)) x1 h2)) (F58_j5 cf lf)
def A58 : Ann := (.s (.r []) (.s (.r []) (.j [0, 1, 4, 5, 6] (.s (.r [6, 14]) (.s (.s (.r []) (.r [])) .z)) (.s (.r []) (.j [0, 1, 4, 7, 8] (.b (.l [0, 1, 4, 5, 7, 8] (.j [0, 1, 4, 5, 7, 8] (.s (.r [5, 8, 13, 15, 19]) (.s .z .z)) (.b (.s (.r []) (.r [])))))) (.j [0, 1, 4, 7, 8] (.s (.r [3, 8, 13, 17, 18]) (.s (.s (.r []) .z) .z)) (.s (.r []) .z)))))))
theorem F58_eq (cf : CallF) (lf : Nat) (x0 : V) (x1 : V) (h : Heap) : bodyA prog 0 f58 (f58.body.getD .skip) A58 cf lf [x0, x1] h = F58 cf lf x0 x1 h := by kernel_rfl

-- footman/footmanref10.letter
noncomputable def F59 (cf : CallF) (lf : Nat) : Fv 1 := fun x0 h =>
 bi .geq x0 (.i .u8 (.ofNat 97)) fun v1 =>
 vb v1 fun q2 => ifB q2 (
 bi .leq x0 (.i .u8 (.ofNat 122)) fun v3 =>
 vb v3 fun q4 => ifB q4 (
 rt (.b true) h) (
 bi .geq x0 (.i .u8 (.ofNat 65)) fun v5 =>
 vb v5 fun q6 => ifB q6 (
 bi .leq x0 (.i .u8 (.ofNat 90)) fun v7 =>
 vb v7 fun q8 => ifB q8 (
 rt (.b true) h) (
 bi .eql x0 (.i .u8 (.ofNat 95)) fun v9 =>
 rt v9 h)) (
 bi .eql x0 (.i .u8 (.ofNat 95)) fun v10 =>
 rt v10 h))) (
 bi .geq x0 (.i .u8 (.ofNat 65)) fun v11 =>
 vb v11 fun q12 => ifB q12 (
 bi .leq x0 (.i .u8 (.ofNat 90)) fun v13 =>
 vb v13 fun q14 => ifB q14 (
 rt (.b true) h) (
 bi .eql x0 (.i .u8 (.ofNat 95)) fun v15 =>
 rt v15 h)) (
 bi .eql x0 (.i .u8 (.ofNat 95)) fun v16 =>
 rt v16 h))
def A59 : Ann := (.s (.r []) (.s (.r [3, 7, 10, 12, 15]) .z))
theorem F59_eq (cf : CallF) (lf : Nat) (x0 : V) (h : Heap) : bodyA prog 0 f59 (f59.body.getD .skip) A59 cf lf [x0] h = F59 cf lf x0 h := by kernel_rfl

-- footman/footmanref10.IsWord
noncomputable def F60_b1 (cf : CallF) (lf : Nat) : Fv 3 → Fv 3 := fun S3 v4 v5 v6 h7 =>
 lns v5 fun v8 =>
 bi .lss v6 v8 fun v9 =>
 vb v9 fun q10 => ifB q10 (
 ix 1 v5 v6 fun v11 =>
 ld v11 h7 fun v12 =>
 bs .eql v12 v4 fun v13 =>
 vb v13 fun q14 => ifB q14 (
 rt (.b true) h7) (
 bi .add v6 (.i .i64 (.ofNat 1)) fun v15 =>
 S3 v4 v5 v15 h7)) (
 rt (.b false) h7)
noncomputable def F60 (cf : CallF) (lf : Nat) : Fv 1 := fun x0 h =>
 cl (cf 77 [] h) fun v1 h2 =>
 loop 3 lf (F60_b1 cf lf) x0 v1 (.i .i64 (.ofNat 0)) h2
def A60 : Ann := (.s (.r []) (.s (.r []) (.s (.s (.r []) (.b (.l [0, 3, 4] (.s (.s (.r []) (.s .z .z)) (.s (.b (.s (.r []) (.s (.s (.r []) .z) .z))) (.r [])))))) (.s (.r []) .z))))
theorem F60_eq (cf : CallF) (lf : Nat) (x0 : V) (h : Heap) : bodyA prog 0 f60 (f60.body.getD .skip) A60 cf lf [x0] h = F60 cf lf x0 h := by kernel_rfl

-- footman/footmanref10.signs
noncomputable def F61 (cf : CallF) (lf : Nat) : Fv 0 := fun h =>
 o2 (buildSliceV prog 23 26 [(0, (.s ⟨2, 15677⟩)), (1, (.s ⟨2, 15649⟩)), (2, (.s ⟨2, 15676⟩)), (3, (.s ⟨2, 15678⟩)), (4, (.s ⟨2, 15420⟩)), (5, (.s ⟨2, 15934⟩)), (6, (.s ⟨1, 123⟩)), (7, (.s ⟨1, 125⟩)), (8, (.s ⟨1, 40⟩)), (9, (.s ⟨1, 41⟩)), (10, (.s ⟨1, 91⟩)), (11, (.s ⟨1, 93⟩)), (12, (.s ⟨1, 59⟩)), (13, (.s ⟨1, 44⟩)), (14, (.s ⟨1, 61⟩)), (15, (.s ⟨1, 60⟩)), (16, (.s ⟨1, 62⟩)), (17, (.s ⟨1, 43⟩)), (18, (.s ⟨1, 45⟩)), (19, (.s ⟨1, 42⟩)), (20, (.s ⟨1, 47⟩)), (21, (.s ⟨1, 37⟩)), (22, (.s ⟨1, 38⟩)), (23, (.s ⟨1, 94⟩)), (24, (.s ⟨1, 124⟩)), (25, (.s ⟨1, 126⟩))] h) fun v1 h2 =>
 rt v1 h2
def A61 : Ann := (.s (.r []) (.s (.r []) .z))
theorem F61_eq (cf : CallF) (lf : Nat) (h : Heap) : bodyA prog 0 f61 (f61.body.getD .skip) A61 cf lf [] h = F61 cf lf h := by kernel_rfl

-- (*footman/footmanref10.parser).is
noncomputable def F62 (cf : CallF) (lf : Nat) : Fv 2 := fun x0 x1 h =>
 cl (cf 21 [x0] h) fun v1 h2 =>
 o1 (fieldV prog 61 v1 0) fun v3 =>
 nc x0 fun v4 =>
 fa 4 v4 fun v5 =>
 ld v5 h2 fun v6 =>
 o1 (unV .not v6) fun v7 =>
 vb v7 fun q8 => ifB q8 (
 bi .eql v3 (.i .i64 (.ofNat 4)) fun v9 =>
 vb v9 fun q10 => ifB q10 (
 cl (cf 21 [x0] h2) fun v11 h12 =>
 o1 (fieldV prog 61 v11 1) fun v13 =>
 bs .eql v13 x1 fun v14 =>
 rt v14 h12) (
 bi .eql v3 (.i .i64 (.ofNat 3)) fun v15 =>
 vb v15 fun q16 => ifB q16 (
 cl (cf 21 [x0] h2) fun v17 h18 =>
 o1 (fieldV prog 61 v17 1) fun v19 =>
 bs .eql v19 x1 fun v20 =>
 rt v20 h18) (
 rt (.b false) h2))) (
 rt (.b false) h2)
def A62 : Ann := (.s (.r []) (.s (.r []) (.s (.r [6, 9, 11, 14]) .z)))
theorem F62_eq (cf : CallF) (lf : Nat) (x0 : V) (x1 : V) (h : Heap) : bodyA prog 0 f62 (f62.body.getD .skip) A62 cf lf [x0, x1] h = F62 cf lf x0 x1 h := by kernel_rfl

-- (*footman/footmanref10.parser).down
noncomputable def F63 (cf : CallF) (lf : Nat) : Fv 1 := fun x0 h =>
 nc x0 fun v1 =>
 fa 3 v1 fun v2 =>
 ld v2 h fun v3 =>
 bi .add v3 (.i .i64 (.ofNat 1)) fun v4 =>
 nc x0 fun v5 =>
 fa 3 v5 fun v6 =>
 st 1 v6 v4 h fun h7 =>
 nc x0 fun v8 =>
 fa 3 v8 fun v9 =>
 ld v9 h7 fun v10 =>
 bi .gtr v10 (.i .i64 (.ofNat 24)) fun v11 =>
 vb v11 fun q12 => ifB q12 (
 nc x0 fun v13 =>
 fa 4 v13 fun v14 =>
 st 1 v14 (.b true) h7 fun h15 =>
 rt (.tup []) h15) (
 rt (.tup []) h7)
def A63 : Ann := (.s (.r []) (.s (.r []) (.s (.r []) .z)))
theorem F63_eq (cf : CallF) (lf : Nat) (x0 : V) (h : Heap) : bodyA prog 0 f63 (f63.body.getD .skip) A63 cf lf [x0] h = F63 cf lf x0 h := by kernel_rfl

-- (*footman/footmanref10.parser).inner
noncomputable def F64_j1 (cf : CallF) (lf : Nat) : Fv 2 := fun v62 v63 h64 =>
 cl (cf 33 [v62, (.s ⟨1, 61⟩)] h64) fun v65 h66 =>
 nc v62 fun v67 =>
 fa 4 v67 fun v68 =>
 ld v68 h66 fun v69 =>
 o1 (unV .not v69) fun v70 =>
 vb v70 fun q71 => ifB q71 (
 fa 5 v63 fun v72 =>
 ld v72 h66 fun v73 =>
 let r74 : Rc := ⟨1, ⟨some (V.ids v72), [], h66.next, h66.next⟩, some (38, v72, v73), h66, h66⟩
 cln (cf 79 [v62] (Heap.mk h66.next h66.t [])) fun v75 h76 =>
 fh (Heap.new h76 .dead) fun h77 =>
 let r78 : Rc := ⟨3, ⟨none, h76.wl.filter (fun x => Nat.blt x h66.next), h66.next, Nat.succ h76.next⟩, none, h66, h77⟩
 o2 (buildSliceV prog 38 1 [(0, v75)] (Heap.mk h77.next h77.t [])) fun v79 h80 =>
 fh (Heap.new h80 .dead) fun h81 =>
 let r82 : Rc := ⟨4, ⟨(some (List.flatMap V.ids [])), h80.wl.filter (fun x => Nat.blt x h77.next), h77.next, Nat.succ h80.next⟩, none, h77, h81⟩
 o2 (appendV prog 38 38 v73 v79 (Heap.mk h81.next h81.t [])) fun v83 h84 =>
 fh (Heap.new h84 .dead) fun h85 =>
 let r86 : Rc := ⟨5, ⟨(some (List.flatMap V.ids [v73, v79])), h84.wl.filter (fun x => Nat.blt x h81.next), h81.next, Nat.succ h84.next⟩, none, h81, h85⟩
 fa 5 v63 fun v87 =>
 st 1 v87 v83 (Heap.mk h85.next h85.t []) fun h88 =>
 fh (Heap.new h88 .dead) fun h89 =>
 let r90 : Rc := ⟨7, ⟨(some (List.flatMap V.ids [v87])), h88.wl.filter (fun x => Nat.blt x h85.next), h85.next, Nat.succ h88.next⟩, none, h85, h89⟩
 ifB (pc prog r74 r78) (
 ifB (pc prog r74 r82) (
 fh (Heap.mk h89.next h89.t (wrR [r74, r78, r82, r86, r90] ++ h66.wl)) fun h91 =>
 cl (cf 33 [v62, (.s ⟨1, 59⟩)] h91) fun v92 h93 =>
 ldn 7 v63 h93 fun v94 =>
 cl (cf 23 [v62, v94] h93) fun v95 h96 =>
 rt v95 h96) .fail) .fail) (
 cl (cf 33 [v62, (.s ⟨1, 59⟩)] h66) fun v97 h98 =>
 ldn 7 v63 h98 fun v99 =>
 cl (cf 23 [v62, v99] h98) fun v100 h101 =>
 rt v100 h101)
noncomputable def F64_j2 (cf : CallF) (lf : Nat) : Fv 3 := fun v167 v168 v169 h170 =>
 cl (cf 36 [v167, (.s ⟨4, 1702063205⟩)] h170) fun v171 h172 =>
 vb v171 fun q173 => ifB q173 (
 fa 5 v169 fun v174 =>
 ld v174 h172 fun v175 =>
 let r176 : Rc := ⟨1, ⟨some (V.ids v174), [], h172.next, h172.next⟩, some (38, v174, v175), h172, h172⟩
 cln (cf 78 [v167] (Heap.mk h172.next h172.t [])) fun v177 h178 =>
 fh (Heap.new h178 .dead) fun h179 =>
 let r180 : Rc := ⟨3, ⟨none, h178.wl.filter (fun x => Nat.blt x h172.next), h172.next, Nat.succ h178.next⟩, none, h172, h179⟩
 o2 (buildSliceV prog 38 1 [(0, v177)] (Heap.mk h179.next h179.t [])) fun v181 h182 =>
 fh (Heap.new h182 .dead) fun h183 =>
 let r184 : Rc := ⟨4, ⟨(some (List.flatMap V.ids [])), h182.wl.filter (fun x => Nat.blt x h179.next), h179.next, Nat.succ h182.next⟩, none, h179, h183⟩
 o2 (appendV prog 38 38 v175 v181 (Heap.mk h183.next h183.t [])) fun v185 h186 =>
 fh (Heap.new h186 .dead) fun h187 =>
 let r188 : Rc := ⟨5, ⟨(some (List.flatMap V.ids [v175, v181])), h186.wl.filter (fun x => Nat.blt x h183.next), h183.next, Nat.succ h186.next⟩, none, h183, h187⟩
 fa 5 v169 fun v189 =>
 st 1 v189 v185 (Heap.mk h187.next h187.t []) fun h190 =>
 fh (Heap.new h190 .dead) fun h191 =>
 let r192 : Rc := ⟨7, ⟨(some (List.flatMap V.ids [v189])), h190.wl.filter (fun x => Nat.blt x h187.next), h187.next, Nat.succ h190.next⟩, none, h187, h191⟩
 ifB (pc prog r176 r180) (
 ifB (pc prog r176 r184) (
 fh (Heap.mk h191.next h191.t (wrR [r176, r180, r184, r188, r192] ++ h172.wl)) fun h193 =>
 ldn 7 v169 h193 fun v194 =>
 cl (cf 23 [v167, v194] h193) fun v195 h196 =>
 rt v195 h196) .fail) .fail) (
 fa 5 v169 fun v197 =>
 ld v197 h172 fun v198 =>
 let r199 : Rc := ⟨1, ⟨some (V.ids v197), [], h172.next, h172.next⟩, some (38, v197, v198), h172, h172⟩
 fa 3 v168 fun v200 =>
 ld v200 h172 fun v201 =>
 o1 (buildV prog 66 [(0, (.i .i64 (.ofNat 16))), (6, v201)]) fun v202 =>
 cln (cf 23 [v167, v202] (Heap.mk h172.next h172.t [])) fun v203 h204 =>
 fh (Heap.new h204 .dead) fun h205 =>
 let r206 : Rc := ⟨6, ⟨none, h204.wl.filter (fun x => Nat.blt x h172.next), h172.next, Nat.succ h204.next⟩, none, h172, h205⟩
 o2 (buildSliceV prog 38 1 [(0, v203)] (Heap.mk h205.next h205.t [])) fun v207 h208 =>
 fh (Heap.new h208 .dead) fun h209 =>
 let r210 : Rc := ⟨7, ⟨(some (List.flatMap V.ids [])), h208.wl.filter (fun x => Nat.blt x h205.next), h205.next, Nat.succ h208.next⟩, none, h205, h209⟩
 o2 (appendV prog 38 38 v198 v207 (Heap.mk h209.next h209.t [])) fun v211 h212 =>
 fh (Heap.new h212 .dead) fun h213 =>
 let r214 : Rc := ⟨8, ⟨(some (List.flatMap V.ids [v198, v207])), h212.wl.filter (fun x => Nat.blt x h209.next), h209.next, Nat.succ h212.next⟩, none, h209, h213⟩
 fa 5 v169 fun v215 =>
 st 1 v215 v211 (Heap.mk h213.next h213.t []) fun h216 =>
 fh (Heap.new h216 .dead) fun h217 =>
 let r218 : Rc := ⟨10, ⟨(some (List.flatMap V.ids [v215])), h216.wl.filter (fun x => Nat.blt x h213.next), h213.next, Nat.succ h216.next⟩, none, h213, h217⟩
 ifB (pc prog r199 r206) (
 ifB (pc prog r199 r210) (
 fh (Heap.mk h217.next h217.t (wrR [r199, r206, r210, r214, r218] ++ h172.wl)) fun h219 =>
 ldn 7 v169 h219 fun v220 =>
 cl (cf 23 [v167, v220] h219) fun v221 h222 =>
 rt v221 h222) .fail) .fail)
noncomputable def F64_j3 (cf : CallF) (lf : Nat) : Fv 3 := fun v135 v136 v137 h138 =>
 cl (cf 33 [v135, (.s ⟨1, 41⟩)] h138) fun v139 h140 =>
 jn 3 (fun J141 =>
 nc v135 fun v142 =>
 fa 4 v142 fun v143 =>
 ld v143 h140 fun v144 =>
 o1 (unV .not v144) fun v145 =>
 vb v145 fun q146 => ifB q146 (
 fa 5 v137 fun v147 =>
 ld v147 h140 fun v148 =>
 let r149 : Rc := ⟨1, ⟨some (V.ids v147), [], h140.next, h140.next⟩, some (38, v147, v148), h140, h140⟩
 cln (cf 78 [v135] (Heap.mk h140.next h140.t [])) fun v150 h151 =>
 fh (Heap.new h151 .dead) fun h152 =>
 let r153 : Rc := ⟨3, ⟨none, h151.wl.filter (fun x => Nat.blt x h140.next), h140.next, Nat.succ h151.next⟩, none, h140, h152⟩
 o2 (buildSliceV prog 38 1 [(0, v150)] (Heap.mk h152.next h152.t [])) fun v154 h155 =>
 fh (Heap.new h155 .dead) fun h156 =>
 let r157 : Rc := ⟨4, ⟨(some (List.flatMap V.ids [])), h155.wl.filter (fun x => Nat.blt x h152.next), h152.next, Nat.succ h155.next⟩, none, h152, h156⟩
 o2 (appendV prog 38 38 v148 v154 (Heap.mk h156.next h156.t [])) fun v158 h159 =>
 fh (Heap.new h159 .dead) fun h160 =>
 let r161 : Rc := ⟨5, ⟨(some (List.flatMap V.ids [v148, v154])), h159.wl.filter (fun x => Nat.blt x h156.next), h156.next, Nat.succ h159.next⟩, none, h156, h160⟩
 fa 5 v137 fun v162 =>
 st 1 v162 v158 (Heap.mk h160.next h160.t []) fun h163 =>
 fh (Heap.new h163 .dead) fun h164 =>
 let r165 : Rc := ⟨7, ⟨(some (List.flatMap V.ids [v162])), h163.wl.filter (fun x => Nat.blt x h160.next), h160.next, Nat.succ h163.next⟩, none, h160, h164⟩
 ifB (pc prog r149 r153) (
 ifB (pc prog r149 r157) (
 fh (Heap.mk h164.next h164.t (wrR [r149, r153, r157, r161, r165] ++ h140.wl)) fun h166 =>
 J141 v135 v136 v137 h166) .fail) .fail) (
 J141 v135 v136 v137 h140)) (F64_j2 cf lf)
noncomputable def F64 (cf : CallF) (lf : Nat) : Fv 1 := fun x0 h =>
 cl (cf 21 [x0] h) fun v1 h2 =>
 al (zl prog 61) h2 fun v3 h4 =>
 st 4 v3 v1 h4 fun h5 =>
 fa 3 v3 fun v6 =>
 ld v6 h5 fun v7 =>
 o1 (buildV prog 66 [(6, v7)]) fun v8 =>
 al (zl prog 66) h5 fun v9 h10 =>
 st 7 v9 v8 h10 fun h11 =>
 cl (cf 62 [x0, (.s ⟨1, 123⟩)] h11) fun v12 h13 =>
 vb v12 fun q14 => ifB q14 (
 cl (cf 78 [x0] h13) fun v15 h16 =>
 rt v15 h16) (
 fa 0 v3 fun v17 =>
 ld v17 h13 fun v18 =>
 bi .eql v18 (.i .i64 (.ofNat 2)) fun v19 =>
 vb v19 fun q20 => ifB q20 (
 nc x0 fun v21 =>
 fa 1 v21 fun v22 =>
 ld v22 h13 fun v23 =>
 bi .add v23 (.i .i64 (.ofNat 1)) fun v24 =>
 nc x0 fun v25 =>
 fa 1 v25 fun v26 =>
 st 1 v26 v24 h13 fun h27 =>
 fa 1 v3 fun v28 =>
 ld v28 h27 fun v29 =>
 fa 1 v9 fun v30 =>
 st 1 v30 v29 h27 fun h31 =>
 fa 0 v9 fun v32 =>
 st 1 v32 (.i .i64 (.ofNat 8)) h31 fun h33 =>
 jn 2 (fun J34 =>
 cl (cf 36 [x0, (.s ⟨1, 91⟩)] h33) fun v35 h36 =>
 vb v35 fun q37 => ifB q37 (
 fa 0 v9 fun v38 =>
 st 1 v38 (.i .i64 (.ofNat 9)) h36 fun h39 =>
 fa 5 v9 fun v40 =>
 ld v40 h39 fun v41 =>
 let r42 : Rc := ⟨1, ⟨some (V.ids v40), [], h39.next, h39.next⟩, some (38, v40, v41), h39, h39⟩
 cln (cf 79 [x0] (Heap.mk h39.next h39.t [])) fun v43 h44 =>
 fh (Heap.new h44 .dead) fun h45 =>
 let r46 : Rc := ⟨3, ⟨none, h44.wl.filter (fun x => Nat.blt x h39.next), h39.next, Nat.succ h44.next⟩, none, h39, h45⟩
 o2 (buildSliceV prog 38 1 [(0, v43)] (Heap.mk h45.next h45.t [])) fun v47 h48 =>
 fh (Heap.new h48 .dead) fun h49 =>
 let r50 : Rc := ⟨4, ⟨(some (List.flatMap V.ids [])), h48.wl.filter (fun x => Nat.blt x h45.next), h45.next, Nat.succ h48.next⟩, none, h45, h49⟩
 o2 (appendV prog 38 38 v41 v47 (Heap.mk h49.next h49.t [])) fun v51 h52 =>
 fh (Heap.new h52 .dead) fun h53 =>
 let r54 : Rc := ⟨5, ⟨(some (List.flatMap V.ids [v41, v47])), h52.wl.filter (fun x => Nat.blt x h49.next), h49.next, Nat.succ h52.next⟩, none, h49, h53⟩
 fa 5 v9 fun v55 =>
 st 1 v55 v51 (Heap.mk h53.next h53.t []) fun h56 =>
 fh (Heap.new h56 .dead) fun h57 =>
 let r58 : Rc := ⟨7, ⟨(some (List.flatMap V.ids [v55])), h56.wl.filter (fun x => Nat.blt x h53.next), h53.next, Nat.succ h56.next⟩, none, h53, h57⟩
 ifB (pc prog r42 r46) (
 ifB (pc prog r42 r50) (
 fh (Heap.mk h57.next h57.t (wrR [r42, r46, r50, r54, r58] ++ h39.wl)) fun h59 =>
 cl (cf 33 [x0, (.s ⟨1, 93⟩)] h59) fun v60 h61 =>
 J34 x0 v9 h61) .fail) .fail) (
 J34 x0 v9 h36)) (F64_j1 cf lf)) (
 cl (cf 36 [x0, (.s ⟨2, 26217⟩)] h13) fun v102 h103 =>
 vb v102 fun q104 => ifB q104 (
 fa 0 v9 fun v105 =>
 st 1 v105 (.i .i64 (.ofNat 10)) h103 fun h106 =>
 cl (cf 33 [x0, (.s ⟨1, 40⟩)] h106) fun v107 h108 =>
 jn 3 (fun J109 =>
 nc x0 fun v110 =>
 fa 4 v110 fun v111 =>
 ld v111 h108 fun v112 =>
 o1 (unV .not v112) fun v113 =>
 vb v113 fun q114 => ifB q114 (
 fa 5 v9 fun v115 =>
 ld v115 h108 fun v116 =>
 let r117 : Rc := ⟨1, ⟨some (V.ids v115), [], h108.next, h108.next⟩, some (38, v115, v116), h108, h108⟩
 cln (cf 79 [x0] (Heap.mk h108.next h108.t [])) fun v118 h119 =>
 fh (Heap.new h119 .dead) fun h120 =>
 let r121 : Rc := ⟨3, ⟨none, h119.wl.filter (fun x => Nat.blt x h108.next), h108.next, Nat.succ h119.next⟩, none, h108, h120⟩
 o2 (buildSliceV prog 38 1 [(0, v118)] (Heap.mk h120.next h120.t [])) fun v122 h123 =>
 fh (Heap.new h123 .dead) fun h124 =>
 let r125 : Rc := ⟨4, ⟨(some (List.flatMap V.ids [])), h123.wl.filter (fun x => Nat.blt x h120.next), h120.next, Nat.succ h123.next⟩, none, h120, h124⟩
 o2 (appendV prog 38 38 v116 v122 (Heap.mk h124.next h124.t [])) fun v126 h127 =>
 fh (Heap.new h127 .dead) fun h128 =>
 let r129 : Rc := ⟨5, ⟨(some (List.flatMap V.ids [v116, v122])), h127.wl.filter (fun x => Nat.blt x h124.next), h124.next, Nat.succ h127.next⟩, none, h124, h128⟩
 fa 5 v9 fun v130 =>
 st 1 v130 v126 (Heap.mk h128.next h128.t []) fun h131 =>
 fh (Heap.new h131 .dead) fun h132 =>
 let r133 : Rc := ⟨7, ⟨(some (List.flatMap V.ids [v130])), h131.wl.filter (fun x => Nat.blt x h128.next), h128.next, Nat.succ h131.next⟩, none, h128, h132⟩
 ifB (pc prog r117 r121) (
 ifB (pc prog r117 r125) (
 fh (Heap.mk h132.next h132.t (wrR [r117, r121, r125, r129, r133] ++ h108.wl)) fun h134 =>
 J109 x0 v3 v9 h134) .fail) .fail) (
 J109 x0 v3 v9 h108)) (F64_j3 cf lf)) (
 cl (cf 36 [x0, (.s ⟨3, 7499622⟩)] h103) fun v223 h224 =>
 vb v223 fun q225 => ifB q225 (
 fa 0 v9 fun v226 =>
 st 1 v226 (.i .i64 (.ofNat 11)) h224 fun h227 =>
 cl (cf 34 [x0, (.i .i64 (.ofNat 2))] h227) fun v228 h229 =>
 o1 (fieldV prog 61 v228 1) fun v230 =>
 fa 1 v9 fun v231 =>
 st 1 v231 v230 h229 fun h232 =>
 cl (cf 33 [x0, (.s ⟨2, 28265⟩)] h232) fun v233 h234 =>
 cl (cf 34 [x0, (.i .i64 (.ofNat 1))] h234) fun v235 h236 =>
 o1 (fieldV prog 61 v235 2) fun v237 =>
 fa 3 v9 fun v238 =>
 st 1 v238 v237 h236 fun h239 =>
 nc x0 fun v240 =>
 fa 4 v240 fun v241 =>
 ld v241 h239 fun v242 =>
 o1 (unV .not v242) fun v243 =>
 vb v243 fun q244 => ifB q244 (
 fa 5 v9 fun v245 =>
 ld v245 h239 fun v246 =>
 let r247 : Rc := ⟨1, ⟨some (V.ids v245), [], h239.next, h239.next⟩, some (38, v245, v246), h239, h239⟩
 cln (cf 78 [x0] (Heap.mk h239.next h239.t [])) fun v248 h249 =>
 fh (Heap.new h249 .dead) fun h250 =>
 let r251 : Rc := ⟨3, ⟨none, h249.wl.filter (fun x => Nat.blt x h239.next), h239.next, Nat.succ h249.next⟩, none, h239, h250⟩
 o2 (buildSliceV prog 38 1 [(0, v248)] (Heap.mk h250.next h250.t [])) fun v252 h253 =>
 fh (Heap.new h253 .dead) fun h254 =>
 let r255 : Rc := ⟨4, ⟨(some (List.flatMap V.ids [])), h253.wl.filter (fun x => Nat.blt x h250.next), h250.next, Nat.succ h253.next⟩, none, h250, h254⟩
 o2 (appendV prog 38 38 v246 v252 (Heap.mk h254.next h254.t [])) fun v256 h257 =>
 fh (Heap.new h257 .dead) fun h258 =>
 let r259 : Rc := ⟨5, ⟨(some (List.flatMap V.ids [v246, v252])), h257.wl.filter (fun x => Nat.blt x h254.next), h254.next, Nat.succ h257.next⟩, none, h254, h258⟩
 fa 5 v9 fun v260 =>
 st 1 v260 v256 (Heap.mk h258.next h258.t []) fun h261 =>
 fh (Heap.new h261 .dead) fun h262 =>
 let r263 : Rc := ⟨7, ⟨(some (List.flatMap V.ids [v260])), h261.wl.filter (fun x => Nat.blt x h258.next), h258.next, Nat.succ h261.next⟩, none, h258, h262⟩
 ifB (pc prog r247 r251) (
 ifB (pc prog r247 r255) (
 fh (Heap.mk h262.next h262.t (wrR [r247, r251, r255, r259, r263] ++ h239.wl)) fun h264 =>
 ldn 7 v9 h264 fun v265 =>
 cl (cf 23 [x0, v265] h264) fun v266 h267 =>
 rt v266 h267) .fail) .fail) (
 ldn 7 v9 h239 fun v268 =>
 cl (cf 23 [x0, v268] h239) fun v269 h270 =>
 rt v269 h270)) (
 cl (cf 36 [x0, (.s ⟨4, 1684956531⟩)] h224) fun v271 h272 =>
 vb v271 fun q273 => ifB q273 (
 fa 0 v9 fun v274 =>
 st 1 v274 (.i .i64 (.ofNat 12)) h272 fun h275 =>
 cl (cf 34 [x0, (.i .i64 (.ofNat 2))] h275) fun v276 h277 =>
 o1 (fieldV prog 61 v276 1) fun v278 =>
 fa 1 v9 fun v279 =>
 st 1 v279 v278 h277 fun h280 =>
 nc x0 fun v281 =>
 fa 4 v281 fun v282 =>
 ld v282 h280 fun v283 =>
 o1 (unV .not v283) fun v284 =>
 vb v284 fun q285 => ifB q285 (
 fa 5 v9 fun v286 =>
 ld v286 h280 fun v287 =>
 let r288 : Rc := ⟨1, ⟨some (V.ids v286), [], h280.next, h280.next⟩, some (38, v286, v287), h280, h280⟩
 cln (cf 79 [x0] (Heap.mk h280.next h280.t [])) fun v289 h290 =>
 fh (Heap.new h290 .dead) fun h291 =>
 let r292 : Rc := ⟨3, ⟨none, h290.wl.filter (fun x => Nat.blt x h280.next), h280.next, Nat.succ h290.next⟩, none, h280, h291⟩
 o2 (buildSliceV prog 38 1 [(0, v289)] (Heap.mk h291.next h291.t [])) fun v293 h294 =>
 fh (Heap.new h294 .dead) fun h295 =>
 let r296 : Rc := ⟨4, ⟨(some (List.flatMap V.ids [])), h294.wl.filter (fun x => Nat.blt x h291.next), h291.next, Nat.succ h294.next⟩, none, h291, h295⟩
 o2 (appendV prog 38 38 v287 v293 (Heap.mk h295.next h295.t [])) fun v297 h298 =>
 fh (Heap.new h298 .dead) fun h299 =>
 let r300 : Rc := ⟨5, ⟨(some (List.flatMap V.ids [v287, v293])), h298.wl.filter (fun x => Nat.blt x h295.next), h295.next, Nat.succ h298.next⟩, none, h295, h299⟩
 fa 5 v9 fun v301 =>
 st 1 v301 v297 (Heap.mk h299.next h299.t []) fun h302 =>
 fh (Heap.new h302 .dead) fun h303 =>
 let r304 : Rc := ⟨7, ⟨(some (List.flatMap V.ids [v301])), h302.wl.filter (fun x => Nat.blt x h299.next), h299.next, Nat.succ h302.next⟩, none, h299, h303⟩
 ifB (pc prog r288 r292) (
 ifB (pc prog r288 r296) (
 fh (Heap.mk h303.next h303.t (wrR [r288, r292, r296, r300, r304] ++ h280.wl)) fun h305 =>
 cl (cf 33 [x0, (.s ⟨1, 59⟩)] h305) fun v306 h307 =>
 ldn 7 v9 h307 fun v308 =>
 cl (cf 23 [x0, v308] h307) fun v309 h310 =>
 rt v309 h310) .fail) .fail) (
 cl (cf 33 [x0, (.s ⟨1, 59⟩)] h280) fun v311 h312 =>
 ldn 7 v9 h312 fun v313 =>
 cl (cf 23 [x0, v313] h312) fun v314 h315 =>
 rt v314 h315)) (
 cl (cf 36 [x0, (.s ⟨4, 1986225522⟩)] h272) fun v316 h317 =>
 vb v316 fun q318 => ifB q318 (
 fa 0 v9 fun v319 =>
 st 1 v319 (.i .i64 (.ofNat 13)) h317 fun h320 =>
 cl (cf 34 [x0, (.i .i64 (.ofNat 2))] h320) fun v321 h322 =>
 o1 (fieldV prog 61 v321 1) fun v323 =>
 fa 1 v9 fun v324 =>
 st 1 v324 v323 h322 fun h325 =>
 fa 2 v9 fun v326 =>
 ld v326 h325 fun v327 =>
 let r328 : Rc := ⟨1, ⟨some (V.ids v326), [], h325.next, h325.next⟩, some (23, v326, v327), h325, h325⟩
 cln (cf 34 [x0, (.i .i64 (.ofNat 2))] (Heap.mk h325.next h325.t [])) fun v329 h330 =>
 fh (Heap.new h330 .dead) fun h331 =>
 let r332 : Rc := ⟨3, ⟨none, h330.wl.filter (fun x => Nat.blt x h325.next), h325.next, Nat.succ h330.next⟩, none, h325, h331⟩
 o1 (fieldV prog 61 v329 1) fun v333 =>
 o2 (buildSliceV prog 23 1 [(0, v333)] (Heap.mk h331.next h331.t [])) fun v334 h335 =>
 fh (Heap.new h335 .dead) fun h336 =>
 let r337 : Rc := ⟨5, ⟨(some (List.flatMap V.ids [])), h335.wl.filter (fun x => Nat.blt x h331.next), h331.next, Nat.succ h335.next⟩, none, h331, h336⟩
 o2 (appendV prog 23 23 v327 v334 (Heap.mk h336.next h336.t [])) fun v338 h339 =>
 fh (Heap.new h339 .dead) fun h340 =>
 let r341 : Rc := ⟨6, ⟨(some (List.flatMap V.ids [v327, v334])), h339.wl.filter (fun x => Nat.blt x h336.next), h336.next, Nat.succ h339.next⟩, none, h336, h340⟩
 fa 2 v9 fun v342 =>
 st 1 v342 v338 (Heap.mk h340.next h340.t []) fun h343 =>
 fh (Heap.new h343 .dead) fun h344 =>
 let r345 : Rc := ⟨8, ⟨(some (List.flatMap V.ids [v342])), h343.wl.filter (fun x => Nat.blt x h340.next), h340.next, Nat.succ h343.next⟩, none, h340, h344⟩
 ifB (pc prog r328 r332) (
 ifB (pc prog r328 r337) (
 fh (Heap.mk h344.next h344.t (wrR [r328, r332, r337, r341, r345] ++ h325.wl)) fun h346 =>
 cl (cf 33 [x0, (.s ⟨1, 59⟩)] h346) fun v347 h348 =>
 ldn 7 v9 h348 fun v349 =>
 cl (cf 23 [x0, v349] h348) fun v350 h351 =>
 rt v350 h351) .fail) .fail) (
 cl (cf 36 [x0, (.s ⟨3, 7632239⟩)] h317) fun v352 h353 =>
 vb v352 fun q354 => ifB q354 (
 fa 0 v9 fun v355 =>
 st 1 v355 (.i .i64 (.ofNat 14)) h353 fun h356 =>
 fa 5 v9 fun v357 =>
 ld v357 h356 fun v358 =>
 let r359 : Rc := ⟨1, ⟨some (V.ids v357), [], h356.next, h356.next⟩, some (38, v357, v358), h356, h356⟩
 cln (cf 79 [x0] (Heap.mk h356.next h356.t [])) fun v360 h361 =>
 fh (Heap.new h361 .dead) fun h362 =>
 let r363 : Rc := ⟨3, ⟨none, h361.wl.filter (fun x => Nat.blt x h356.next), h356.next, Nat.succ h361.next⟩, none, h356, h362⟩
 o2 (buildSliceV prog 38 1 [(0, v360)] (Heap.mk h362.next h362.t [])) fun v364 h365 =>
 fh (Heap.new h365 .dead) fun h366 =>
 let r367 : Rc := ⟨4, ⟨(some (List.flatMap V.ids [])), h365.wl.filter (fun x => Nat.blt x h362.next), h362.next, Nat.succ h365.next⟩, none, h362, h366⟩
 o2 (appendV prog 38 38 v358 v364 (Heap.mk h366.next h366.t [])) fun v368 h369 =>
 fh (Heap.new h369 .dead) fun h370 =>
 let r371 : Rc := ⟨5, ⟨(some (List.flatMap V.ids [v358, v364])), h369.wl.filter (fun x => Nat.blt x h366.next), h366.next, Nat.succ h369.next⟩, none, h366, h370⟩
 fa 5 v9 fun v372 =>
 st 1 v372 v368 (Heap.mk h370.next h370.t []) fun h373 =>
 fh (Heap.new h373 .dead) fun h374 =>
 let r375 : Rc := ⟨7, ⟨(some (List.flatMap V.ids [v372])), h373.wl.filter (fun x => Nat.blt x h370.next), h370.next, Nat.succ h373.next⟩, none, h370, h374⟩
 ifB (pc prog r359 r363) (
 ifB (pc prog r359 r367) (
 fh (Heap.mk h374.next h374.t (wrR [r359, r363, r367, r371, r375] ++ h356.wl)) fun h376 =>
 cl (cf 33 [x0, (.s ⟨1, 59⟩)] h376) fun v377 h378 =>
 ldn 7 v9 h378 fun v379 =>
 cl (cf 23 [x0, v379] h378) fun v380 h381 =>
 rt v380 h381) .fail) .fail) (
 cl (cf 36 [x0, (.s ⟨4, 1953259880⟩)] h353) fun v382 h383 =>
 vb v382 fun q384 => ifB q384 (
 fa 0 v9 fun v385 =>
 st 1 v385 (.i .i64 (.ofNat 15)) h383 fun h386 =>
 cl (cf 33 [x0, (.s ⟨1, 59⟩)] h386) fun v387 h388 =>
 ldn 7 v9 h388 fun v389 =>
 cl (cf 23 [x0, v389] h388) fun v390 h391 =>
 rt v390 h391) (
 nc x0 fun v392 =>
 fa 4 v392 fun v393 =>
 st 1 v393 (.b true) h383 fun h394 =>
 ldn 7 v9 h394 fun v395 =>
 cl (cf 23 [x0, v395] h394) fun v396 h397 =>
 rt v396 h397))))))))
def A64 : Ann := (.s (.r []) (.s (.r []) (.s (.r []) (.s (.b (.s (.r []) (.s (.s (.r []) .z) (.s (.r []) (.s (.s (.r []) (.s (.r []) (.s (.r []) (.j [0, 4] (.s (.r []) (.s (.s (.r []) (.s (.d [] [1] [0, 1, 0, 4, 12, 31, 63, 127]) (.r []))) .z)) (.s (.r []) (.s (.s (.r []) (.s (.d [] [1] [0, 1, 0, 4, 12, 31, 63, 127]) .z)) (.r []))))))) (.s (.r []) (.s (.s (.r []) (.s (.r []) (.j [0, 3, 4] (.s (.r []) (.s (.d [] [1] [0, 1, 0, 4, 12, 31, 63, 127]) .z)) (.s (.r []) (.j [0, 3, 4] (.s (.r []) (.s (.d [] [1] [0, 1, 0, 4, 12, 31, 63, 127]) .z)) (.s (.r []) (.s (.d [] [1] [0, 1, 0, 4, 12, 31, 63, 127]) (.d [] [1] [0, 1, 0, 0, 8, 24, 60, 124, 255, 511, 1023])))))))) (.s (.r []) (.s (.s (.r []) (.s (.r []) (.s (.r []) (.s (.r []) (.s (.r []) (.s (.d [] [1] [0, 1, 0, 4, 12, 31, 63, 127]) .z)))))) (.s (.r []) (.s (.s (.r []) (.s (.r []) (.s (.s (.r []) (.s (.d [] [1] [0, 1, 0, 4, 12, 31, 63, 127]) .z)) (.r [])))) (.s (.r []) (.s (.s (.r []) (.s (.r []) (.s (.d [] [1] [0, 1, 0, 4, 12, 28, 63, 127, 255]) (.r [])))) (.s (.r []) (.s (.s (.r []) (.s (.d [] [1] [0, 1, 0, 4, 12, 31, 63, 127]) (.r []))) (.s (.r []) (.s (.s (.r []) (.r [])) (.r [])))))))))))))))))) (.s (.r []) .z)))))
theorem F64_eq (cf : CallF) (lf : Nat) (x0 : V) (h : Heap) : bodyA prog 0 f64 (f64.body.getD .skip) A64 cf lf [x0] h = F64 cf lf x0 h := by kernel_rfl

-- footman/manifest.Box
noncomputable def F66 (cf : CallF) (lf : Nat) : Fv 2 := fun x0 x1 h =>
 al (V.cells x0) h fun v1 h2 =>
 al (V.cells x1) h2 fun v3 h4 =>
 fa 2 v1 fun v5 =>
 ld v5 h4 fun v6 =>
 cl (cf 81 [v6, (.f (.func 82) [] [v3])] h4) fun v7 h8 =>
 cl (cf 80 [v7] h8) fun v9 h10 =>
 o1 (extractV v9 0) fun v11 =>
 o1 (extractV v9 1) fun v12 =>
 rt (.tup [v11, v12]) h10
def A66 : Ann := (.s (.r []) (.s (.r []) .z))
theorem F66_eq (cf : CallF) (lf : Nat) (x0 : V) (x1 : V) (h : Heap) : bodyA prog 0 f66 (f66.body.getD .skip) A66 cf lf [x0, x1] h = F66 cf lf x0 x1 h := by kernel_rfl

-- slices.IndexFunc[[]string,string]
noncomputable def F67_b1 (cf : CallF) (lf : Nat) : Fv 4 → Fv 4 := fun S2 v3 v4 v5 v6 h7 =>
 bi .lss v6 v5 fun v8 =>
 vb v8 fun q9 => ifB q9 (
 ix 1 v3 v6 fun v10 =>
 ld v10 h7 fun v11 =>
 cf1 cf v4 [v11] h7 fun v12 h13 =>
 vb v12 fun q14 => ifB q14 (
 rt v6 h13) (
 bi .add v6 (.i .i64 (.ofNat 1)) fun v15 =>
 S2 v3 v4 v5 v15 h13)) (
 rt (.i .i64 (.negSucc 0)) h7)
noncomputable def F67 (cf : CallF) (lf : Nat) : Fv 2 := fun x0 x1 h =>
 lns x0 fun v1 =>
 loop 4 lf (F67_b1 cf lf) x0 x1 v1 (.i .i64 (.ofNat 0)) h
def A67 : Ann := (.s (.r []) (.s (.s (.r []) (.b (.l [0, 1, 7, 8] (.s (.r []) (.s (.s .z .z) (.s (.b (.s (.r []) (.s (.r []) (.s (.s (.r []) .z) .z)))) (.r []))))))) (.s (.r []) .z)))
theorem F67_eq (cf : CallF) (lf : Nat) (x0 : V) (x1 : V) (h : Heap) : bodyA prog 0 f67 (f67.body.getD .skip) A67 cf lf [x0, x1] h = F67 cf lf x0 x1 h := by kernel_rfl

-- math/bits.Mul
noncomputable def F68 (cf : CallF) (lf : Nat) : Fv 2 := fun x0 x1 h =>
 cl (cf 84 [x0, x1] h) fun v1 h2 =>
 o1 (extractV v1 0) fun v3 =>
 o1 (extractV v1 1) fun v4 =>
 rt (.tup [v3, v4]) h2
def A68 : Ann := (.s (.r []) (.s (.s (.s (.r []) (.s (.r []) .z)) .z) (.s (.r []) (.s (.r []) .z))))
theorem F68_eq (cf : CallF) (lf : Nat) (x0 : V) (x1 : V) (h : Heap) : bodyA prog 0 f68 (f68.body.getD .skip) A68 cf lf [x0, x1] h = F68 cf lf x0 x1 h := by kernel_rfl

-- footman/manifest.Task
noncomputable def F69 (cf : CallF) (lf : Nat) : Fv 2 := fun x0 x1 h =>
 al (V.cells x0) h fun v1 h2 =>
 fa 1 v1 fun v3 =>
 ld v3 h2 fun v4 =>
 cl (cf 85 [v4, x1] h2) fun v5 h6 =>
 cl (cf 80 [v5] h6) fun v7 h8 =>
 o1 (extractV v7 0) fun v9 =>
 o1 (extractV v7 1) fun v10 =>
 rt (.tup [v9, v10]) h8
def A69 : Ann := (.s (.r []) (.s (.r []) .z))
theorem F69_eq (cf : CallF) (lf : Nat) (x0 : V) (x1 : V) (h : Heap) : bodyA prog 0 f69 (f69.body.getD .skip) A69 cf lf [x0, x1] h = F69 cf lf x0 x1 h := by kernel_rfl

-- (*footman/names.checker).aTask$1
noncomputable def F70 (cf : CallF) (lf : Nat) : Fv 2 := fun x0 x1 h =>
 al (V.cells x0) h fun v1 h2 =>
 fa 0 v1 fun v3 =>
 ld v3 h2 fun v4 =>
 bi .eql v4 (.i .i64 (.ofNat 17)) fun v5 =>
 vb v5 fun q6 => ifB q6 (
 fa 1 v1 fun v7 =>
 ld v7 h2 fun v8 =>
 ld x1 h2 fun v9 =>
 bs .eql v8 v9 fun v10 =>
 rt v10 h2) (
 rt (.b false) h2)
def A70 : Ann := (.s (.r []) (.s (.r [4]) .z))
theorem F70_eq (cf : CallF) (lf : Nat) (x0 : V) (x1 : V) (h : Heap) : bodyA prog 0 f70 (f70.body.getD .skip) A70 cf lf [x0, x1] h = F70 cf lf x0 x1 h := by kernel_rfl

-- footman/manifest.Key
noncomputable def F71 (cf : CallF) (lf : Nat) : Fv 2 := fun x0 x1 h =>
 al (V.cells x0) h fun v1 h2 =>
 al (V.cells x1) h2 fun v3 h4 =>
 fa 3 v1 fun v5 =>
 ld v5 h4 fun v6 =>
 cl (cf 86 [v6, (.f (.func 87) [] [v3])] h4) fun v7 h8 =>
 cl (cf 80 [v7] h8) fun v9 h10 =>
 o1 (extractV v9 0) fun v11 =>
 o1 (extractV v9 1) fun v12 =>
 rt (.tup [v11, v12]) h10
def A71 : Ann := (.s (.r []) (.s (.r []) .z))
theorem F71_eq (cf : CallF) (lf : Nat) (x0 : V) (x1 : V) (h : Heap) : bodyA prog 0 f71 (f71.body.getD .skip) A71 cf lf [x0, x1] h = F71 cf lf x0 x1 h := by kernel_rfl

-- (*footman/names.checker).name
noncomputable def F72 (cf : CallF) (lf : Nat) : Fv 2 := fun x0 x1 h =>
 cl (cf 27 [x0, x1] h) fun v1 h2 =>
 bi .geq v1 (.i .i64 (.ofNat 0)) fun v3 =>
 vb v3 fun q4 => ifB q4 (
 nc x0 fun v5 =>
 fa 0 v5 fun v6 =>
 ld v6 h2 fun v7 =>
 ix 7 v7 v1 fun v8 =>
 fa 1 v8 fun v9 =>
 ld v9 h2 fun v10 =>
 rt v10 h2) (
 rt (.s ⟨0, 0⟩) h2)
def A72 : Ann := (.s (.r []) (.s (.s (.r []) (.s (.r []) (.s (.s (.r []) .z) .z))) (.s (.r []) .z)))
theorem F72_eq (cf : CallF) (lf : Nat) (x0 : V) (x1 : V) (h : Heap) : bodyA prog 0 f72 (f72.body.getD .skip) A72 cf lf [x0, x1] h = F72 cf lf x0 x1 h := by kernel_rfl

-- (*footman/names.checker).variable
noncomputable def F73 (cf : CallF) (lf : Nat) : Fv 3 := fun x0 x1 x2 h =>
 al (zl prog 66) h fun v1 h2 =>
 nc x0 fun v3 =>
 fa 6 v3 fun v4 =>
 ld v4 h2 fun v5 =>
 let r6 : Rc := ⟨3, ⟨some (V.ids v4), [], h2.next, h2.next⟩, some (72, v4, v5), h2, h2⟩
 cln (cf 27 [x0, x1] (Heap.mk h2.next h2.t [])) fun v7 h8 =>
 fh (Heap.new h8 .dead) fun h9 =>
 let r10 : Rc := ⟨6, ⟨none, h8.wl.filter (fun x => Nat.blt x h2.next), h2.next, Nat.succ h8.next⟩, none, h2, h9⟩
 o1 (buildV prog 76 [(0, v7), (1, x2)]) fun v11 =>
 o1 (lookupV prog 72 v5 v11 true (Heap.mk h9.next h9.t [])) fun v12 =>
 fh (Heap.new (Heap.mk h9.next h9.t []) .dead) fun h13 =>
 let r14 : Rc := ⟨9, ⟨(some (List.flatMap V.ids [v5])), (Heap.mk h9.next h9.t []).wl.filter (fun x => Nat.blt x h9.next), h9.next, Nat.succ (Heap.mk h9.next h9.t []).next⟩, none, h9, h13⟩
 o1 (extractV v12 0) fun v15 =>
 o1 (extractV v12 1) fun v16 =>
 ifB (pc prog r6 r10) (
 fh (Heap.mk h13.next h13.t (wrR [r6, r10, r14] ++ h2.wl)) fun h17 =>
 o1 (unV .not v16) fun v18 =>
 vb v18 fun q19 => ifB q19 (
 o1 (buildV prog 66 []) fun v20 =>
 st 7 v1 v20 h17 fun h21 =>
 ldn 7 v1 h21 fun v22 =>
 rt (.tup [v22, (.b false)]) h21) (
 nc x0 fun v23 =>
 fa 0 v23 fun v24 =>
 ld v24 h17 fun v25 =>
 ix 7 v25 v15 fun v26 =>
 ldn 7 v26 h17 fun v27 =>
 st 7 v1 v27 h17 fun h28 =>
 ldn 7 v1 h28 fun v29 =>
 rt (.tup [v29, (.b true)]) h28)) .fail
def A73 : Ann := (.s (.r []) (.s (.d [] [3] [0, 1, 3, 7, 0, 0, 48, 0, 240, 511, 1023, 2047, 2047, 4095, 16383]) (.s (.s (.r []) (.s (.s (.r []) .z) .z)) (.s (.r []) .z))))
theorem F73_eq (cf : CallF) (lf : Nat) (x0 : V) (x1 : V) (x2 : V) (h : Heap) : bodyA prog 0 f73 (f73.body.getD .skip) A73 cf lf [x0, x1, x2] h = F73 cf lf x0 x1 x2 h := by kernel_rfl

-- (*footman/names.checker).turn
noncomputable def F74_b1 (cf : CallF) (lf : Nat) : Fv 3 → Fv 3 := fun S6 v7 v8 v9 h10 =>
 bi .geq v8 (.i .i64 (.ofNat 0)) fun v11 =>
 vb v11 fun q12 => ifB q12 (
 nc v7 fun v13 =>
 fa 0 v13 fun v14 =>
 ld v14 h10 fun v15 =>
 ix 7 v15 v8 fun v16 =>
 fa 0 v16 fun v17 =>
 ld v17 h10 fun v18 =>
 bi .eql v18 (.i .i64 (.ofNat 11)) fun v19 =>
 vb v19 fun q20 => ifB q20 (
 nc v7 fun v21 =>
 fa 0 v21 fun v22 =>
 ld v22 h10 fun v23 =>
 ix 7 v23 v8 fun v24 =>
 fa 1 v24 fun v25 =>
 ld v25 h10 fun v26 =>
 bs .eql v26 v9 fun v27 =>
 vb v27 fun q28 => ifB q28 (
 rt (.b true) h10) (
 nc v7 fun v29 =>
 fa 5 v29 fun v30 =>
 ld v30 h10 fun v31 =>
 ix 1 v31 v8 fun v32 =>
 ld v32 h10 fun v33 =>
 S6 v7 v33 v9 h10)) (
 nc v7 fun v34 =>
 fa 5 v34 fun v35 =>
 ld v35 h10 fun v36 =>
 ix 1 v36 v8 fun v37 =>
 ld v37 h10 fun v38 =>
 S6 v7 v38 v9 h10)) (
 rt (.b false) h10)
noncomputable def F74 (cf : CallF) (lf : Nat) : Fv 3 := fun x0 x1 x2 h =>
 nc x0 fun v1 =>
 fa 5 v1 fun v2 =>
 ld v2 h fun v3 =>
 ix 1 v3 x1 fun v4 =>
 ld v4 h fun v5 =>
 loop 3 lf (F74_b1 cf lf) x0 v5 x2 h
def A74 : Ann := (.s (.r []) (.s (.s (.r []) (.b (.l [0, 1, 2] (.s (.s (.r []) (.s .z .z)) (.s (.b (.s (.r [10]) (.s (.s (.r []) .z) .z))) (.r [])))))) (.s (.r []) .z)))
theorem F74_eq (cf : CallF) (lf : Nat) (x0 : V) (x1 : V) (x2 : V) (h : Heap) : bodyA prog 0 f74 (f74.body.getD .skip) A74 cf lf [x0, x1, x2] h = F74 cf lf x0 x1 x2 h := by kernel_rfl

-- slices.IndexFunc[[]footman/api.Node,footman/api.Node]
noncomputable def F75_b1 (cf : CallF) (lf : Nat) : Fv 4 → Fv 4 := fun S2 v3 v4 v5 v6 h7 =>
 bi .lss v6 v5 fun v8 =>
 vb v8 fun q9 => ifB q9 (
 ix 7 v3 v6 fun v10 =>
 ldn 7 v10 h7 fun v11 =>
 cf1 cf v4 [v11] h7 fun v12 h13 =>
 vb v12 fun q14 => ifB q14 (
 rt v6 h13) (
 bi .add v6 (.i .i64 (.ofNat 1)) fun v15 =>
 S2 v3 v4 v5 v15 h13)) (
 rt (.i .i64 (.negSucc 0)) h7)
noncomputable def F75 (cf : CallF) (lf : Nat) : Fv 2 := fun x0 x1 h =>
 lns x0 fun v1 =>
 loop 4 lf (F75_b1 cf lf) x0 x1 v1 (.i .i64 (.ofNat 0)) h
def A75 : Ann := (.s (.r []) (.s (.s (.r []) (.b (.l [0, 1, 7, 8] (.s (.r []) (.s (.s .z .z) (.s (.b (.s (.r []) (.s (.r []) (.s (.s (.r []) .z) .z)))) (.r []))))))) (.s (.r []) .z)))
theorem F75_eq (cf : CallF) (lf : Nat) (x0 : V) (x1 : V) (h : Heap) : bodyA prog 0 f75 (f75.body.getD .skip) A75 cf lf [x0, x1] h = F75 cf lf x0 x1 h := by kernel_rfl

-- footman/footmanref10.hex
noncomputable def F76 (cf : CallF) (lf : Nat) : Fv 1 := fun x0 h =>
 cl (cf 57 [x0] h) fun v1 h2 =>
 vb v1 fun q3 => ifB q3 (
 bi .sub x0 (.i .u8 (.ofNat 48)) fun v4 =>
 cv .i64 v4 fun v5 =>
 rt v5 h2) (
 bi .geq x0 (.i .u8 (.ofNat 97)) fun v6 =>
 vb v6 fun q7 => ifB q7 (
 bi .leq x0 (.i .u8 (.ofNat 102)) fun v8 =>
 vb v8 fun q9 => ifB q9 (
 bi .sub x0 (.i .u8 (.ofNat 97)) fun v10 =>
 cv .i64 v10 fun v11 =>
 bi .add v11 (.i .i64 (.ofNat 10)) fun v12 =>
 rt v12 h2) (
 rt (.i .i64 (.negSucc 0)) h2)) (
 rt (.i .i64 (.negSucc 0)) h2))
def A76 : Ann := (.s (.r []) (.s (.s (.r []) (.s (.s (.r []) .z) .z)) (.s (.s (.r [3]) (.s (.s (.r []) .z) .z)) (.s (.r []) .z))))
theorem F76_eq (cf : CallF) (lf : Nat) (x0 : V) (h : Heap) : bodyA prog 0 f76 (f76.body.getD .skip) A76 cf lf [x0] h = F76 cf lf x0 h := by kernel_rfl

-- footman/footmanref10.words
noncomputable def F77 (cf : CallF) (lf : Nat) : Fv 0 := fun h =>
 o2 (buildSliceV prog 23 14 [(0, (.s ⟨4, 1802723700⟩)), (1, (.s ⟨5, 500186508905⟩)), (2, (.s ⟨6, 109304441107824⟩)), (3, (.s ⟨6, 127979059635571⟩)), (4, (.s ⟨3, 7955819⟩)), (5, (.s ⟨2, 26217⟩)), (6, (.s ⟨4, 1702063205⟩)), (7, (.s ⟨3, 7499622⟩)), (8, (.s ⟨2, 28265⟩)), (9, (.s ⟨4, 1684956531⟩)), (10, (.s ⟨4, 1986225522⟩)), (11, (.s ⟨3, 7632239⟩)), (12, (.s ⟨4, 1953259880⟩)), (13, (.s ⟨3, 7103859⟩))] h) fun v1 h2 =>
 rt v1 h2
def A77 : Ann := (.s (.r []) (.s (.r []) .z))
theorem F77_eq (cf : CallF) (lf : Nat) (h : Heap) : bodyA prog 0 f77 (f77.body.getD .skip) A77 cf lf [] h = F77 cf lf h := by kernel_rfl

-- (*footman/footmanref10.parser).block
noncomputable def F78_b1 (cf : CallF) (lf : Nat) : Fv 2 → Fv 2 := fun S10 v11 v12 h13 =>
 nc v11 fun v14 =>
 fa 4 v14 fun v15 =>
 ld v15 h13 fun v16 =>
 o1 (unV .not v16) fun v17 =>
 vb v17 fun q18 => ifB q18 (
 cl (cf 36 [v11, (.s ⟨1, 125⟩)] h13) fun v19 h20 =>
 o1 (unV .not v19) fun v21 =>
 vb v21 fun q22 => ifB q22 (
 fa 5 v12 fun v23 =>
 ld v23 h20 fun v24 =>
 let r25 : Rc := ⟨1, ⟨some (V.ids v23), [], h20.next, h20.next⟩, some (38, v23, v24), h20, h20⟩
 cln (cf 37 [v11] (Heap.mk h20.next h20.t [])) fun v26 h27 =>
 fh (Heap.new h27 .dead) fun h28 =>
 let r29 : Rc := ⟨3, ⟨none, h27.wl.filter (fun x => Nat.blt x h20.next), h20.next, Nat.succ h27.next⟩, none, h20, h28⟩
 o2 (buildSliceV prog 38 1 [(0, v26)] (Heap.mk h28.next h28.t [])) fun v30 h31 =>
 fh (Heap.new h31 .dead) fun h32 =>
 let r33 : Rc := ⟨4, ⟨(some (List.flatMap V.ids [])), h31.wl.filter (fun x => Nat.blt x h28.next), h28.next, Nat.succ h31.next⟩, none, h28, h32⟩
 o2 (appendV prog 38 38 v24 v30 (Heap.mk h32.next h32.t [])) fun v34 h35 =>
 fh (Heap.new h35 .dead) fun h36 =>
 let r37 : Rc := ⟨5, ⟨(some (List.flatMap V.ids [v24, v30])), h35.wl.filter (fun x => Nat.blt x h32.next), h32.next, Nat.succ h35.next⟩, none, h32, h36⟩
 fa 5 v12 fun v38 =>
 st 1 v38 v34 (Heap.mk h36.next h36.t []) fun h39 =>
 fh (Heap.new h39 .dead) fun h40 =>
 let r41 : Rc := ⟨7, ⟨(some (List.flatMap V.ids [v38])), h39.wl.filter (fun x => Nat.blt x h36.next), h36.next, Nat.succ h39.next⟩, none, h36, h40⟩
 ifB (pc prog r25 r29) (
 ifB (pc prog r25 r33) (
 fh (Heap.mk h40.next h40.t (wrR [r25, r29, r33, r37, r41] ++ h20.wl)) fun h42 =>
 S10 v11 v12 h42) .fail) .fail) (
 ldn 7 v12 h20 fun v43 =>
 cl (cf 23 [v11, v43] h20) fun v44 h45 =>
 rt v44 h45)) (
 ldn 7 v12 h13 fun v46 =>
 cl (cf 23 [v11, v46] h13) fun v47 h48 =>
 rt v47 h48)
noncomputable def F78 (cf : CallF) (lf : Nat) : Fv 1 := fun x0 h =>
 cl (cf 21 [x0] h) fun v1 h2 =>
 o1 (fieldV prog 61 v1 3) fun v3 =>
 cl (cf 33 [x0, (.s ⟨1, 123⟩)] h2) fun v4 h5 =>
 o1 (buildV prog 66 [(0, (.i .i64 (.ofNat 16))), (6, v3)]) fun v6 =>
 al (zl prog 66) h5 fun v7 h8 =>
 st 7 v7 v6 h8 fun h9 =>
 loop 2 lf (F78_b1 cf lf) x0 v7 h9
def A78 : Ann := (.s (.r []) (.s (.r []) (.s (.r []) (.s (.r []) (.s (.b (.l [0, 4] (.s (.s (.r [6]) (.s .z .z)) (.b (.d [] [1] [0, 1, 0, 4, 12, 31, 63, 127]))))) (.s (.r []) .z))))))
theorem F78_eq (cf : CallF) (lf : Nat) (x0 : V) (h : Heap) : bodyA prog 0 f78 (f78.body.getD .skip) A78 cf lf [x0] h = F78 cf lf x0 h := by kernel_rfl

-- (*footman/footmanref10.parser).e
noncomputable def F79 (cf : CallF) (lf : Nat) : Fv 1 := fun x0 h =>
 cl (cf 63 [x0] h) fun v1 h2 =>
 nc x0 fun v3 =>
 fa 4 v3 fun v4 =>
 ld v4 h2 fun v5 =>
 vb v5 fun q6 => ifB q6 (
 rt (.i .i64 (.ofNat 0)) h2) (
 cl (cf 88 [x0, (.i .i64 (.ofNat 0))] h2) fun v7 h8 =>
 nc x0 fun v9 =>
 fa 3 v9 fun v10 =>
 ld v10 h8 fun v11 =>
 bi .sub v11 (.i .i64 (.ofNat 1)) fun v12 =>
 nc x0 fun v13 =>
 fa 3 v13 fun v14 =>
 st 1 v14 v12 h8 fun h15 =>
 rt v7 h15)
def A79 : Ann := (.s (.r []) (.s (.r []) (.s (.s (.r []) (.s (.s (.r []) .z) .z)) (.s (.r []) (.s (.r []) (.s (.r []) .z))))))
theorem F79_eq (cf : CallF) (lf : Nat) (x0 : V) (h : Heap) : bodyA prog 0 f79 (f79.body.getD .skip) A79 cf lf [x0] h = F79 cf lf x0 h := by kernel_rfl

-- footman/manifest.found
noncomputable def F80 (cf : CallF) (lf : Nat) : Fv 1 := fun x0 h =>
 o1 (minmaxV (fun y x => ilt x y) [(.i .i64 (.ofNat 0)), x0]) fun v1 =>
 bi .geq x0 (.i .i64 (.ofNat 0)) fun v2 =>
 rt (.tup [v1, v2]) h
def A80 : Ann := (.s (.r []) (.s (.r []) .z))
theorem F80_eq (cf : CallF) (lf : Nat) (x0 : V) (h : Heap) : bodyA prog 0 f80 (f80.body.getD .skip) A80 cf lf [x0] h = F80 cf lf x0 h := by kernel_rfl

-- slices.IndexFunc[[]footman/api.Box,footman/api.Box]
noncomputable def F81_b1 (cf : CallF) (lf : Nat) : Fv 4 → Fv 4 := fun S2 v3 v4 v5 v6 h7 =>
 bi .lss v6 v5 fun v8 =>
 vb v8 fun q9 => ifB q9 (
 ix 5 v3 v6 fun v10 =>
 ldn 5 v10 h7 fun v11 =>
 cf1 cf v4 [v11] h7 fun v12 h13 =>
 vb v12 fun q14 => ifB q14 (
 rt v6 h13) (
 bi .add v6 (.i .i64 (.ofNat 1)) fun v15 =>
 S2 v3 v4 v5 v15 h13)) (
 rt (.i .i64 (.negSucc 0)) h7)
noncomputable def F81 (cf : CallF) (lf : Nat) : Fv 2 := fun x0 x1 h =>
 lns x0 fun v1 =>
 loop 4 lf (F81_b1 cf lf) x0 x1 v1 (.i .i64 (.ofNat 0)) h
def A81 : Ann := (.s (.r []) (.s (.s (.r []) (.b (.l [0, 1, 7, 8] (.s (.r []) (.s (.s .z .z) (.s (.b (.s (.r []) (.s (.r []) (.s (.s (.r []) .z) .z)))) (.r []))))))) (.s (.r []) .z)))
theorem F81_eq (cf : CallF) (lf : Nat) (x0 : V) (x1 : V) (h : Heap) : bodyA prog 0 f81 (f81.body.getD .skip) A81 cf lf [x0, x1] h = F81 cf lf x0 x1 h := by kernel_rfl

-- footman/manifest.Box$1
noncomputable def F82 (cf : CallF) (lf : Nat) : Fv 2 := fun x0 x1 h =>
 al (V.cells x0) h fun v1 h2 =>
 fa 0 v1 fun v3 =>
 ld v3 h2 fun v4 =>
 ld x1 h2 fun v5 =>
 bs .eql v4 v5 fun v6 =>
 rt v6 h2
def A82 : Ann := (.s (.r []) (.s (.r []) .z))
theorem F82_eq (cf : CallF) (lf : Nat) (x0 : V) (x1 : V) (h : Heap) : bodyA prog 0 f82 (f82.body.getD .skip) A82 cf lf [x0, x1] h = F82 cf lf x0 x1 h := by kernel_rfl

-- math/bits.Mul32
noncomputable def F83 (cf : CallF) (lf : Nat) : Fv 2 := fun x0 x1 h =>
 cv .u64 x0 fun v1 =>
 cv .u64 x1 fun v2 =>
 bi .mul v1 v2 fun v3 =>
 bsh .shr v3 (.i .u64 (.ofNat 32)) fun v4 =>
 cv .u32 v4 fun v5 =>
 cv .u32 v3 fun v6 =>
 rt (.tup [v5, v6]) h
def A83 : Ann := (.s (.r []) (.s (.r []) (.s (.r []) .z)))
theorem F83_eq (cf : CallF) (lf : Nat) (x0 : V) (x1 : V) (h : Heap) : bodyA prog 0 f83 (f83.body.getD .skip) A83 cf lf [x0, x1] h = F83 cf lf x0 x1 h := by kernel_rfl

-- math/bits.Mul64
noncomputable def F84 (cf : CallF) (lf : Nat) : Fv 2 := fun x0 x1 h =>
 bi .and x0 (.i .u64 (.ofNat 4294967295)) fun v1 =>
 bsh .shr x0 (.i .u64 (.ofNat 32)) fun v2 =>
 bi .and x1 (.i .u64 (.ofNat 4294967295)) fun v3 =>
 bsh .shr x1 (.i .u64 (.ofNat 32)) fun v4 =>
 bi .mul v1 v3 fun v5 =>
 bi .mul v2 v3 fun v6 =>
 bsh .shr v5 (.i .u64 (.ofNat 32)) fun v7 =>
 bi .add v6 v7 fun v8 =>
 bi .and v8 (.i .u64 (.ofNat 4294967295)) fun v9 =>
 bsh .shr v8 (.i .u64 (.ofNat 32)) fun v10 =>
 bi .mul v1 v4 fun v11 =>
 bi .add v9 v11 fun v12 =>
 bi .mul v2 v4 fun v13 =>
 bi .add v13 v10 fun v14 =>
 bsh .shr v12 (.i .u64 (.ofNat 32)) fun v15 =>
 bi .add v14 v15 fun v16 =>
 bi .mul x0 x1 fun v17 =>
 rt (.tup [v16, v17]) h
def A84 : Ann := (.s (.r []) (.s (.r []) (.s (.r []) (.s (.r []) (.s (.r []) (.s (.r []) (.s (.r []) (.s (.r []) (.s (.r []) (.s (.r []) (.s (.r []) (.s (.r []) .z))))))))))))
theorem F84_eq (cf : CallF) (lf : Nat) (x0 : V) (x1 : V) (h : Heap) : bodyA prog 0 f84 (f84.body.getD .skip) A84 cf lf [x0, x1] h = F84 cf lf x0 x1 h := by kernel_rfl

-- slices.Index[[]string,string]
noncomputable def F85_b1 (cf : CallF) (lf : Nat) : Fv 4 → Fv 4 := fun S2 v3 v4 v5 v6 h7 =>
 bi .lss v6 v5 fun v8 =>
 vb v8 fun q9 => ifB q9 (
 ix 1 v3 v6 fun v10 =>
 ld v10 h7 fun v11 =>
 bs .eql v4 v11 fun v12 =>
 vb v12 fun q13 => ifB q13 (
 rt v6 h7) (
 bi .add v6 (.i .i64 (.ofNat 1)) fun v14 =>
 S2 v3 v4 v5 v14 h7)) (
 rt (.i .i64 (.negSucc 0)) h7)
noncomputable def F85 (cf : CallF) (lf : Nat) : Fv 2 := fun x0 x1 h =>
 lns x0 fun v1 =>
 loop 4 lf (F85_b1 cf lf) x0 x1 v1 (.i .i64 (.ofNat 0)) h
def A85 : Ann := (.s (.r []) (.s (.s (.r []) (.b (.l [0, 1, 7, 8] (.s (.r []) (.s (.s .z .z) (.s (.b (.s (.r []) (.s (.r []) (.s (.s (.r []) .z) .z)))) (.r []))))))) (.s (.r []) .z)))
theorem F85_eq (cf : CallF) (lf : Nat) (x0 : V) (x1 : V) (h : Heap) : bodyA prog 0 f85 (f85.body.getD .skip) A85 cf lf [x0, x1] h = F85 cf lf x0 x1 h := by kernel_rfl

-- slices.IndexFunc[[]footman/api.Slot,footman/api.Slot]
noncomputable def F86_b1 (cf : CallF) (lf : Nat) : Fv 4 → Fv 4 := fun S2 v3 v4 v5 v6 h7 =>
 bi .lss v6 v5 fun v8 =>
 vb v8 fun q9 => ifB q9 (
 ix 2 v3 v6 fun v10 =>
 ldn 2 v10 h7 fun v11 =>
 cf1 cf v4 [v11] h7 fun v12 h13 =>
 vb v12 fun q14 => ifB q14 (
 rt v6 h13) (
 bi .add v6 (.i .i64 (.ofNat 1)) fun v15 =>
 S2 v3 v4 v5 v15 h13)) (
 rt (.i .i64 (.negSucc 0)) h7)
noncomputable def F86 (cf : CallF) (lf : Nat) : Fv 2 := fun x0 x1 h =>
 lns x0 fun v1 =>
 loop 4 lf (F86_b1 cf lf) x0 x1 v1 (.i .i64 (.ofNat 0)) h
def A86 : Ann := (.s (.r []) (.s (.s (.r []) (.b (.l [0, 1, 7, 8] (.s (.r []) (.s (.s .z .z) (.s (.b (.s (.r []) (.s (.r []) (.s (.s (.r []) .z) .z)))) (.r []))))))) (.s (.r []) .z)))
theorem F86_eq (cf : CallF) (lf : Nat) (x0 : V) (x1 : V) (h : Heap) : bodyA prog 0 f86 (f86.body.getD .skip) A86 cf lf [x0, x1] h = F86 cf lf x0 x1 h := by kernel_rfl

-- footman/manifest.Key$1
noncomputable def F87 (cf : CallF) (lf : Nat) : Fv 2 := fun x0 x1 h =>
 al (V.cells x0) h fun v1 h2 =>
 fa 0 v1 fun v3 =>
 ld v3 h2 fun v4 =>
 ld x1 h2 fun v5 =>
 bs .eql v4 v5 fun v6 =>
 rt v6 h2
def A87 : Ann := (.s (.r []) (.s (.r []) .z))
theorem F87_eq (cf : CallF) (lf : Nat) (x0 : V) (x1 : V) (h : Heap) : bodyA prog 0 f87 (f87.body.getD .skip) A87 cf lf [x0, x1] h = F87 cf lf x0 x1 h := by kernel_rfl

-- (*footman/footmanref10.parser).level
noncomputable def F88_j1 (cf : CallF) (lf : Nat) (S23 : Fv 6) : Fv 6 := fun v39 v40 v41 v42 v43 v44 h45 =>
 ix 1 v41 v40 fun v46 =>
 ld v46 h45 fun v47 =>
 ix 1 v47 v44 fun v48 =>
 ld v48 h45 fun v49 =>
 cl (cf 36 [v39, v49] h45) fun v50 h51 =>
 vb v50 fun q52 => ifB q52 (
 ix 1 v41 v40 fun v53 =>
 ld v53 h51 fun v54 =>
 ix 1 v54 v44 fun v55 =>
 ld v55 h51 fun v56 =>
 bi .add v44 (.i .i64 (.ofNat 1)) fun v57 =>
 S23 v39 v40 v41 v42 v56 v57 h51) (
 bi .add v44 (.i .i64 (.ofNat 1)) fun v58 =>
 S23 v39 v40 v41 v42 v43 v58 h51)
noncomputable def F88_b2 (cf : CallF) (lf : Nat) (J22 : Fv 5) : Fv 6 → Fv 6 := fun S23 v24 v25 v26 v27 v28 v29 h30 =>
 jn 6 (fun J31 =>
 ix 1 v26 v25 fun v32 =>
 ld v32 h30 fun v33 =>
 lns v33 fun v34 =>
 bi .lss v29 v34 fun v35 =>
 vb v35 fun q36 => ifB q36 (
 bs .eql v28 (.s ⟨0, 0⟩) fun v37 =>
 vb v37 fun q38 => ifB q38 (
 J31 v24 v25 v26 v27 v28 v29 h30) (
 J22 v24 v25 v26 v27 v28 h30)) (
 J22 v24 v25 v26 v27 v28 h30)) (F88_j1 cf lf S23)
noncomputable def F88_j3 (cf : CallF) (lf : Nat) (S11 : Fv 4) : Fv 5 := fun v59 v60 v61 v62 v63 h64 =>
 bs .eql v63 (.s ⟨0, 0⟩) fun v65 =>
 vb v65 fun q66 => ifB q66 (
 rt v62 h64) (
 bi .add v60 (.i .i64 (.ofNat 1)) fun v67 =>
 cl (cf 88 [v59, v67] h64) fun v68 h69 =>
 nc v59 fun v70 =>
 fa 4 v70 fun v71 =>
 ld v71 h69 fun v72 =>
 vb v72 fun q73 => ifB q73 (
 rt (.i .i64 (.ofNat 0)) h69) (
 o2 (buildSliceV prog 38 2 [(0, v62), (1, v68)] h69) fun v74 h75 =>
 nc v59 fun v76 =>
 fa 2 v76 fun v77 =>
 ld v77 h75 fun v78 =>
 ix 7 v78 v62 fun v79 =>
 fa 6 v79 fun v80 =>
 ld v80 h75 fun v81 =>
 o1 (buildV prog 66 [(0, (.i .i64 (.ofNat 5))), (1, v63), (5, v74), (6, v81)]) fun v82 =>
 cl (cf 23 [v59, v82] h75) fun v83 h84 =>
 S11 v59 v60 v61 v83 h84))
noncomputable def F88_b4 (cf : CallF) (lf : Nat) : Fv 4 → Fv 4 := fun S11 v12 v13 v14 v15 h16 =>
 nc v12 fun v17 =>
 fa 4 v17 fun v18 =>
 ld v18 h16 fun v19 =>
 o1 (unV .not v19) fun v20 =>
 vb v20 fun q21 => ifB q21 (
 jn 5 (fun J22 =>
 loop 6 lf (F88_b2 cf lf J22) v12 v13 v14 v15 (.s ⟨0, 0⟩) (.i .i64 (.ofNat 0)) h16) (F88_j3 cf lf S11)) (
 rt (.i .i64 (.ofNat 0)) h16)
noncomputable def F88 (cf : CallF) (lf : Nat) : Fv 2 := fun x0 x1 h =>
 cl (cf 89 [] h) fun v1 h2 =>
 lns v1 fun v3 =>
 bi .eql x1 v3 fun v4 =>
 vb v4 fun q5 => ifB q5 (
 cl (cf 90 [x0] h2) fun v6 h7 =>
 rt v6 h7) (
 bi .add x1 (.i .i64 (.ofNat 1)) fun v8 =>
 cl (cf 88 [x0, v8] h2) fun v9 h10 =>
 loop 4 lf (F88_b4 cf lf) x0 x1 v1 v9 h10)
def A88 : Ann := (.s (.r []) (.s (.r []) (.s (.s (.r []) (.s (.s (.r []) .z) .z)) (.s (.r []) (.s (.b (.l [0, 1, 5, 6] (.s (.s (.r []) (.s .z .z)) (.b (.s (.r []) (.j [0, 1, 5, 6, 7] (.s (.r []) (.b (.l [0, 1, 5, 6, 7, 8] (.j [0, 1, 5, 6, 7, 8] (.s (.r [8]) (.s .z .z)) (.s (.b (.s (.r []) (.s (.r []) .z))) (.r [])))))) (.s (.s (.r []) (.s (.s (.r []) .z) .z)) (.s (.r []) (.s (.s (.r []) (.s (.s (.r []) .z) .z)) (.r [])))))))))) (.s (.r []) .z))))))
theorem F88_eq (cf : CallF) (lf : Nat) (x0 : V) (x1 : V) (h : Heap) : bodyA prog 0 f88 (f88.body.getD .skip) A88 cf lf [x0, x1] h = F88 cf lf x0 x1 h := by kernel_rfl

-- footman/footmanref10.levels
noncomputable def F89 (cf : CallF) (lf : Nat) : Fv 0 := fun h =>
 o2 (buildSliceV prog 23 1 [(0, (.s ⟨1, 124⟩))] h) fun v1 h2 =>
 o2 (buildSliceV prog 23 1 [(0, (.s ⟨1, 94⟩))] h2) fun v3 h4 =>
 o2 (buildSliceV prog 23 1 [(0, (.s ⟨1, 38⟩))] h4) fun v5 h6 =>
 o2 (buildSliceV prog 23 2 [(0, (.s ⟨2, 15677⟩)), (1, (.s ⟨2, 15649⟩))] h6) fun v7 h8 =>
 o2 (buildSliceV prog 23 4 [(0, (.s ⟨1, 60⟩)), (1, (.s ⟨2, 15676⟩)), (2, (.s ⟨1, 62⟩)), (3, (.s ⟨2, 15678⟩))] h8) fun v9 h10 =>
 o2 (buildSliceV prog 23 2 [(0, (.s ⟨2, 15420⟩)), (1, (.s ⟨2, 15934⟩))] h10) fun v11 h12 =>
 o2 (buildSliceV prog 23 2 [(0, (.s ⟨1, 43⟩)), (1, (.s ⟨1, 45⟩))] h12) fun v13 h14 =>
 o2 (buildSliceV prog 23 3 [(0, (.s ⟨1, 42⟩)), (1, (.s ⟨1, 47⟩)), (2, (.s ⟨1, 37⟩))] h14) fun v15 h16 =>
 o2 (buildSliceV prog 127 8 [(0, v1), (1, v3), (2, v5), (3, v7), (4, v9), (5, v11), (6, v13), (7, v15)] h16) fun v17 h18 =>
 rt v17 h18
def A89 : Ann := (.s (.r []) (.s (.r []) .z))
theorem F89_eq (cf : CallF) (lf : Nat) (h : Heap) : bodyA prog 0 f89 (f89.body.getD .skip) A89 cf lf [] h = F89 cf lf h := by kernel_rfl

-- (*footman/footmanref10.parser).u
noncomputable def F90_j1 (cf : CallF) (lf : Nat) : Fv 3 := fun v16 v17 v18 h19 =>
 vb v18 fun q20 => ifB q20 (
 cl (cf 63 [v16] h19) fun v21 h22 =>
 nc v16 fun v23 =>
 fa 4 v23 fun v24 =>
 ld v24 h22 fun v25 =>
 vb v25 fun q26 => ifB q26 (
 rt (.i .i64 (.ofNat 0)) h22) (
 nc v16 fun v27 =>
 fa 1 v27 fun v28 =>
 ld v28 h22 fun v29 =>
 bi .add v29 (.i .i64 (.ofNat 1)) fun v30 =>
 nc v16 fun v31 =>
 fa 1 v31 fun v32 =>
 st 1 v32 v30 h22 fun h33 =>
 cl (cf 90 [v16] h33) fun v34 h35 =>
 nc v16 fun v36 =>
 fa 3 v36 fun v37 =>
 ld v37 h35 fun v38 =>
 bi .sub v38 (.i .i64 (.ofNat 1)) fun v39 =>
 nc v16 fun v40 =>
 fa 3 v40 fun v41 =>
 st 1 v41 v39 h35 fun h42 =>
 fa 1 v17 fun v43 =>
 ld v43 h42 fun v44 =>
 o2 (buildSliceV prog 38 1 [(0, v34)] h42) fun v45 h46 =>
 fa 3 v17 fun v47 =>
 ld v47 h46 fun v48 =>
 o1 (buildV prog 66 [(0, (.i .i64 (.ofNat 4))), (1, v44), (5, v45), (6, v48)]) fun v49 =>
 cl (cf 23 [v16, v49] h46) fun v50 h51 =>
 rt v50 h51)) (
 cl (cf 91 [v16] h19) fun v52 h53 =>
 rt v52 h53)
noncomputable def F90 (cf : CallF) (lf : Nat) : Fv 1 := fun x0 h =>
 nc x0 fun v1 =>
 fa 4 v1 fun v2 =>
 ld v2 h fun v3 =>
 vb v3 fun q4 => ifB q4 (
 rt (.i .i64 (.ofNat 0)) h) (
 cl (cf 21 [x0] h) fun v5 h6 =>
 al (zl prog 61) h6 fun v7 h8 =>
 st 4 v7 v5 h8 fun h9 =>
 jn 3 (fun J10 =>
 cl (cf 62 [x0, (.s ⟨1, 126⟩)] h9) fun v11 h12 =>
 vb v11 fun q13 => ifB q13 (
 J10 x0 v7 (.b true) h12) (
 cl (cf 62 [x0, (.s ⟨1, 45⟩)] h12) fun v14 h15 =>
 J10 x0 v7 v14 h15)) (F90_j1 cf lf))
def A90 : Ann := (.s (.r []) (.s (.s (.r []) (.s (.s (.r []) .z) .z)) (.s (.r []) (.s (.j [0, 3, 16] (.r [3]) (.s (.s (.r []) (.s (.s (.r []) (.s (.s (.r []) .z) .z)) (.s (.r []) (.s (.r []) (.s (.r []) (.s (.r []) .z)))))) .z)) (.s (.r []) .z)))))
theorem F90_eq (cf : CallF) (lf : Nat) (x0 : V) (h : Heap) : bodyA prog 0 f90 (f90.body.getD .skip) A90 cf lf [x0] h = F90 cf lf x0 h := by kernel_rfl

-- (*footman/footmanref10.parser).first
noncomputable def F91_j1 (cf : CallF) (lf : Nat) (S71 : Fv 4) : Fv 4 := fun v109 v110 v111 v112 h113 =>
 nc v109 fun v114 =>
 fa 4 v114 fun v115 =>
 ld v115 h113 fun v116 =>
 o1 (unV .not v116) fun v117 =>
 vb v117 fun q118 => ifB q118 (
 cl (cf 79 [v109] h113) fun v119 h120 =>
 o2 (buildSliceV prog 38 1 [(0, v119)] h120) fun v121 h122 =>
 o2 (appendV prog 38 38 v111 v121 h122) fun v123 h124 =>
 bi .add v112 (.i .i64 (.ofNat 1)) fun v125 =>
 S71 v109 v110 v123 v125 h124) (
 bi .add v112 (.i .i64 (.ofNat 1)) fun v126 =>
 S71 v109 v110 v111 v126 h113)
noncomputable def F91_j2 (cf : CallF) (lf : Nat) (S71 : Fv 4) : Fv 4 := fun v99 v100 v101 v102 h103 =>
 jn 4 (fun J104 =>
 bi .gtr v102 (.i .i64 (.ofNat 0)) fun v105 =>
 vb v105 fun q106 => ifB q106 (
 cl (cf 33 [v99, (.s ⟨1, 44⟩)] h103) fun v107 h108 =>
 J104 v99 v100 v101 v102 h108) (
 J104 v99 v100 v101 v102 h103)) (F91_j1 cf lf S71)
noncomputable def F91_b3 (cf : CallF) (lf : Nat) : Fv 4 → Fv 4 := fun S71 v72 v73 v74 v75 h76 =>
 jn 4 (fun J77 =>
 bi .lss v75 (.i .i64 (.ofNat 3)) fun v78 =>
 vb v78 fun q79 => ifB q79 (
 nc v72 fun v80 =>
 fa 4 v80 fun v81 =>
 ld v81 h76 fun v82 =>
 o1 (unV .not v82) fun v83 =>
 vb v83 fun q84 => ifB q84 (
 J77 v72 v73 v74 v75 h76) (
 cl (cf 33 [v72, (.s ⟨1, 41⟩)] h76) fun v85 h86 =>
 fa 3 v73 fun v87 =>
 ld v87 h86 fun v88 =>
 o1 (buildV prog 66 [(0, (.i .i64 (.ofNat 6))), (5, v74), (6, v88)]) fun v89 =>
 cl (cf 23 [v72, v89] h86) fun v90 h91 =>
 rt v90 h91)) (
 cl (cf 33 [v72, (.s ⟨1, 41⟩)] h76) fun v92 h93 =>
 fa 3 v73 fun v94 =>
 ld v94 h93 fun v95 =>
 o1 (buildV prog 66 [(0, (.i .i64 (.ofNat 6))), (5, v74), (6, v95)]) fun v96 =>
 cl (cf 23 [v72, v96] h93) fun v97 h98 =>
 rt v97 h98)) (F91_j2 cf lf S71)
noncomputable def F91 (cf : CallF) (lf : Nat) : Fv 1 := fun x0 h =>
 cl (cf 21 [x0] h) fun v1 h2 =>
 al (zl prog 61) h2 fun v3 h4 =>
 st 4 v3 v1 h4 fun h5 =>
 fa 0 v3 fun v6 =>
 ld v6 h5 fun v7 =>
 bi .eql v7 (.i .i64 (.ofNat 1)) fun v8 =>
 vb v8 fun q9 => ifB q9 (
 nc x0 fun v10 =>
 fa 1 v10 fun v11 =>
 ld v11 h5 fun v12 =>
 bi .add v12 (.i .i64 (.ofNat 1)) fun v13 =>
 nc x0 fun v14 =>
 fa 1 v14 fun v15 =>
 st 1 v15 v13 h5 fun h16 =>
 fa 2 v3 fun v17 =>
 ld v17 h16 fun v18 =>
 fa 3 v3 fun v19 =>
 ld v19 h16 fun v20 =>
 o1 (buildV prog 66 [(0, (.i .i64 (.ofNat 1))), (3, v18), (6, v20)]) fun v21 =>
 cl (cf 23 [x0, v21] h16) fun v22 h23 =>
 rt v22 h23) (
 fa 0 v3 fun v24 =>
 ld v24 h5 fun v25 =>
 bi .eql v25 (.i .i64 (.ofNat 2)) fun v26 =>
 vb v26 fun q27 => ifB q27 (
 nc x0 fun v28 =>
 fa 1 v28 fun v29 =>
 ld v29 h5 fun v30 =>
 bi .add v30 (.i .i64 (.ofNat 1)) fun v31 =>
 nc x0 fun v32 =>
 fa 1 v32 fun v33 =>
 st 1 v33 v31 h5 fun h34 =>
 cl (cf 36 [x0, (.s ⟨1, 91⟩)] h34) fun v35 h36 =>
 o1 (unV .not v35) fun v37 =>
 vb v37 fun q38 => ifB q38 (
 fa 1 v3 fun v39 =>
 ld v39 h36 fun v40 =>
 fa 3 v3 fun v41 =>
 ld v41 h36 fun v42 =>
 o1 (buildV prog 66 [(0, (.i .i64 (.ofNat 2))), (1, v40), (6, v42)]) fun v43 =>
 cl (cf 23 [x0, v43] h36) fun v44 h45 =>
 rt v44 h45) (
 cl (cf 79 [x0] h36) fun v46 h47 =>
 cl (cf 33 [x0, (.s ⟨1, 93⟩)] h47) fun v48 h49 =>
 fa 1 v3 fun v50 =>
 ld v50 h49 fun v51 =>
 o2 (buildSliceV prog 38 1 [(0, v46)] h49) fun v52 h53 =>
 fa 3 v3 fun v54 =>
 ld v54 h53 fun v55 =>
 o1 (buildV prog 66 [(0, (.i .i64 (.ofNat 3))), (1, v51), (5, v52), (6, v55)]) fun v56 =>
 cl (cf 23 [x0, v56] h53) fun v57 h58 =>
 rt v57 h58)) (
 cl (cf 36 [x0, (.s ⟨1, 40⟩)] h5) fun v59 h60 =>
 vb v59 fun q61 => ifB q61 (
 cl (cf 79 [x0] h60) fun v62 h63 =>
 cl (cf 33 [x0, (.s ⟨1, 41⟩)] h63) fun v64 h65 =>
 rt v62 h65) (
 cl (cf 36 [x0, (.s ⟨3, 7103859⟩)] h60) fun v66 h67 =>
 vb v66 fun q68 => ifB q68 (
 cl (cf 33 [x0, (.s ⟨1, 40⟩)] h67) fun v69 h70 =>
 loop 4 lf (F91_b3 cf lf) x0 v3 (.sl none 0 0 true) (.i .i64 (.ofNat 0)) h70) (
 nc x0 fun v127 =>
 fa 4 v127 fun v128 =>
 st 1 v128 (.b true) h67 fun h129 =>
 rt (.i .i64 (.ofNat 0)) h129))))
def A91 : Ann := (.s (.r []) (.s (.r []) (.s (.b (.s (.r []) (.s (.s (.r []) (.s (.r []) .z)) (.s (.r []) (.s (.s (.r []) (.s (.s (.r []) (.s (.s (.r []) .z) .z)) (.s (.r []) (.s (.r []) (.s (.r []) .z))))) (.s (.r []) (.s (.s (.r []) (.s (.r []) (.s (.r []) .z))) (.s (.r []) (.s (.s (.r []) (.s (.r []) (.s (.s (.r []) (.b (.l [0, 3, 6, 7] (.j [0, 3, 6, 7] (.s (.r [3]) (.s .z .z)) (.s (.b (.j [0, 3, 6, 7] (.s (.r []) (.s (.r []) .z)) (.s (.r []) (.s (.r []) .z)))) (.r [])))))) (.s (.r []) (.s (.r []) .z))))) .z))))))))) (.s (.r []) (.s (.r []) .z)))))
theorem F91_eq (cf : CallF) (lf : Nat) (x0 : V) (h : Heap) : bodyA prog 0 f91 (f91.body.getD .skip) A91 cf lf [x0] h = F91 cf lf x0 h := by kernel_rfl

theorem b6 : BodyOk prog 0 6 (wrapF 1 F6) := BodyOk.mk (n := 1) (an := A6) func6 (c := f6.body.getD .skip) (by kernel_rfl) (by kernel_rfl) fun cf lf x0 h => F6_eq cf lf x0 h
theorem b10 : BodyOk prog 0 10 (wrapF 1 F10) := BodyOk.mk (n := 1) (an := A10) func10 (c := f10.body.getD .skip) (by kernel_rfl) (by kernel_rfl) fun cf lf x0 h => F10_eq cf lf x0 h
theorem b13 : BodyOk prog 0 13 (wrapF 1 F13) := BodyOk.mk (n := 1) (an := A13) func13 (c := f13.body.getD .skip) (by kernel_rfl) (by kernel_rfl) fun cf lf x0 h => F13_eq cf lf x0 h
theorem b14 : BodyOk prog 0 14 (wrapF 0 F14) := BodyOk.mk (n := 0) (an := A14) func14 (c := f14.body.getD .skip) (by kernel_rfl) (by kernel_rfl) fun cf lf h => F14_eq cf lf h
theorem b15 : BodyOk prog 0 15 (wrapF 2 F15) := BodyOk.mk (n := 2) (an := A15) func15 (c := f15.body.getD .skip) (by kernel_rfl) (by kernel_rfl) fun cf lf x0 x1 h => F15_eq cf lf x0 x1 h
theorem b16 : BodyOk prog 0 16 (wrapF 1 F16) := BodyOk.mk (n := 1) (an := A16) func16 (c := f16.body.getD .skip) (by kernel_rfl) (by kernel_rfl) fun cf lf x0 h => F16_eq cf lf x0 h
theorem b20 : BodyOk prog 0 20 (wrapF 1 F20) := BodyOk.mk (n := 1) (an := A20) func20 (c := f20.body.getD .skip) (by kernel_rfl) (by kernel_rfl) fun cf lf x0 h => F20_eq cf lf x0 h
theorem b21 : BodyOk prog 0 21 (wrapF 1 F21) := BodyOk.mk (n := 1) (an := A21) func21 (c := f21.body.getD .skip) (by kernel_rfl) (by kernel_rfl) fun cf lf x0 h => F21_eq cf lf x0 h
theorem b22 : BodyOk prog 0 22 (wrapF 1 F22) := BodyOk.mk (n := 1) (an := A22) func22 (c := f22.body.getD .skip) (by kernel_rfl) (by kernel_rfl) fun cf lf x0 h => F22_eq cf lf x0 h
theorem b23 : BodyOk prog 0 23 (wrapF 2 F23) := BodyOk.mk (n := 2) (an := A23) func23 (c := f23.body.getD .skip) (by kernel_rfl) (by kernel_rfl) fun cf lf x0 x1 h => F23_eq cf lf x0 x1 h
theorem b26 : BodyOk prog 0 26 (wrapF 1 F26) := BodyOk.mk (n := 1) (an := A26) func26 (c := f26.body.getD .skip) (by kernel_rfl) (by kernel_rfl) fun cf lf x0 h => F26_eq cf lf x0 h
theorem b27 : BodyOk prog 0 27 (wrapF 2 F27) := BodyOk.mk (n := 2) (an := A27) func27 (c := f27.body.getD .skip) (by kernel_rfl) (by kernel_rfl) fun cf lf x0 x1 h => F27_eq cf lf x0 x1 h
theorem b28 : BodyOk prog 0 28 (wrapF 2 F28) := BodyOk.mk (n := 2) (an := A28) func28 (c := f28.body.getD .skip) (by kernel_rfl) (by kernel_rfl) fun cf lf x0 x1 h => F28_eq cf lf x0 x1 h
theorem b29 : BodyOk prog 0 29 (wrapF 1 F29) := BodyOk.mk (n := 1) (an := A29) func29 (c := f29.body.getD .skip) (by kernel_rfl) (by kernel_rfl) fun cf lf x0 h => F29_eq cf lf x0 h
theorem b32 : BodyOk prog 0 32 (wrapF 2 F32) := BodyOk.mk (n := 2) (an := A32) func32 (c := f32.body.getD .skip) (by kernel_rfl) (by kernel_rfl) fun cf lf x0 x1 h => F32_eq cf lf x0 x1 h
theorem b33 : BodyOk prog 0 33 (wrapF 2 F33) := BodyOk.mk (n := 2) (an := A33) func33 (c := f33.body.getD .skip) (by kernel_rfl) (by kernel_rfl) fun cf lf x0 x1 h => F33_eq cf lf x0 x1 h
theorem b34 : BodyOk prog 0 34 (wrapF 2 F34) := BodyOk.mk (n := 2) (an := A34) func34 (c := f34.body.getD .skip) (by kernel_rfl) (by kernel_rfl) fun cf lf x0 x1 h => F34_eq cf lf x0 x1 h
theorem b35 : BodyOk prog 0 35 (wrapF 2 F35) := BodyOk.mk (n := 2) (an := A35) func35 (c := f35.body.getD .skip) (by kernel_rfl) (by kernel_rfl) fun cf lf x0 x1 h => F35_eq cf lf x0 x1 h
theorem b36 : BodyOk prog 0 36 (wrapF 2 F36) := BodyOk.mk (n := 2) (an := A36) func36 (c := f36.body.getD .skip) (by kernel_rfl) (by kernel_rfl) fun cf lf x0 x1 h => F36_eq cf lf x0 x1 h
theorem b37 : BodyOk prog 0 37 (wrapF 1 F37) := BodyOk.mk (n := 1) (an := A37) func37 (c := f37.body.getD .skip) (by kernel_rfl) (by kernel_rfl) fun cf lf x0 h => F37_eq cf lf x0 h
theorem b43 : BodyOk prog 0 43 (wrapF 2 F43) := BodyOk.mk (n := 2) (an := A43) func43 (c := f43.body.getD .skip) (by kernel_rfl) (by kernel_rfl) fun cf lf x0 x1 h => F43_eq cf lf x0 x1 h
theorem b45 : BodyOk prog 0 45 (wrapF 2 F45) := BodyOk.mk (n := 2) (an := A45) func45 (c := f45.body.getD .skip) (by kernel_rfl) (by kernel_rfl) fun cf lf x0 x1 h => F45_eq cf lf x0 x1 h
theorem b46 : BodyOk prog 0 46 (wrapF 2 F46) := BodyOk.mk (n := 2) (an := A46) func46 (c := f46.body.getD .skip) (by kernel_rfl) (by kernel_rfl) fun cf lf x0 x1 h => F46_eq cf lf x0 x1 h
theorem b47 : BodyOk prog 0 47 (wrapF 2 F47) := BodyOk.mk (n := 2) (an := A47) func47 (c := f47.body.getD .skip) (by kernel_rfl) (by kernel_rfl) fun cf lf x0 x1 h => F47_eq cf lf x0 x1 h
theorem b48 : BodyOk prog 0 48 (wrapF 2 F48) := BodyOk.mk (n := 2) (an := A48) func48 (c := f48.body.getD .skip) (by kernel_rfl) (by kernel_rfl) fun cf lf x0 x1 h => F48_eq cf lf x0 x1 h
theorem b49 : BodyOk prog 0 49 (wrapF 4 F49) := BodyOk.mk (n := 4) (an := A49) func49 (c := f49.body.getD .skip) (by kernel_rfl) (by kernel_rfl) fun cf lf x0 x1 x2 x3 h => F49_eq cf lf x0 x1 x2 x3 h
theorem b50 : BodyOk prog 0 50 (wrapF 4 F50) := BodyOk.mk (n := 4) (an := A50) func50 (c := f50.body.getD .skip) (by kernel_rfl) (by kernel_rfl) fun cf lf x0 x1 x2 x3 h => F50_eq cf lf x0 x1 x2 x3 h
theorem b51 : BodyOk prog 0 51 (wrapF 3 F51) := BodyOk.mk (n := 3) (an := A51) func51 (c := f51.body.getD .skip) (by kernel_rfl) (by kernel_rfl) fun cf lf x0 x1 x2 h => F51_eq cf lf x0 x1 x2 h
theorem b52 : BodyOk prog 0 52 (wrapF 2 F52) := BodyOk.mk (n := 2) (an := A52) func52 (c := f52.body.getD .skip) (by kernel_rfl) (by kernel_rfl) fun cf lf x0 x1 h => F52_eq cf lf x0 x1 h
theorem b53 : BodyOk prog 0 53 (wrapF 2 F53) := BodyOk.mk (n := 2) (an := A53) func53 (c := f53.body.getD .skip) (by kernel_rfl) (by kernel_rfl) fun cf lf x0 x1 h => F53_eq cf lf x0 x1 h
theorem b54 : BodyOk prog 0 54 (wrapF 2 F54) := BodyOk.mk (n := 2) (an := A54) func54 (c := f54.body.getD .skip) (by kernel_rfl) (by kernel_rfl) fun cf lf x0 x1 h => F54_eq cf lf x0 x1 h
theorem b55 : BodyOk prog 0 55 (wrapF 2 F55) := BodyOk.mk (n := 2) (an := A55) func55 (c := f55.body.getD .skip) (by kernel_rfl) (by kernel_rfl) fun cf lf x0 x1 h => F55_eq cf lf x0 x1 h
theorem b56 : BodyOk prog 0 56 (wrapF 2 F56) := BodyOk.mk (n := 2) (an := A56) func56 (c := f56.body.getD .skip) (by kernel_rfl) (by kernel_rfl) fun cf lf x0 x1 h => F56_eq cf lf x0 x1 h
theorem b57 : BodyOk prog 0 57 (wrapF 1 F57) := BodyOk.mk (n := 1) (an := A57) func57 (c := f57.body.getD .skip) (by kernel_rfl) (by kernel_rfl) fun cf lf x0 h => F57_eq cf lf x0 h
theorem b58 : BodyOk prog 0 58 (wrapF 2 F58) := BodyOk.mk (n := 2) (an := A58) func58 (c := f58.body.getD .skip) (by kernel_rfl) (by kernel_rfl) fun cf lf x0 x1 h => F58_eq cf lf x0 x1 h
theorem b59 : BodyOk prog 0 59 (wrapF 1 F59) := BodyOk.mk (n := 1) (an := A59) func59 (c := f59.body.getD .skip) (by kernel_rfl) (by kernel_rfl) fun cf lf x0 h => F59_eq cf lf x0 h
theorem b60 : BodyOk prog 0 60 (wrapF 1 F60) := BodyOk.mk (n := 1) (an := A60) func60 (c := f60.body.getD .skip) (by kernel_rfl) (by kernel_rfl) fun cf lf x0 h => F60_eq cf lf x0 h
theorem b61 : BodyOk prog 0 61 (wrapF 0 F61) := BodyOk.mk (n := 0) (an := A61) func61 (c := f61.body.getD .skip) (by kernel_rfl) (by kernel_rfl) fun cf lf h => F61_eq cf lf h
theorem b62 : BodyOk prog 0 62 (wrapF 2 F62) := BodyOk.mk (n := 2) (an := A62) func62 (c := f62.body.getD .skip) (by kernel_rfl) (by kernel_rfl) fun cf lf x0 x1 h => F62_eq cf lf x0 x1 h
theorem b63 : BodyOk prog 0 63 (wrapF 1 F63) := BodyOk.mk (n := 1) (an := A63) func63 (c := f63.body.getD .skip) (by kernel_rfl) (by kernel_rfl) fun cf lf x0 h => F63_eq cf lf x0 h
theorem b64 : BodyOk prog 0 64 (wrapF 1 F64) := BodyOk.mk (n := 1) (an := A64) func64 (c := f64.body.getD .skip) (by kernel_rfl) (by kernel_rfl) fun cf lf x0 h => F64_eq cf lf x0 h
theorem b66 : BodyOk prog 0 66 (wrapF 2 F66) := BodyOk.mk (n := 2) (an := A66) func66 (c := f66.body.getD .skip) (by kernel_rfl) (by kernel_rfl) fun cf lf x0 x1 h => F66_eq cf lf x0 x1 h
theorem b67 : BodyOk prog 0 67 (wrapF 2 F67) := BodyOk.mk (n := 2) (an := A67) func67 (c := f67.body.getD .skip) (by kernel_rfl) (by kernel_rfl) fun cf lf x0 x1 h => F67_eq cf lf x0 x1 h
theorem b68 : BodyOk prog 0 68 (wrapF 2 F68) := BodyOk.mk (n := 2) (an := A68) func68 (c := f68.body.getD .skip) (by kernel_rfl) (by kernel_rfl) fun cf lf x0 x1 h => F68_eq cf lf x0 x1 h
theorem b69 : BodyOk prog 0 69 (wrapF 2 F69) := BodyOk.mk (n := 2) (an := A69) func69 (c := f69.body.getD .skip) (by kernel_rfl) (by kernel_rfl) fun cf lf x0 x1 h => F69_eq cf lf x0 x1 h
theorem b70 : BodyOk prog 0 70 (wrapF 2 F70) := BodyOk.mk (n := 2) (an := A70) func70 (c := f70.body.getD .skip) (by kernel_rfl) (by kernel_rfl) fun cf lf x0 x1 h => F70_eq cf lf x0 x1 h
theorem b71 : BodyOk prog 0 71 (wrapF 2 F71) := BodyOk.mk (n := 2) (an := A71) func71 (c := f71.body.getD .skip) (by kernel_rfl) (by kernel_rfl) fun cf lf x0 x1 h => F71_eq cf lf x0 x1 h
theorem b72 : BodyOk prog 0 72 (wrapF 2 F72) := BodyOk.mk (n := 2) (an := A72) func72 (c := f72.body.getD .skip) (by kernel_rfl) (by kernel_rfl) fun cf lf x0 x1 h => F72_eq cf lf x0 x1 h
theorem b73 : BodyOk prog 0 73 (wrapF 3 F73) := BodyOk.mk (n := 3) (an := A73) func73 (c := f73.body.getD .skip) (by kernel_rfl) (by kernel_rfl) fun cf lf x0 x1 x2 h => F73_eq cf lf x0 x1 x2 h
theorem b74 : BodyOk prog 0 74 (wrapF 3 F74) := BodyOk.mk (n := 3) (an := A74) func74 (c := f74.body.getD .skip) (by kernel_rfl) (by kernel_rfl) fun cf lf x0 x1 x2 h => F74_eq cf lf x0 x1 x2 h
theorem b75 : BodyOk prog 0 75 (wrapF 2 F75) := BodyOk.mk (n := 2) (an := A75) func75 (c := f75.body.getD .skip) (by kernel_rfl) (by kernel_rfl) fun cf lf x0 x1 h => F75_eq cf lf x0 x1 h
theorem b76 : BodyOk prog 0 76 (wrapF 1 F76) := BodyOk.mk (n := 1) (an := A76) func76 (c := f76.body.getD .skip) (by kernel_rfl) (by kernel_rfl) fun cf lf x0 h => F76_eq cf lf x0 h
theorem b77 : BodyOk prog 0 77 (wrapF 0 F77) := BodyOk.mk (n := 0) (an := A77) func77 (c := f77.body.getD .skip) (by kernel_rfl) (by kernel_rfl) fun cf lf h => F77_eq cf lf h
theorem b78 : BodyOk prog 0 78 (wrapF 1 F78) := BodyOk.mk (n := 1) (an := A78) func78 (c := f78.body.getD .skip) (by kernel_rfl) (by kernel_rfl) fun cf lf x0 h => F78_eq cf lf x0 h
theorem b79 : BodyOk prog 0 79 (wrapF 1 F79) := BodyOk.mk (n := 1) (an := A79) func79 (c := f79.body.getD .skip) (by kernel_rfl) (by kernel_rfl) fun cf lf x0 h => F79_eq cf lf x0 h
theorem b80 : BodyOk prog 0 80 (wrapF 1 F80) := BodyOk.mk (n := 1) (an := A80) func80 (c := f80.body.getD .skip) (by kernel_rfl) (by kernel_rfl) fun cf lf x0 h => F80_eq cf lf x0 h
theorem b81 : BodyOk prog 0 81 (wrapF 2 F81) := BodyOk.mk (n := 2) (an := A81) func81 (c := f81.body.getD .skip) (by kernel_rfl) (by kernel_rfl) fun cf lf x0 x1 h => F81_eq cf lf x0 x1 h
theorem b82 : BodyOk prog 0 82 (wrapF 2 F82) := BodyOk.mk (n := 2) (an := A82) func82 (c := f82.body.getD .skip) (by kernel_rfl) (by kernel_rfl) fun cf lf x0 x1 h => F82_eq cf lf x0 x1 h
theorem b83 : BodyOk prog 0 83 (wrapF 2 F83) := BodyOk.mk (n := 2) (an := A83) func83 (c := f83.body.getD .skip) (by kernel_rfl) (by kernel_rfl) fun cf lf x0 x1 h => F83_eq cf lf x0 x1 h
theorem b84 : BodyOk prog 0 84 (wrapF 2 F84) := BodyOk.mk (n := 2) (an := A84) func84 (c := f84.body.getD .skip) (by kernel_rfl) (by kernel_rfl) fun cf lf x0 x1 h => F84_eq cf lf x0 x1 h
theorem b85 : BodyOk prog 0 85 (wrapF 2 F85) := BodyOk.mk (n := 2) (an := A85) func85 (c := f85.body.getD .skip) (by kernel_rfl) (by kernel_rfl) fun cf lf x0 x1 h => F85_eq cf lf x0 x1 h
theorem b86 : BodyOk prog 0 86 (wrapF 2 F86) := BodyOk.mk (n := 2) (an := A86) func86 (c := f86.body.getD .skip) (by kernel_rfl) (by kernel_rfl) fun cf lf x0 x1 h => F86_eq cf lf x0 x1 h
theorem b87 : BodyOk prog 0 87 (wrapF 2 F87) := BodyOk.mk (n := 2) (an := A87) func87 (c := f87.body.getD .skip) (by kernel_rfl) (by kernel_rfl) fun cf lf x0 x1 h => F87_eq cf lf x0 x1 h
theorem b88 : BodyOk prog 0 88 (wrapF 2 F88) := BodyOk.mk (n := 2) (an := A88) func88 (c := f88.body.getD .skip) (by kernel_rfl) (by kernel_rfl) fun cf lf x0 x1 h => F88_eq cf lf x0 x1 h
theorem b89 : BodyOk prog 0 89 (wrapF 0 F89) := BodyOk.mk (n := 0) (an := A89) func89 (c := f89.body.getD .skip) (by kernel_rfl) (by kernel_rfl) fun cf lf h => F89_eq cf lf h
theorem b90 : BodyOk prog 0 90 (wrapF 1 F90) := BodyOk.mk (n := 1) (an := A90) func90 (c := f90.body.getD .skip) (by kernel_rfl) (by kernel_rfl) fun cf lf x0 h => F90_eq cf lf x0 h
theorem b91 : BodyOk prog 0 91 (wrapF 1 F91) := BodyOk.mk (n := 1) (an := A91) func91 (c := f91.body.getD .skip) (by kernel_rfl) (by kernel_rfl) fun cf lf x0 h => F91_eq cf lf x0 h
noncomputable def tabL : List (Nat × Sem1) := [(6, wrapF 1 F6), (10, wrapF 1 F10), (13, wrapF 1 F13), (14, wrapF 0 F14), (15, wrapF 2 F15), (16, wrapF 1 F16), (20, wrapF 1 F20), (21, wrapF 1 F21), (22, wrapF 1 F22), (23, wrapF 2 F23), (26, wrapF 1 F26), (27, wrapF 2 F27), (28, wrapF 2 F28), (29, wrapF 1 F29), (32, wrapF 2 F32), (33, wrapF 2 F33), (34, wrapF 2 F34), (35, wrapF 2 F35), (36, wrapF 2 F36), (37, wrapF 1 F37), (43, wrapF 2 F43), (45, wrapF 2 F45), (46, wrapF 2 F46), (47, wrapF 2 F47), (48, wrapF 2 F48), (49, wrapF 4 F49), (50, wrapF 4 F50), (51, wrapF 3 F51), (52, wrapF 2 F52), (53, wrapF 2 F53), (54, wrapF 2 F54), (55, wrapF 2 F55), (56, wrapF 2 F56), (57, wrapF 1 F57), (58, wrapF 2 F58), (59, wrapF 1 F59), (60, wrapF 1 F60), (61, wrapF 0 F61), (62, wrapF 2 F62), (63, wrapF 1 F63), (64, wrapF 1 F64), (66, wrapF 2 F66), (67, wrapF 2 F67), (68, wrapF 2 F68), (69, wrapF 2 F69), (70, wrapF 2 F70), (71, wrapF 2 F71), (72, wrapF 2 F72), (73, wrapF 3 F73), (74, wrapF 3 F74), (75, wrapF 2 F75), (76, wrapF 1 F76), (77, wrapF 0 F77), (78, wrapF 1 F78), (79, wrapF 1 F79), (80, wrapF 1 F80), (81, wrapF 2 F81), (82, wrapF 2 F82), (83, wrapF 2 F83), (84, wrapF 2 F84), (85, wrapF 2 F85), (86, wrapF 2 F86), (87, wrapF 2 F87), (88, wrapF 2 F88), (89, wrapF 0 F89), (90, wrapF 1 F90), (91, wrapF 1 F91)]
noncomputable def tabT : PT Sem1 := (.n (.n (.n (.n (.n (.n .e (some (wrapF 2 F62)) .e) none (.n .e (some (wrapF 2 F46)) (.n .e (some (wrapF 1 F78)) .e))) (some (wrapF 0 F14)) (.n (.n .e (some (wrapF 2 F54)) (.n .e (some (wrapF 2 F86)) .e)) (some (wrapF 1 F22)) (.n .e none (.n .e (some (wrapF 2 F70)) .e)))) (some (wrapF 1 F6)) (.n (.n (.n .e (some (wrapF 2 F58)) (.n .e (some (wrapF 1 F90)) .e)) (some (wrapF 1 F26)) (.n .e none (.n .e (some (wrapF 3 F74)) .e))) (some (wrapF 1 F10)) (.n (.n .e (some (wrapF 4 F50)) (.n .e (some (wrapF 2 F82)) .e)) none (.n .e (some (wrapF 2 F34)) (.n .e (some (wrapF 2 F66)) .e))))) none (.n (.n (.n (.n .e (some (wrapF 1 F60)) .e) (some (wrapF 2 F28)) (.n .e none (.n .e (some (wrapF 1 F76)) .e))) none (.n (.n .e (some (wrapF 2 F52)) (.n .e (some (wrapF 2 F84)) .e)) (some (wrapF 1 F20)) (.n .e (some (wrapF 2 F36)) (.n .e (some (wrapF 2 F68)) .e)))) none (.n (.n (.n .e (some (wrapF 2 F56)) (.n .e (some (wrapF 2 F88)) .e)) none (.n .e none (.n .e (some (wrapF 2 F72)) .e))) none (.n (.n .e (some (wrapF 2 F48)) (.n .e (some (wrapF 1 F80)) .e)) (some (wrapF 1 F16)) (.n .e (some (wrapF 2 F32)) (.n .e (some (wrapF 1 F64)) .e)))))) none (.n (.n (.n (.n (.n .e (some (wrapF 0 F61)) .e) (some (wrapF 1 F29)) (.n .e (some (wrapF 2 F45)) (.n .e (some (wrapF 0 F77)) .e))) (some (wrapF 1 F13)) (.n (.n .e (some (wrapF 2 F53)) (.n .e (some (wrapF 2 F85)) .e)) (some (wrapF 1 F21)) (.n .e (some (wrapF 1 F37)) (.n .e (some (wrapF 2 F69)) .e)))) none (.n (.n (.n .e (some (wrapF 1 F57)) (.n .e (some (wrapF 0 F89)) .e)) none (.n .e none (.n .e (some (wrapF 3 F73)) .e))) none (.n (.n .e (some (wrapF 4 F49)) (.n .e (some (wrapF 2 F81)) .e)) none (.n .e (some (wrapF 2 F33)) .e)))) none (.n (.n (.n (.n .e (some (wrapF 1 F59)) (.n .e (some (wrapF 1 F91)) .e)) (some (wrapF 2 F27)) (.n .e (some (wrapF 2 F43)) (.n .e (some (wrapF 2 F75)) .e))) none (.n (.n .e (some (wrapF 3 F51)) (.n .e (some (wrapF 2 F83)) .e)) none (.n .e (some (wrapF 2 F35)) (.n .e (some (wrapF 2 F67)) .e)))) none (.n (.n (.n .e (some (wrapF 2 F55)) (.n .e (some (wrapF 2 F87)) .e)) (some (wrapF 2 F23)) (.n .e none (.n .e (some (wrapF 2 F71)) .e))) none (.n (.n .e (some (wrapF 2 F47)) (.n .e (some (wrapF 1 F79)) .e)) (some (wrapF 2 F15)) (.n .e none (.n .e (some (wrapF 1 F63)) .e)))))))
noncomputable def tab (f : Nat) : Option Sem1 := (path f).get tabT
theorem tabAll : ∀ p ∈ tabL, BodyOk prog 0 p.1 p.2 := List.forall_mem_cons.2 ⟨b6, List.forall_mem_cons.2 ⟨b10, List.forall_mem_cons.2 ⟨b13, List.forall_mem_cons.2 ⟨b14, List.forall_mem_cons.2 ⟨b15, List.forall_mem_cons.2 ⟨b16, List.forall_mem_cons.2 ⟨b20, List.forall_mem_cons.2 ⟨b21, List.forall_mem_cons.2 ⟨b22, List.forall_mem_cons.2 ⟨b23, List.forall_mem_cons.2 ⟨b26, List.forall_mem_cons.2 ⟨b27, List.forall_mem_cons.2 ⟨b28, List.forall_mem_cons.2 ⟨b29, List.forall_mem_cons.2 ⟨b32, List.forall_mem_cons.2 ⟨b33, List.forall_mem_cons.2 ⟨b34, List.forall_mem_cons.2 ⟨b35, List.forall_mem_cons.2 ⟨b36, List.forall_mem_cons.2 ⟨b37, List.forall_mem_cons.2 ⟨b43, List.forall_mem_cons.2 ⟨b45, List.forall_mem_cons.2 ⟨b46, List.forall_mem_cons.2 ⟨b47, List.forall_mem_cons.2 ⟨b48, List.forall_mem_cons.2 ⟨b49, List.forall_mem_cons.2 ⟨b50, List.forall_mem_cons.2 ⟨b51, List.forall_mem_cons.2 ⟨b52, List.forall_mem_cons.2 ⟨b53, List.forall_mem_cons.2 ⟨b54, List.forall_mem_cons.2 ⟨b55, List.forall_mem_cons.2 ⟨b56, List.forall_mem_cons.2 ⟨b57, List.forall_mem_cons.2 ⟨b58, List.forall_mem_cons.2 ⟨b59, List.forall_mem_cons.2 ⟨b60, List.forall_mem_cons.2 ⟨b61, List.forall_mem_cons.2 ⟨b62, List.forall_mem_cons.2 ⟨b63, List.forall_mem_cons.2 ⟨b64, List.forall_mem_cons.2 ⟨b66, List.forall_mem_cons.2 ⟨b67, List.forall_mem_cons.2 ⟨b68, List.forall_mem_cons.2 ⟨b69, List.forall_mem_cons.2 ⟨b70, List.forall_mem_cons.2 ⟨b71, List.forall_mem_cons.2 ⟨b72, List.forall_mem_cons.2 ⟨b73, List.forall_mem_cons.2 ⟨b74, List.forall_mem_cons.2 ⟨b75, List.forall_mem_cons.2 ⟨b76, List.forall_mem_cons.2 ⟨b77, List.forall_mem_cons.2 ⟨b78, List.forall_mem_cons.2 ⟨b79, List.forall_mem_cons.2 ⟨b80, List.forall_mem_cons.2 ⟨b81, List.forall_mem_cons.2 ⟨b82, List.forall_mem_cons.2 ⟨b83, List.forall_mem_cons.2 ⟨b84, List.forall_mem_cons.2 ⟨b85, List.forall_mem_cons.2 ⟨b86, List.forall_mem_cons.2 ⟨b87, List.forall_mem_cons.2 ⟨b88, List.forall_mem_cons.2 ⟨b89, List.forall_mem_cons.2 ⟨b90, List.forall_mem_cons.2 ⟨b91, fun _ h => nomatch h⟩⟩⟩⟩⟩⟩⟩⟩⟩⟩⟩⟩⟩⟩⟩⟩⟩⟩⟩⟩⟩⟩⟩⟩⟩⟩⟩⟩⟩⟩⟩⟩⟩⟩⟩⟩⟩⟩⟩⟩⟩⟩⟩⟩⟩⟩⟩⟩⟩⟩⟩⟩⟩⟩⟩⟩⟩⟩⟩⟩⟩⟩⟩⟩⟩⟩⟩
theorem tab_ok : ∀ f F, tab f = some F → BodyOk prog 0 f F := fun f F h => tabAll (f, F) (mkT_mem (by rw [← (show tabT = mkT tabL by kernel_rfl)]; exact h))
end R
end Go.Proofs.Try
