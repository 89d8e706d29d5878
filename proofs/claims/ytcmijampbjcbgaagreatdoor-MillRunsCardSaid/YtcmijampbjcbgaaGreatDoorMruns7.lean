/-
Lemmas for the statements of this seat: no statement of the seat is proved in this part (7 of 8); the conditions stand in each theorem.
-/
import Derived.Test.YtcmijampbjcbgaaGreatDoorMruns6
import Derived.Test.YtcmijampbjcbgaaGreatDoorProg
set_option autoImplicit true
set_option relaxedAutoImplicit true
set_option linter.unusedSimpArgs false
set_option linter.unusedVariables false
set_option maxRecDepth 100000
namespace Go.Proofs.YtcmijampbjcbgaaGreatDoor
open Go Go.Ev
section
def f7 x0 x1 x2 x3 x4 x5 (Q:PQ) w:=knew (Value.cells x2) 24 w fun v1 w2=>aB 2 v1 w2 fun v3=>kmm .i64 true x5 (.int .i64 0) fun v4=>kmm .i64 false v4 (.int .i64 4096) fun v6=>aP [.pointer none,.pointer none,.int .i64 0,.int .i64 0,.int .i64 0,.slice none 0 0,.int .i64 0,.slice none 0 0,.int .i64 0,.bool false] [(0,1,x0),(1,1,x1),(2,2,v3),(4,1,x3),(5,1,x4),(8,1,v6)] fun v8=>knew (Value.cells v8) 58 w2 fun v9 w10=>Q v9 w10
theorem Pv (h:f7 x0 x1 x2 x3 x4 x5 Q w):af Tryz.prog 7 #[x0,x1,x2,x3,x4,x5] w Q :=
 ax (c:=Tryz.f7.body.get rfl) [] Tryz.func7 rfl rfl (args:=[x0,x1,x2,x3,x4,x5]) rfl (by kernel_rfl) h
def HY x1 x2 (Q:PQ) w:=kint .i64 .quo x1 x2 fun v11=>Q v11 w
def HZ x1 x2 (Q:PQ) w:=kint .i64 .eql x2 (.int .i64 (-1)) fun v9=>kB v9 fun b12=>aA b12 (kun .neg (some (.int .i64)) x1 fun v10=>Q v10 w) (HY x1 x2 Q w)
def H0 x1 x2 (Q:PQ) w:=kint .i64 .rem x1 x2 fun v18=>Q v18 w
def uH x1 x2 x41 (Q:PQ) w:=kB x41 fun b19=>aA b19 (Q (.int .i64 0) w) (H0 x1 x2 Q w)
def H1 x1 x2 (Q:PQ) w:=kint .i64 .lss x1 x2 fun v38=>ae Tryz.prog 90 #[v38] w fun v39 w40=>Q v39 w40
def Sp x0 x1 x2 (Q:PQ) w:=kint .i64 .eql x0 (.int .i64 6) fun v1=>kB v1 fun b51=>aA b51 (kint .i64 .add x1 x2 fun v2=>Q v2 w) (kint .i64 .eql x0 (.int .i64 7) fun v3=>kB v3 fun b50=>aA b50 (kint .i64 .sub x1 x2 fun v4=>Q v4 w) (kint .i64 .eql x0 (.int .i64 8) fun v5=>kB v5 fun b49=>aA b49 (kint .i64 .mul x1 x2 fun v6=>Q v6 w) (kint .i64 .eql x0 (.int .i64 9) fun v7=>kB v7 fun b48=>aA b48 (kint .i64 .eql x2 (.int .i64 0) fun v8=>kB v8 fun b13=>aA b13 (Q (.int .i64 0) w) (HZ x1 x2 Q w)) (kint .i64 .eql x0 (.int .i64 10) fun v14=>kB v14 fun b47=>aA b47 (kint .i64 .eql x2 (.int .i64 0) fun v15=>kB v15 fun b16=>aA (!b16) (kint .i64 .eql x2 (.int .i64 (-1)) fun v17=>uH x1 x2 v17 Q w) (uH x1 x2 (.bool true) Q w)) (kint .i64 .eql x0 (.int .i64 12) fun v20=>kB v20 fun b46=>aA b46 (kint .i64 .and x1 x2 fun v21=>Q v21 w) (kint .i64 .eql x0 (.int .i64 13) fun v22=>kB v22 fun b45=>aA b45 (kint .i64 .or x1 x2 fun v23=>Q v23 w) (kint .i64 .eql x0 (.int .i64 14) fun v24=>kB v24 fun b44=>aA b44 (kint .i64 .xor x1 x2 fun v25=>Q v25 w) (kint .i64 .eql x0 (.int .i64 15) fun v26=>kB v26 fun b43=>aA b43 (bk .u64 x2 fun v27=>kint .u64 .rem v27 (.int .u64 64) fun v28=>kint .i64 .shl x1 v28 fun v29=>Q v29 w) (kint .i64 .eql x0 (.int .i64 16) fun v30=>kB v30 fun b42=>aA b42 (bk .u64 x2 fun v31=>kint .u64 .rem v31 (.int .u64 64) fun v32=>kint .i64 .shr x1 v32 fun v33=>Q v33 w) (kint .i64 .eql x0 (.int .i64 17) fun v34=>kB v34 fun b41=>aA b41 (kint .i64 .eql x1 x2 fun v35=>ae Tryz.prog 90 #[v35] w fun v36 w37=>Q v36 w37) (H1 x1 x2 Q w)))))))))))
theorem LN (h:Sp x0 x1 x2 Q w):af Tryz.prog 96 #[x0,x1,x2] w Q :=
 ax (c:=Tryz.f96.body.get rfl) [] Tryz.func96 rfl rfl (args:=[x0,x1,x2]) rfl (by kernel_rfl) h
def H2 (Q:PQ) w:=Q (.int .i64 0) w
def Sq x0 (Q:PQ) w:=kB x0 fun b1=>aA b1 (Q (.int .i64 1) w) (H2 Q w)
theorem LO (h:Sq x0 Q w):af Tryz.prog 90 #[x0] w Q :=
 ax (c:=Tryz.f90.body.get rfl) [] Tryz.func90 rfl rfl (args:=[x0]) rfl (by kernel_rfl) h
def Sr x0 (Q:PQ) (w:World):=kN x0<|ai 9 x0 fun v1=>aw v1 w.drew fun v2=>kG (w.drew=w.drew)<|kB v2 fun b3=>aA (!b3) (kN x0<|ai 6 x0 fun v4=>aw v4 w.drew fun v5=>kG (w.drew=w.drew)<|kN x0<|ai 5 x0 fun v6=>aw v6 w.drew fun v7=>kG (w.drew=w.drew)<|aU v7 fun v8=>kint .i64 .eql v5 v8 fun v10=>Q v10 w.drew) (Q (.bool true) w.drew)
theorem LP (h:Sr x0 Q w):af Tryz.prog 16 #[x0] w Q :=
 ax (c:=Tryz.f16.body.get rfl) [] Tryz.func16 rfl rfl (args:=[x0]) rfl (by kernel_rfl) h
def uI x4 x6 x7 (Q:PQ) w:=aB 6 x6 w fun v21=>kint .i64 .eql x7 (.int .i64 0) fun v22=>bj 6 x4 v21 w fun w23=>aB 6 x4 w23 fun v24=>Q (.tuple #[v24,v22]) w23
def H3 x0 x1 x4 (Q:PQ) (w:World):=(kN x0<|ai 0 x0 fun v10=>aw v10 w.drew fun v11=>kG (w.drew=w.drew)<|kN x0<|ai 4 x0 fun v12=>aw v12 w.drew fun v13=>kG (w.drew=w.drew)<|ae Tryz.prog 136 #[v11,v13,x1] w.drew fun v14 w15=>knew #[.int .i64 0,.int .i64 0,.int .i64 0,.int .i64 0,.int .i64 0,.int .i64 0] 95 w15 fun v16 w17=>kG (aw v12 w17 fun v26=>v26=v13∧w17=w17)<|kG (aw v10 w17 fun v25=>v25=v11∧w17=w17)<|aE v14 0 fun v18=>bj 6 v16 v18 w17 fun w19=>aE v14 1 fun v20=>uI x4 v16 v20 Q w19)∧(knew #[.int .i64 0,.int .i64 0,.int .i64 0,.int .i64 0,.int .i64 0,.int .i64 0] 95 w.drew fun v27 w28=>kN x0<|ai 0 x0 fun v29=>aw v29 w28 fun v30=>kG (w28=w28)<|kG (aw v29 w.drew fun v39=>v39=v30∧w.drew=w.drew)<|kN x0<|ai 4 x0 fun v31=>aw v31 w28 fun v32=>kG (w28=w28)<|kG (aw v31 w.drew fun v38=>v38=v32∧w.drew=w.drew)<|ae Tryz.prog 136 #[v30,v32,x1] w28 fun v33 w34=>aE v33 0 fun v35=>bj 6 v27 v35 w34 fun w36=>aE v33 1 fun v37=>uI x4 v27 v37 Q w36)
def Ss x0 x1 (Q:PQ) w:=knew #[.int .i64 0,.int .i64 0,.int .i64 0,.int .i64 0,.int .i64 0,.int .i64 0] 95 w fun v1 w2=>kN x0<|ai 0 x0 fun v3=>aw v3 w2 fun v4=>keq Tryz.prog .eql 30 false true v4 (.pointer none) w2 fun v5 w6=>kB v5 fun b40=>aA b40 (aP [.int .i64 0,.int .i64 0,.int .i64 0,.int .i64 0,.int .i64 0,.int .i64 0] [] fun v7=>bj 6 v1 v7 w6 fun w8=>aB 6 v1 w8 fun v9=>Q (.tuple #[v9,.bool false]) w8) (H3 x0 x1 v1 Q w6)
theorem LQ (h:Ss x0 x1 Q w):af Tryz.prog 91 #[x0,x1] w Q :=
 ax (c:=Tryz.f91.body.get rfl) [] Tryz.func91 rfl rfl (args:=[x0,x1]) rfl (by kernel_rfl) h
def St x0 x1 (Q:PQ) w:=knew (Value.cells x1) 130 w fun v1 w2=>kN x0<|ai 1 x0 fun v3=>aw v3 w2 fun v4=>keq Tryz.prog .neq 31 false true v4 (.pointer none) w2 fun v5 w6=>kB v5 fun b12=>aA b12 (kN x0<|ai 1 x0 fun v7=>aw v7 w6.drew fun v8=>kG (w6.drew=w6.drew)<|aB 4 v1 w6.drew fun v9=>kG (w6.drew=w6.drew)<|ae Tryz.prog 141 #[v8,v9] w6.drew fun v10 w11=>Q (.tuple #[]) w11) (Q (.tuple #[]) w6)
theorem LR (h:St x0 x1 Q w):af Tryz.prog 95 #[x0,x1] w Q :=
 ax (c:=Tryz.f95.body.get rfl) [] Tryz.func95 rfl rfl (args:=[x0,x1]) rfl (by kernel_rfl) h
def H4 x5 x9 (Q:PQ) w:=ai 2 x5 fun v60=>aw v60 w fun v61=>ai 1 x9 fun v62=>bz (some (.array 4 3)) (some 1) v62 v61 fun v63=>aw v63 w fun v64=>ay [.int .i64 0] 1 [(0,1,v64)] 3 w fun v65 w66=>Q v65 w66
def oz x5 x9 x80 (Q:PQ) w:=kB x80 fun b67=>aA b67 (ay [.int .i64 0] 1 [(0,1,(.int .i64 0))] 3 w fun v58 w59=>Q v58 w59) (H4 x5 x9 Q w)
def H5 (Q:PQ) w:=Q (.slice none 0 0) w
def oA x2 x3 x5 x282 (Q:PQ) w:=kB x282 fun b100=>aA b100 (ai 0 x5 fun v94=>aw v94 w fun v95=>ae Tryz.prog 96 #[v95,x2,x3] w fun v96 w97=>ay [.int .i64 0] 1 [(0,1,v96)] 3 w97 fun v98 w99=>Q v98 w99) (H5 Q w)
def fL x2 x3 x5 (Q:PQ) w:=ai 0 x5 fun v83=>aw v83 w fun v84=>kint .i64 .geq v84 (.int .i64 6) fun v85=>kB v85 fun b86=>aA b86 (ai 0 x5 fun v87=>aw v87 w fun v88=>kint .i64 .leq v88 (.int .i64 18) fun v89=>kB v89 fun b90=>aA b90 (ai 0 x5 fun v91=>aw v91 w fun v92=>kint .i64 .neq v92 (.int .i64 11) fun v93=>oA x2 x3 x5 v93 Q w) (oA x2 x3 x5 (.bool false) Q w)) (oA x2 x3 x5 (.bool false) Q w)
def H6 x0 x5 (Q:PQ) (w:World):=ai 1 x5 fun v126=>aw v126 w.drew fun v127=>kG (w.drew=w.drew)<|kN x0<|ai 2 x0 fun v128=>bz (some (.array 2 3)) (some 1) v128 v127 fun v129=>aw v129 w.drew fun v130=>kG (w.drew=w.drew)<|ay [.int .i64 0] 1 [(0,1,v130)] 3 w.drew fun v131 w132=>Q v131 w132
def rB x0 x5 x130 (Q:PQ) w:=kB x130 fun b133=>aA b133 (ay [.int .i64 0] 1 [(0,1,(.int .i64 0))] 3 w fun v124 w125=>Q v124 w125) (H6 x0 x5 Q w)
def H7 x0 x5 (Q:PQ) (w:World):=kN x0<|ai 0 x0 fun v155=>aw v155 w.drew fun v156=>kG (w.drew=w.drew)<|kN v156<|ai 7 v156 fun v157=>aw v157 w.drew fun v158=>kG (w.drew=w.drew)<|ai 1 x5 fun v159=>aw v159 w.drew fun v160=>kG (w.drew=w.drew)<|bz (some (.slice 3)) (some 1) v158 v160 fun v161=>aw v161 w.drew fun v162=>kG (w.drew=w.drew)<|ay [.int .i64 0] 1 [(0,1,v162)] 3 w.drew fun v163 w164=>Q v163 w164
def oB x0 x5 x164 (Q:PQ) w:=kB x164 fun b165=>aA b165 (ay [.int .i64 0] 1 [(0,1,(.int .i64 0))] 3 w fun v153 w154=>Q v153 w154) (H7 x0 x5 Q w)
def H8 x0 x3 (Q:PQ) w:=kN x0<|ai 0 x0 fun v185=>aw v185 w fun v186=>ae Tryz.prog 94 #[v186,x3] w fun v187 w188=>ay [.int .i64 0] 1 [(0,1,v187)] 3 w188 fun v189 w190=>Q v189 w190
def B9 x0 (Q:PQ) w:=kN x0<|ai 0 x0 fun v204=>aw v204 w fun v205=>kN v205<|ai 4 v205 fun v206=>aw v206 w fun v207=>ay [.int .i64 0] 1 [(0,1,v207)] 3 w fun v208 w209=>Q v208 w209
def Su x0 x1 x2 x3 (Q:PQ) w:=knew (Value.cells x1) 80 w fun v1 w2=>ai 0 v1 fun v3=>aw v3 w2 fun v4=>kint .i64 .eql v4 (.int .i64 1) fun v5=>kB v5 fun b258=>aA b258 (ai 1 v1 fun v6=>aw v6 w2 fun v7=>ay [.int .i64 0] 1 [(0,1,v7)] 3 w2 fun v8 w9=>Q v8 w9) (kint .i64 .eql v4 (.int .i64 2) fun v10=>kB v10 fun b257=>aA b257 (ay [.int .i64 0] 2 [(0,1,x3),(1,1,x3)] 3 w2 fun v11 w12=>Q v11 w12) (kint .i64 .eql v4 (.int .i64 4) fun v13=>kB v13 fun b256=>aA b256 (ay [.int .i64 0] 2 [(0,1,x3),(1,1,x2)] 3 w2 fun v14 w15=>Q v14 w15) (kint .i64 .eql v4 (.int .i64 5) fun v16=>kB v16 fun b255=>aA b255 (ay [.int .i64 0] 3 [(0,1,x2),(1,1,x3),(2,1,x2)] 3 w2 fun v17 w18=>Q v17 w18) (kint .i64 .eql v4 (.int .i64 11) fun v19=>kB v19 fun b254=>aA b254 (kun .neg (some (.int .i64)) x3 fun v20=>ay [.int .i64 0] 1 [(0,1,v20)] 3 w2 fun v21 w22=>Q v21 w22) (kint .i64 .eql v4 (.int .i64 19) fun v23=>kB v23 fun b253=>aA b253 (kint .i64 .eql x3 (.int .i64 0) fun v24=>ae Tryz.prog 90 #[v24] w2 fun v25 w26=>ay [.int .i64 0] 1 [(0,1,v25)] 3 w26 fun v27 w28=>Q v27 w28) (kint .i64 .eql v4 (.int .i64 22) fun v29=>kB v29 fun b252=>aA b252 (ai 1 v1 fun v30=>aw v30 w2 fun v31=>ae Tryz.prog 91 #[x0,v31] w2 fun v32 w33=>aE v32 0 fun v34=>aE v32 1 fun v35=>knew #[.int .i64 0,.int .i64 0,.int .i64 0,.int .i64 0,.int .i64 0,.int .i64 0] 95 w33 fun v36 w37=>bj 6 v36 v34 w37 fun w38=>kun .not (some .bool) v35 fun v39=>kB v39 fun b40=>aA (!b40) (ai 2 v1 fun v41=>aw v41 w38.drew fun v42=>kG (w38.drew=w38.drew)<|kint .i64 .lss v42 (.int .i64 0) fun v43=>kB v43 fun b44=>aA (!b44) (ai 2 v1 fun v45=>aw v45 w38.drew fun v46=>kG (w38.drew=w38.drew)<|kN x0<|ai 0 x0 fun v47=>aw v47 w38.drew fun v48=>kG (w38.drew=w38.drew)<|kN v48<|ai 0 v48 fun v49=>ai 0 v49 fun v50=>aw v50 w38.drew fun v51=>kG (w38.drew=w38.drew)<|ai 1 v1 fun v52=>aw v52 w38.drew fun v53=>kG (w38.drew=w38.drew)<|bz (some (.slice 144)) (some 7) v51 v53 fun v54=>ai 1 v54 fun v55=>aw v55 w38.drew fun v56=>kG (w38.drew=w38.drew)<|kint .i64 .geq v46 v56 fun v57=>oz v1 v36 v57 Q w38.drew) (oz v1 v36 (.bool true) Q w38.drew)) (oz v1 v36 (.bool true) Q w38.drew)) (kint .i64 .eql v4 (.int .i64 23) fun v68=>kB v68 fun b251=>aA b251 (kN x0<|ai 0 x0 fun v69=>aw v69 w2 fun v70=>keq Tryz.prog .neq 30 false true v70 (.pointer none) w2 fun v71 w72=>kB v71 fun b101=>aA b101 (kN x0<|ai 0 x0 fun v73=>aw v73 w72.drew fun v74=>kG (w72.drew=w72.drew)<|kN x0<|ai 4 x0 fun v75=>aw v75 w72.drew fun v76=>kG (w72.drew=w72.drew)<|ai 1 v1 fun v77=>aw v77 w72.drew fun v78=>kG (w72.drew=w72.drew)<|ai 2 v1 fun v79=>aw v79 w72.drew fun v80=>kG (w72.drew=w72.drew)<|ae Tryz.prog 92 #[v74,v76,v78,v80,x3] w72.drew fun v81 w82=>fL x2 x3 v1 Q w82) (fL x2 x3 v1 Q w72)) (kint .i64 .eql v4 (.int .i64 24) fun v102=>kB v102 fun b250=>aA b250 (ai 1 v1 fun v103=>aw v103 w2 fun v104=>ae Tryz.prog 91 #[x0,v104] w2 fun v105 w106=>aE v105 0 fun v107=>aE v105 1 fun v108=>knew #[.int .i64 0,.int .i64 0,.int .i64 0,.int .i64 0,.int .i64 0,.int .i64 0] 95 w106 fun v109 w110=>bj 6 v109 v107 w110 fun w111=>ae Tryz.prog 90 #[v108] w111 fun v112 w113=>ay [.int .i64 0] 1 [(0,1,v112)] 3 w113 fun v114 w115=>Q v114 w115) (kint .i64 .eql v4 (.int .i64 25) fun v116=>kB v116 fun b249=>aA b249 (ai 1 v1 fun v117=>aw v117 w2 fun v118=>kint .i64 .lss v118 (.int .i64 0) fun v119=>kB v119 fun b120=>aA (!b120) (ai 1 v1 fun v121=>aw v121 w2 fun v122=>kint .i64 .gtr v122 (.int .i64 1) fun v123=>rB x0 v1 v123 Q w2) (rB x0 v1 (.bool true) Q w2)) (kint .i64 .eql v4 (.int .i64 26) fun v134=>kB v134 fun b248=>aA b248 (kN x0<|ai 0 x0 fun v135=>aw v135 w2.drew fun v136=>kG (w2.drew=w2.drew)<|keq Tryz.prog .eql 30 false true v136 (.pointer none) w2.drew fun v137 w138=>kG (w138=w2.drew)<|kB v137 fun b139=>aA (!b139) (ai 1 v1 fun v140=>aw v140 w138 fun v141=>kG (w138=w138)<|kint .i64 .lss v141 (.int .i64 0) fun v142=>kB v142 fun b143=>aA (!b143) (ai 1 v1 fun v144=>aw v144 w138 fun v145=>kG (w138=w138)<|kN x0<|ai 0 x0 fun v146=>aw v146 w138 fun v147=>kG (w138=w138)<|kN v147<|ai 7 v147 fun v148=>aw v148 w138 fun v149=>kG (w138=w138)<|aU v149 fun v150=>kint .i64 .geq v145 v150 fun v152=>oB x0 v1 v152 Q w138) (oB x0 v1 (.bool true) Q w138)) (oB x0 v1 (.bool true) Q w138)) (kint .i64 .eql v4 (.int .i64 27) fun v166=>kB v166 fun b247=>aA b247 (kN x0<|ai 0 x0 fun v167=>aw v167 w2 fun v168=>keq Tryz.prog .neq 30 false true v168 (.pointer none) w2 fun v169 w170=>kB v169 fun b177=>aA b177 (kN x0<|ai 0 x0 fun v171=>aw v171 w170.drew fun v172=>kG (w170.drew=w170.drew)<|ai 1 v1 fun v173=>aw v173 w170.drew fun v174=>kG (w170.drew=w170.drew)<|ae Tryz.prog 93 #[v172,v174,x3] w170.drew fun v175 w176=>fL x2 x3 v1 Q w176) (fL x2 x3 v1 Q w170)) (kint .i64 .eql v4 (.int .i64 28) fun v178=>kB v178 fun b246=>aA b246 (kN x0<|ai 0 x0 fun v179=>aw v179 w2 fun v180=>keq Tryz.prog .eql 30 false true v180 (.pointer none) w2 fun v181 w182=>kB v181 fun b191=>aA b191 (ay [.int .i64 0] 1 [(0,1,(.int .i64 0))] 3 w182 fun v183 w184=>Q v183 w184) (H8 x0 x3 Q w182)) (kint .i64 .eql v4 (.int .i64 29) fun v192=>kB v192 fun b245=>aA b245 (kN x0<|ai 4 x0 fun v193=>aw v193 w2 fun v194=>ay [.int .i64 0] 1 [(0,1,v194)] 3 w2 fun v195 w196=>Q v195 w196) (kint .i64 .eql v4 (.int .i64 30) fun v197=>kB v197 fun b244=>aA b244 (kN x0<|ai 0 x0 fun v198=>aw v198 w2 fun v199=>keq Tryz.prog .eql 30 false true v199 (.pointer none) w2 fun v200 w201=>kB v200 fun b210=>aA b210 (ay [.int .i64 0] 1 [(0,1,(.int .i64 0))] 3 w201 fun v202 w203=>Q v202 w203) (B9 x0 Q w201)) (kint .i64 .eql v4 (.int .i64 31) fun v211=>kB v211 fun b243=>aA b243 (ai 1 v1 fun v212=>aw v212 w2 fun v213=>bk .u32 v213 fun v214=>aP [.int .i64 0,.int .i64 0,.int .u32 0,.int .i64 0] [(0,1,(.int .i64 1)),(2,1,v214)] fun v215=>ae Tryz.prog 95 #[x0,v215] w2 fun v216 w217=>fL x2 x3 v1 Q w217) (kint .i64 .eql v4 (.int .i64 32) fun v218=>kB v218 fun b242=>aA b242 (kN x0<|ai 4 x0 fun v219=>aw v219 w2 fun v220=>aP [.int .i64 0,.int .i64 0,.int .u32 0,.int .i64 0] [(0,1,(.int .i64 2)),(1,1,v220)] fun v221=>ae Tryz.prog 95 #[x0,v221] w2 fun v222 w223=>fL x2 x3 v1 Q w223) (kint .i64 .eql v4 (.int .i64 33) fun v224=>kB v224 fun b241=>aA b241 (kN x0<|ai 4 x0 fun v225=>aw v225 w2.drew fun v226=>kG (w2.drew=w2.drew)<|ai 1 v1 fun v227=>aw v227 w2.drew fun v228=>kG (w2.drew=w2.drew)<|aP [.int .i64 0,.int .i64 0,.int .u32 0,.int .i64 0] [(0,1,(.int .i64 3)),(1,1,v226),(3,1,v228)] fun v229=>ae Tryz.prog 95 #[x0,v229] w2.drew fun v230 w231=>fL x2 x3 v1 Q w231) (kint .i64 .eql v4 (.int .i64 34) fun v232=>kB v232 fun b240=>aA b240 (kN x0<|ai 4 x0 fun v233=>aw v233 w2.drew fun v234=>kG (w2.drew=w2.drew)<|ai 1 v1 fun v235=>aw v235 w2.drew fun v236=>kG (w2.drew=w2.drew)<|aP [.int .i64 0,.int .i64 0,.int .u32 0,.int .i64 0] [(0,1,(.int .i64 4)),(1,1,v234),(3,1,v236)] fun v237=>ae Tryz.prog 95 #[x0,v237] w2.drew fun v238 w239=>fL x2 x3 v1 Q w239) (fL x2 x3 v1 Q w2)))))))))))))))))))
theorem LT (h:Su x0 x1 x2 x3 Q w):af Tryz.prog 53 #[x0,x1,x2,x3] w Q :=
 ax (c:=Tryz.f53.body.get rfl) [] Tryz.func53 rfl rfl (args:=[x0,x1,x2,x3]) rfl (by kernel_rfl) h
def uJ (Q:PQ) w:=Q (.tuple #[.bool true,.int .i64 0]) w
def uK x0 x4 (Q:PQ) w:=ai 0 x4 fun v83=>aw v83 w fun v84=>kint .i64 .eql v84 (.int .i64 35) fun v85=>kB v85 fun b88=>aA b88 (kN x0<|ai 9 x0 fun v86=>bj 1 v86 (.bool true) w fun w87=>uJ Q w87) (uJ Q w)
def oC x0 x4 x151 (Q:PQ) w:=kB x151 fun b89=>aA b89 (ai 1 x4 fun v79=>aw v79 w fun v80=>kN x0<|ai 6 x0 fun v81=>bj 1 v81 v80 w fun w82=>uK x0 x4 Q w82) (uK x0 x4 Q w)
def uL x0 x4 x5 x8 x9 x10 (Q:PQ) w:=kN x0<|ai 8 x0 fun v43=>aw v43 w fun v44=>kint .i64 .sub v44 (.int .i64 1) fun v45=>kN x0<|ai 8 x0 fun v46=>bj 1 v46 v45 w fun w47=>ay [.int .i64 0] 0 [] 3 w47.drew fun v48 w49=>kN x0<|ai 7 x0 fun v50=>aw v50 w49 fun v51=>kG (w49=w49)<|kG (aw v50 w47.drew fun v91=>v91=v51∧w47.drew=w47.drew)<|ai 2 x5 fun v52=>aw v52 w49 fun v53=>kG (w49=w49)<|kG (aw v52 w47.drew fun v90=>v90=v53∧w47.drew=w47.drew)<|kint .i64 .sub x8 v53 fun v54=>ksl (some (.slice 3)) (some 1) v51 none (some v54) fun v55=>ksem Tryz.prog (Builtin.append_ #[49,49] 0 #[v48,v55]) w49 fun v56 w57=>aB 3 x4 w57 fun v58=>ae Tryz.prog 53 #[x0,v58,x10,x9] w57 fun v59 w60=>ksem Tryz.prog (Builtin.append_ #[49,49] 0 #[v56,v59]) w60 fun v61 w62=>kN x0<|ai 7 x0 fun v63=>bj 1 v63 v61 w62 fun w64=>kN x0<|ai 6 x0 fun v65=>aw v65 w64 fun v66=>kint .i64 .add v66 (.int .i64 1) fun v67=>kN x0<|ai 6 x0 fun v68=>bj 1 v68 v67 w64 fun w69=>ai 0 x4 fun v70=>aw v70 w69 fun v71=>kint .i64 .eql v71 (.int .i64 20) fun v72=>kB v72 fun b73=>aA (!b73) (ai 0 x4 fun v74=>aw v74 w69 fun v75=>kint .i64 .eql v75 (.int .i64 21) fun v76=>kB v76 fun b77=>aA b77 (kint .i64 .eql x9 (.int .i64 0) fun v78=>oC x0 x4 v78 Q w69) (oC x0 x4 (.bool false) Q w69)) (oC x0 x4 (.bool true) Q w69)
def uM x0 x4 x5 x8 x9 x10 (Q:PQ) w:=kint .i64 .gtr x8 (.int .i64 1) fun v37=>kB v37 fun b92=>aA b92 (kN x0<|ai 7 x0 fun v38=>aw v38 w fun v39=>kint .i64 .sub x8 (.int .i64 2) fun v40=>bz (some (.slice 3)) (some 1) v39 v40 fun v41=>aw v41 w fun v42=>uL x0 x4 x5 x8 x9 v42 Q w) (uL x0 x4 x5 x8 x9 x10 Q w)
def uN x0 x4 x5 x8 (Q:PQ) w:=kint .i64 .gtr x8 (.int .i64 0) fun v31=>kB v31 fun b93=>aA b93 (kN x0<|ai 7 x0 fun v32=>aw v32 w fun v33=>kint .i64 .sub x8 (.int .i64 1) fun v34=>bz (some (.slice 3)) (some 1) v33 v34 fun v35=>aw v35 w fun v36=>uM x0 x4 x5 x8 v36 (.int .i64 0) Q w) (uM x0 x4 x5 x8 (.int .i64 0) (.int .i64 0) Q w)
def ld x0 x4 x5 x7 x8 (Q:PQ) w:=kint .i64 .neq x7 (.int .i64 0) fun v28=>kB v28 fun b94=>aA b94 (kN x0<|ai 9 x0 fun v29=>bj 1 v29 (.bool true) w fun w30=>Q (.tuple #[.bool false,x7]) w30) (uN x0 x4 x5 x8 Q w)
def kc x0 x4 x5 x7 x8 x78 (Q:PQ) w:=kB x78 fun b126=>aA b126 (ld x0 x4 x5 (.int .i64 13) x8 Q w) (ld x0 x4 x5 x7 x8 Q w)
def uO x0 x4 x5 x7 x8 x55 (Q:PQ) (w:World):=kB x55 fun b138=>aA b138 (ld x0 x4 x5 (.int .i64 12) x8 Q w) (ai 0 x4 fun v107=>aw v107 w.drew fun v108=>kG (w.drew=w.drew)<|kint .i64 .eql v108 (.int .i64 20) fun v109=>kB v109 fun b110=>aA (!b110) (ai 0 x4 fun v111=>aw v111 w.drew fun v112=>kG (w.drew=w.drew)<|kint .i64 .eql v112 (.int .i64 21) fun v113=>kB v113 fun b114=>aA b114 (ai 1 x4 fun v115=>aw v115 w.drew fun v116=>kG (w.drew=w.drew)<|kint .i64 .lss v116 (.int .i64 0) fun v117=>kB v117 fun b118=>aA (!b118) (ai 1 x4 fun v119=>aw v119 w.drew fun v120=>kG (w.drew=w.drew)<|kN x0<|ai 5 x0 fun v121=>aw v121 w.drew fun v122=>kG (w.drew=w.drew)<|aU v122 fun v123=>kint .i64 .gtr v120 v123 fun v125=>kc x0 x4 x5 x7 x8 v125 Q w.drew) (kc x0 x4 x5 x7 x8 (.bool true) Q w.drew)) (kc x0 x4 x5 x7 x8 (.bool false) Q w.drew)) (ai 1 x4 fun v127=>aw v127 w.drew fun v128=>kG (w.drew=w.drew)<|kint .i64 .lss v128 (.int .i64 0) fun v129=>kB v129 fun b130=>aA (!b130) (ai 1 x4 fun v131=>aw v131 w.drew fun v132=>kG (w.drew=w.drew)<|kN x0<|ai 5 x0 fun v133=>aw v133 w.drew fun v134=>kG (w.drew=w.drew)<|aU v134 fun v135=>kint .i64 .gtr v132 v135 fun v137=>kc x0 x4 x5 x7 x8 v137 Q w.drew) (kc x0 x4 x5 x7 x8 (.bool true) Q w.drew)))
def H9 x0 (Q:PQ) (w:World):=kN x0<|ai 5 x0 fun v3=>aw v3 w.drew fun v4=>kG (w.drew=w.drew)<|kN x0<|ai 6 x0 fun v5=>aw v5 w.drew fun v6=>kG (w.drew=w.drew)<|bz (some (.slice 80)) (some 3) v4 v6 fun v7=>aB 3 v7 w.drew fun v8=>kG (w.drew=w.drew)<|knew #[.int .i64 0,.int .i64 0,.int .i64 0] 80 w.drew fun v9 w10=>kG (aB 3 v7 w10 fun v143=>v143=v8∧w10=w10)<|kG (aw v5 w10 fun v142=>v142=v6∧w10=w10)<|kG (aw v3 w10 fun v141=>v141=v4∧w10=w10)<|bj 3 v9 v8 w10 fun w11=>ai 0 v9 fun v12=>aw v12 w11 fun v13=>ae Tryz.prog 52 #[v13] w11 fun v14 w15=>aE v14 0 fun v16=>aE v14 1 fun v17=>knew #[(.string ⟨#[]⟩),.int .i64 0,.int .i64 0,.int .i64 0] 122 w15 fun v18 w19=>bj 4 v18 v16 w19 fun w20=>kN x0<|ai 7 x0 fun v21=>aw v21 w20 fun v22=>aU v22 fun v23=>kN x0<|ai 8 x0 fun v25=>aw v25 w20 fun v26=>kint .i64 .eql v26 (.int .i64 0) fun v27=>kB v27 fun b140=>aA b140 (ld x0 v9 v18 (.int .i64 15) v23 Q w20) (kun .not (some .bool) v17 fun v95=>kB v95 fun b139=>aA b139 (ld x0 v9 v18 (.int .i64 14) v23 Q w20) (ai 2 v18 fun v96=>aw v96 w20 fun v97=>kint .i64 .lss v23 v97 fun v98=>kB v98 fun b99=>aA (!b99) (ai 2 v18 fun v100=>aw v100 w20 fun v101=>kint .i64 .sub v23 v101 fun v102=>ai 3 v18 fun v103=>aw v103 w20 fun v104=>kint .i64 .add v102 v104 fun v105=>kint .i64 .gtr v105 (.int .i64 16) fun v106=>uO x0 v9 v18 (.int .i64 0) v23 v106 Q w20) (uO x0 v9 v18 (.int .i64 0) v23 (.bool true) Q w20)))
def f22 x0 (Q:PQ) w:=ae Tryz.prog 16 #[x0] w fun v1 w2=>kB v1 fun b144=>aA b144 (Q (.tuple #[.bool false,.int .i64 0]) w2) (H9 x0 Q w2)
theorem LU (h:f22 x0 Q w):af Tryz.prog 22 #[x0] w Q :=
 ax (c:=Tryz.f22.body.get rfl) [] Tryz.func22 rfl rfl (args:=[x0]) rfl (by kernel_rfl) h
def Pw x0 (J1:World→Prop) (Q:PQ) w:=ae Tryz.prog 22 #[x0] w fun v1 w2=>aE v1 0 fun v3=>aE v1 1 fun v4=>kun .not (some .bool) v3 fun v5=>kB v5 fun b8=>aA b8 (kN x0<|ai 8 x0 fun v6=>aw v6 w2 fun v7=>Q (.tuple #[v7,v4]) w2) (J1 w2)
def f9 x0 (Q:PQ) w:=kL fun(I:World→Prop) (μ:World→Nat)=>I w∧∀(w1:World),I w1→Pw x0 (fun  w2=>I w2∧μ w2<μ w1) Q w1
theorem Px (h:f9 x0 Q w):af Tryz.prog 9 #[x0] w Q :=
 ax (c:=Tryz.f9.body.get rfl) [(1,[])] Tryz.func9 rfl rfl (args:=[x0]) rfl (by kernel_rfl) h
def Ca (x0 x1:Value) x5 (J2:Value→World→Prop) (Q:PQ) w:=kint .i64 .add x5 (.int .i64 1) fun v12=>J2 v12 w
def Cb x0 x1 x5 (J2:Value→World→Prop) (Q:PQ) w:=kN x0<|ai 3 x0 fun v6=>aw v6 w fun v7=>bz (some (.slice 101)) (some 2) v7 x5 fun v8=>ai 0 v8 fun v9=>aw v9 w fun v10=>kint .i64 .eql v10 x1 fun v11=>kB v11 fun b13=>aA b13 (Q x5 w) (Ca x0 x1 x5 J2 Q w)
def Cc (Q:PQ) w:=Q (.int .i64 (-1)) w
def Ce x5 x0 x1 (J2:Value→World→Prop) (Q:PQ) w:=kN x0<|ai 3 x0 fun v1=>aw v1 w fun v2=>aU v2 fun v3=>kint .i64 .lss x5 v3 fun v5=>kB v5 fun b14=>aA b14 (Cb x0 x1 x5 J2 Q w) (Cc Q w)
def Py x0 x1 (Q:PQ) w:=kL fun(I:Value→World→Prop) (μ:Value→World→Nat)=>I (.int .i64 0) w∧∀(x5:Value) (w1:World),I x5 w1→Ce x5 x0 x1 (fun y5 w2=>I y5 w2∧μ y5 w2<μ x5 w1) Q w1
theorem E8 (h:Py x0 x1 Q w):af Tryz.prog 137 #[x0,x1] w Q :=
 ax (c:=Tryz.f137.body.get rfl) [(2,[5])] Tryz.func137 rfl rfl (args:=[x0,x1]) rfl (by kernel_rfl) h
def Pz x0 x1 x2 (Q:PQ) w:=ay [.int .i64 0,.slice none 0 0] 0 [] 101 w fun v1 w2=>kN x0<|ai 3 x0 fun v3=>aw v3 w2 fun v4=>ksem Tryz.prog (Builtin.append_ #[48,48] 0 #[v1,v4]) w2 fun v5 w6=>bz (some (.slice 101)) (some 2) v5 x1 fun v7=>ai 1 v7 fun v8=>bj 1 v8 x2 w6 fun w9=>kN x0<|ai 3 x0 fun v10=>bj 1 v10 v5 w9 fun w11=>Q (.tuple #[]) w11
theorem E9 (h:Pz x0 x1 x2 Q w):af Tryz.prog 138 #[x0,x1,x2] w Q :=
 ax (c:=Tryz.f138.body.get rfl) [] Tryz.func138 rfl rfl (args:=[x0,x1,x2]) rfl (by kernel_rfl) h
def QO x0 x1 (Q:PQ) w:=kint .i64 .geq x1 (.int .i64 0) fun v1=>kB v1 fun b2=>aA b2 (kN x0<|ai 0 x0 fun v3=>ai 0 v3 fun v4=>aw v4 w fun v5=>aU v5 fun v6=>kint .i64 .lss x1 v6 fun v8=>kB v8 fun b9=>aA b9 (kN x0<|ai 0 x0 fun v10=>ai 0 v10 fun v11=>aw v11 w fun v12=>bz (some (.slice 144)) (some 7) v12 x1 fun v13=>ai 2 v13 fun v14=>aw v14 w fun v15=>Q v15 w) (Q (.bool false) w)) (Q (.bool false) w)
theorem Cf (h:QO x0 x1 Q w):af Tryz.prog 44 #[x0,x1] w Q :=
 ax (c:=Tryz.f44.body.get rfl) [] Tryz.func44 rfl rfl (args:=[x0,x1]) rfl (by kernel_rfl) h
def Cg x0 x6 x8 x9 (Q:PQ) w:=kN x0<|ai 3 x0 fun v20=>aw v20 w fun v21=>bz (some (.slice 101)) (some 2) v21 x8 fun v22=>ai 1 v22 fun v23=>aw v23 w fun v24=>bz (some (.slice 95)) (some 6) v24 x9 fun v25=>aB 6 v25 w fun v26=>bj 6 x6 v26 w fun w27=>aB 6 x6 w27 fun v28=>Q (.tuple #[v28,.int .i64 0]) w27
def Ch x0 x2 x6 x8 (Q:PQ) w:=kN x0<|ai 3 x0 fun v9=>aw v9 w fun v10=>bz (some (.slice 101)) (some 2) v10 x8 fun v11=>ai 1 v11 fun v12=>aw v12 w fun v13=>ae Tryz.prog 125 #[v13,x2] w fun v14 w15=>kint .i64 .lss v14 (.int .i64 0) fun v16=>kB v16 fun b29=>aA b29 (aP [.int .i64 0,.int .i64 0,.int .i64 0,.int .i64 0,.int .i64 0,.int .i64 0] [] fun v17=>bj 6 x6 v17 w15 fun w18=>aB 6 x6 w18 fun v19=>Q (.tuple #[v19,.int .i64 7]) w18) (Cg x0 x6 x8 v14 Q w15)
def PA x0 x1 x2 (Q:PQ) w:=knew #[.int .i64 0,.int .i64 0,.int .i64 0,.int .i64 0,.int .i64 0,.int .i64 0] 95 w fun v1 w2=>ae Tryz.prog 137 #[x0,x1] w2 fun v3 w4=>kint .i64 .lss v3 (.int .i64 0) fun v5=>kB v5 fun b30=>aA b30 (aP [.int .i64 0,.int .i64 0,.int .i64 0,.int .i64 0,.int .i64 0,.int .i64 0] [] fun v6=>bj 6 v1 v6 w4 fun w7=>aB 6 v1 w7 fun v8=>Q (.tuple #[v8,.int .i64 17]) w7) (Ch x0 x2 v1 v3 Q w4)
theorem Fa (h:PA x0 x1 x2 Q w):af Tryz.prog 136 #[x0,x1,x2] w Q :=
 ax (c:=Tryz.f136.body.get rfl) [] Tryz.func136 rfl rfl (args:=[x0,x1,x2]) rfl (by kernel_rfl) h
def uP x0 x1 x2 x3 x4 x11 (Q:PQ) w:=ai 1 x11 fun v24=>bz (some (.array 4 3)) (some 1) v24 x3 fun v25=>bj 1 v25 x4 w fun w26=>kN x0<|ai 4 x0 fun v27=>aw v27 w26 fun v28=>ai 5 x11 fun v29=>bj 1 v29 v28 w26 fun w30=>ae Tryz.prog 137 #[x0,x1] w30 fun v31 w32=>kN x0<|ai 3 x0 fun v33=>aw v33 w32.drew fun v34=>kG (w32.drew=w32.drew)<|bz (some (.slice 101)) (some 2) v34 v31 fun v35=>ai 1 v35 fun v36=>aw v36 w32.drew fun v37=>kG (w32.drew=w32.drew)<|ae Tryz.prog 139 #[v37,x2] w32.drew fun v38 w39=>aB 6 x11 w39 fun v40=>kG (w39=w39)<|kG (aB 6 x11 w32.drew fun v45=>v45=v40∧w32.drew=w32.drew)<|ae Tryz.prog 126 #[v38,v40] w39 fun v41 w42=>ae Tryz.prog 138 #[x0,v31,v41] w42 fun v43 w44=>Q (.int .i64 0) w44
def Ic x0 x1 x2 x3 x4 x11 (Q:PQ) w:=ae Tryz.prog 44 #[x0,x2] w fun v18 w19=>kB v18 fun b46=>aA b46 (aB 6 x11 w19 fun v20=>aP [.int .i64 0,.int .i64 0,.int .i64 0,.int .i64 0,.int .i64 0,.int .i64 0,.int .i64 0,.int .i64 0,.slice none 0 0,.int .i64 0,.int .i64 0] [(0,1,(.int .i64 1)),(1,1,x1),(2,6,v20)] fun v21=>ae Tryz.prog 71 #[x0,v21] w19 fun v22 w23=>uP x0 x1 x2 x3 x4 x11 Q w23) (uP x0 x1 x2 x3 x4 x11 Q w19)
def rC x0 x1 x2 x3 x4 x11 x38 (Q:PQ) w:=kB x38 fun b47=>aA b47 (Q (.int .i64 1) w) (Ic x0 x1 x2 x3 x4 x11 Q w)
def Id x0 x1 x2 x3 x4 x11 (Q:PQ) w:=kint .i64 .lss x3 (.int .i64 0) fun v9=>kB v9 fun b10=>aA (!b10) (kN x0<|ai 0 x0 fun v11=>ai 0 v11 fun v12=>aw v12 w fun v13=>bz (some (.slice 144)) (some 7) v13 x2 fun v14=>ai 1 v14 fun v15=>aw v15 w fun v16=>kint .i64 .geq x3 v16 fun v17=>rC x0 x1 x2 x3 x4 x11 v17 Q w) (rC x0 x1 x2 x3 x4 x11 (.bool true) Q w)
def Sv x0 x1 x2 x3 x4 (Q:PQ) w:=ae Tryz.prog 136 #[x0,x1,x2] w fun v1 w2=>aE v1 0 fun v3=>aE v1 1 fun v4=>knew #[.int .i64 0,.int .i64 0,.int .i64 0,.int .i64 0,.int .i64 0,.int .i64 0] 95 w2 fun v5 w6=>bj 6 v5 v3 w6 fun w7=>kint .i64 .neq v4 (.int .i64 0) fun v8=>kB v8 fun b48=>aA b48 (Q v4 w7) (Id x0 x1 x2 x3 x4 v5 Q w7)
theorem LV (h:Sv x0 x1 x2 x3 x4 Q w):af Tryz.prog 92 #[x0,x1,x2,x3,x4] w Q :=
 ax (c:=Tryz.f92.body.get rfl) [] Tryz.func92 rfl rfl (args:=[x0,x1,x2,x3,x4]) rfl (by kernel_rfl) h
def Ie x0 x1 x2 (Q:PQ) w:=kN x0<|ai 7 x0 fun v8=>aw v8 w fun v9=>bz (some (.slice 3)) (some 1) v9 x1 fun v10=>aw v10 w fun v11=>aP [.int .i64 0,.int .i64 0,.int .i64 0,.int .i64 0,.int .i64 0,.int .i64 0,.int .i64 0,.int .i64 0,.slice none 0 0,.int .i64 0,.int .i64 0] [(0,1,(.int .i64 6)),(9,1,x1),(10,1,v11)] fun v12=>ae Tryz.prog 71 #[x0,v12] w fun v13 w14=>ay [.int .i64 0] 0 [] 3 w14 fun v15 w16=>kN x0<|ai 7 x0 fun v17=>aw v17 w16 fun v18=>ksem Tryz.prog (Builtin.append_ #[49,49] 0 #[v15,v18]) w16 fun v19 w20=>kN x0<|ai 7 x0 fun v21=>bj 1 v21 v19 w20 fun w22=>kN x0<|ai 7 x0 fun v23=>aw v23 w22 fun v24=>bz (some (.slice 3)) (some 1) v24 x1 fun v25=>bj 1 v25 x2 w22 fun w26=>Q (.int .i64 0) w26
def rD x0 x1 x2 x17 (Q:PQ) w:=kB x17 fun b27=>aA b27 (Q (.int .i64 7) w) (Ie x0 x1 x2 Q w)
def Sw x0 x1 x2 (Q:PQ) w:=kint .i64 .lss x1 (.int .i64 0) fun v1=>kB v1 fun b2=>aA (!b2) (kN x0<|ai 7 x0 fun v3=>aw v3 w fun v4=>aU v4 fun v5=>kint .i64 .geq x1 v5 fun v7=>rD x0 x1 x2 v7 Q w) (rD x0 x1 x2 (.bool true) Q w)
theorem LW (h:Sw x0 x1 x2 Q w):af Tryz.prog 93 #[x0,x1,x2] w Q :=
 ax (c:=Tryz.f93.body.get rfl) [] Tryz.func93 rfl rfl (args:=[x0,x1,x2]) rfl (by kernel_rfl) h
def Sx x0 x1 (Q:PQ) w:=kN x0<|ai 6 x0 fun v1=>aw v1 w fun v2=>aP [.int .i64 0,.int .i64 0,.int .i64 0,.int .i64 0,.int .i64 0,.int .i64 0,.int .i64 0,.int .i64 0,.slice none 0 0,.int .i64 0,.int .i64 0] [(0,1,(.int .i64 8)),(10,1,v2)] fun v3=>ae Tryz.prog 71 #[x0,v3] w fun v4 w5=>kN x0<|ai 6 x0 fun v6=>aw v6 w5 fun v7=>ae Tryz.prog 140 #[v7,x1] w5 fun v8 w9=>aE v8 0 fun v10=>aE v8 1 fun v11=>kN x0<|ai 6 x0 fun v12=>bj 1 v12 v10 w9 fun w13=>Q v11 w13
theorem LX (h:Sx x0 x1 Q w):af Tryz.prog 94 #[x0,x1] w Q :=
 ax (c:=Tryz.f94.body.get rfl) [] Tryz.func94 rfl rfl (args:=[x0,x1]) rfl (by kernel_rfl) h
def uQ (x0 x2 x3 x4 x5:Value) x6 (J7:Value→World→Prop) (J3:Value→World→Prop) (Q:PQ) w:=kint .i64 .add x6 (.int .i64 1) fun v62=>J7 v62 w
def Ig x0 x2 x3 x4 x5 x6 (J7:Value→World→Prop) (J3:Value→World→Prop) (Q:PQ) w:=kN x0<|ai 3 x0 fun v37=>aw v37 w fun v38=>bz (some (.slice 101)) (some 2) v38 x4 fun v39=>ai 1 v39 fun v40=>aw v40 w fun v41=>bz (some (.slice 95)) (some 6) v41 x6 fun v42=>ai 0 v42 fun v43=>aw v43 w fun v44=>ae Tryz.prog 44 #[x0,v44] w fun v45 w46=>kB v45 fun b64=>aA b64 (ai 1 x5 fun v47=>aw v47 w46.drew fun v48=>kG (w46.drew=w46.drew)<|kN x0<|ai 3 x0 fun v49=>aw v49 w46.drew fun v50=>kG (w46.drew=w46.drew)<|bz (some (.slice 101)) (some 2) v50 x4 fun v51=>ai 1 v51 fun v52=>aw v52 w46.drew fun v53=>kG (w46.drew=w46.drew)<|bz (some (.slice 95)) (some 6) v53 x6 fun v54=>aB 6 v54 w46.drew fun v55=>kG (w46.drew=w46.drew)<|ay [.int .i64 0,.int .i64 0,.int .i64 0,.int .i64 0,.int .i64 0,.int .i64 0] 1 [(0,6,v55)] 95 w46.drew fun v56 w57=>kG (aw v47 w57 fun v63=>v63=v48∧w57=w57)<|ksem Tryz.prog (Builtin.append_ #[90,90] 0 #[v48,v56]) w57 fun v58 w59=>ai 1 x5 fun v60=>bj 1 v60 v58 w59 fun w61=>uQ x0 x2 x3 x4 x5 x6 J7 J3 Q w61) (uQ x0 x2 x3 x4 x5 x6 J7 J3 Q w46)
def Ih (x0 x2 x3:Value) x4 (J3:Value→World→Prop) (Q:PQ) w:=kint .i64 .add x4 (.int .i64 1) fun v74=>J3 v74 w
def Ci x0 x2 x3 x4 x5 (J3:Value→World→Prop) (Q:PQ) w:=ai 3 x3 fun v65=>aw v65 w fun v66=>aB 2 x5 w fun v67=>ay [.int .i64 0,.slice none 0 0] 1 [(0,2,v67)] 101 w fun v68 w69=>ksem Tryz.prog (Builtin.append_ #[48,48] 0 #[v66,v68]) w69 fun v70 w71=>ai 3 x3 fun v72=>bj 1 v72 v70 w71 fun w73=>Ih x0 x2 x3 x4 J3 Q w73
def Cj x6 x0 x2 x3 x4 x5 (J7:Value→World→Prop) (J3:Value→World→Prop) (Q:PQ) w:=kN x0<|ai 3 x0 fun v29=>aw v29 w fun v30=>bz (some (.slice 101)) (some 2) v30 x4 fun v31=>ai 1 v31 fun v32=>aw v32 w fun v33=>aU v33 fun v34=>kint .i64 .lss x6 v34 fun v36=>kB v36 fun b75=>aA b75 (Ig x0 x2 x3 x4 x5 x6 J7 J3 Q w) (Ci x0 x2 x3 x4 x5 J3 Q w)
def Ii x0 x2 x3 x4 (J3:Value→World→Prop) (Q:PQ) w:=kN x0<|ai 3 x0 fun v20=>aw v20 w fun v21=>bz (some (.slice 101)) (some 2) v21 x4 fun v22=>ai 0 v22 fun v23=>aw v23 w fun v24=>aP [.int .i64 0,.slice none 0 0] [(0,1,v24)] fun v25=>knew #[.int .i64 0,.slice none 0 0] 101 w fun v26 w27=>bj 2 v26 v25 w27 fun w28=>kL fun(I:Value→World→Prop) (μ:Value→World→Nat)=>I (.int .i64 0) w28∧∀(x6:Value) (w1:World),I x6 w1→Cj x6 x0 x2 x3 x4 v26 (fun y6 w2=>I y6 w2∧μ y6 w2<μ x6 w1) J3 Q w1
def Ij x2 x3 (Q:PQ) w:=aB 5 x3 w fun v76=>bj 5 x2 v76 w fun w77=>aB 5 x2 w77 fun v78=>Q v78 w77
def Ik x4 x0 x2 x3 (J3:Value→World→Prop) (Q:PQ) w:=kN x0<|ai 3 x0 fun v15=>aw v15 w fun v16=>aU v16 fun v17=>kint .i64 .lss x4 v17 fun v19=>kB v19 fun b79=>aA b79 (Ii x0 x2 x3 x4 J3 Q w) (Ij x2 x3 Q w)
def Sy x0 (Q:PQ) w:=knew #[.int .i64 0,.int .i64 0,.int .i64 0,.slice none 0 0,.slice none 0 0] 51 w fun v1 w2=>kN x0<|ai 4 x0 fun v3=>aw v3 w2.drew fun v4=>kG (w2.drew=w2.drew)<|kN x0<|ai 5 x0 fun v5=>aw v5 w2.drew fun v6=>kG (w2.drew=w2.drew)<|kN x0<|ai 6 x0 fun v7=>aw v7 w2.drew fun v8=>kG (w2.drew=w2.drew)<|kN x0<|ai 7 x0 fun v9=>aw v9 w2.drew fun v10=>kG (w2.drew=w2.drew)<|aP [.int .i64 0,.int .i64 0,.int .i64 0,.slice none 0 0,.slice none 0 0] [(0,1,v4),(1,1,v6),(2,1,v8),(4,1,v10)] fun v11=>knew #[.int .i64 0,.int .i64 0,.int .i64 0,.slice none 0 0,.slice none 0 0] 51 w2.drew fun v12 w13=>kG (aw v9 w13 fun v83=>v83=v10∧w13=w13)<|kG (aw v7 w13 fun v82=>v82=v8∧w13=w13)<|kG (aw v5 w13 fun v81=>v81=v6∧w13=w13)<|kG (aw v3 w13 fun v80=>v80=v4∧w13=w13)<|bj 5 v12 v11 w13 fun w14=>kL fun(I:Value→World→Prop) (μ:Value→World→Nat)=>I (.int .i64 0) w14∧∀(x4:Value) (w1:World),I x4 w1→Ik x4 x0 v1 v12 (fun y4 w2=>I y4 w2∧μ y4 w2<μ x4 w1) Q w1
theorem LY (h:Sy x0 Q w):af Tryz.prog 13 #[x0] w Q :=
 ax (c:=Tryz.f13.body.get rfl) [(3,[4]),(7,[6])] Tryz.func13 rfl rfl (args:=[x0]) rfl (by kernel_rfl) h
def f11 x0 x1 (Q:PQ) w:=knew (Value.cells x0) 51 w fun v1 w2=>knew (Value.cells x1) 51 w2 fun v3 w4=>ai 0 v1 fun v5=>aw v5 w4 fun v6=>ai 0 v3 fun v7=>aw v7 w4 fun v8=>kint .i64 .eql v6 v8 fun v9=>kB v9 fun b10=>aA b10 (ai 1 v1 fun v11=>aw v11 w4 fun v12=>ai 1 v3 fun v13=>aw v13 w4 fun v14=>kint .i64 .eql v12 v14 fun v15=>kB v15 fun b16=>aA b16 (ai 2 v1 fun v17=>aw v17 w4 fun v18=>ai 2 v3 fun v19=>aw v19 w4 fun v20=>kint .i64 .eql v18 v20 fun v21=>kB v21 fun b22=>aA b22 (ai 3 v1 fun v23=>aw v23 w4 fun v24=>ai 3 v3 fun v25=>aw v25 w4 fun v26=>ae Tryz.prog 23 #[v24,v26] w4 fun v27 w28=>kB v27 fun b29=>aA b29 (ai 4 v1 fun v30=>aw v30 w28 fun v31=>ai 4 v3 fun v32=>aw v32 w28 fun v33=>ae Tryz.prog 19 #[v31,v33] w28 fun v34 w35=>Q v34 w35) (Q (.bool false) w28)) (Q (.bool false) w4)) (Q (.bool false) w4)) (Q (.bool false) w4)
theorem LZ (h:f11 x0 x1 Q w):af Tryz.prog 11 #[x0,x1] w Q :=
 ax (c:=Tryz.f11.body.get rfl) [] Tryz.func11 rfl rfl (args:=[x0,x1]) rfl (by kernel_rfl) h
def Il (x0 x1:Value) x5 (J4:Value→World→Prop) (Q:PQ) w:=kint .i64 .add x5 (.int .i64 1) fun v26=>J4 v26 w
def Ck x0 x1 x5 x41 (J4:Value→World→Prop) (Q:PQ) w:=kB x41 fun b27=>aA b27 (Q (.bool false) w) (Il x0 x1 x5 J4 Q w)
def Im x0 x1 x5 (J4:Value→World→Prop) (Q:PQ) (w:World):=bz (some (.slice 101)) (some 2) x0 x5 fun v9=>ai 0 v9 fun v10=>aw v10 w.drew fun v11=>kG (w.drew=w.drew)<|bz (some (.slice 101)) (some 2) x1 x5 fun v12=>ai 0 v12 fun v13=>aw v13 w.drew fun v14=>kG (w.drew=w.drew)<|kint .i64 .neq v11 v14 fun v15=>kB v15 fun b16=>aA (!b16) (bz (some (.slice 101)) (some 2) x0 x5 fun v17=>ai 1 v17 fun v18=>aw v18 w.drew fun v19=>kG (w.drew=w.drew)<|bz (some (.slice 101)) (some 2) x1 x5 fun v20=>ai 1 v20 fun v21=>aw v21 w.drew fun v22=>kG (w.drew=w.drew)<|ae Tryz.prog 54 #[v19,v22] w.drew fun v23 w24=>kun .not (some .bool) v23 fun v25=>Ck x0 x1 x5 v25 J4 Q w24) (Ck x0 x1 x5 (.bool true) J4 Q w.drew)
def Io (Q:PQ) w:=Q (.bool true) w
def Ip x5 x0 x1 (J4:Value→World→Prop) (Q:PQ) w:=aU x0 fun v6=>kint .i64 .lss x5 v6 fun v8=>kB v8 fun b28=>aA b28 (Im x0 x1 x5 J4 Q w) (Io Q w)
def Iq x0 x1 (Q:PQ) w:=kL fun(I:Value→World→Prop) (μ:Value→World→Nat)=>I (.int .i64 0) w∧∀(x5:Value) (w1:World),I x5 w1→Ip x5 x0 x1 (fun y5 w2=>I y5 w2∧μ y5 w2<μ x5 w1) Q w1
def f23 x0 x1 (Q:PQ) w:=aU x0 fun v1=>aU x1 fun v3=>kint .i64 .neq v1 v3 fun v5=>kB v5 fun b29=>aA b29 (Q (.bool false) w) (Iq x0 x1 Q w)
theorem L0 (h:f23 x0 x1 Q w):af Tryz.prog 23 #[x0,x1] w Q :=
 ax (c:=Tryz.f23.body.get rfl) [(4,[5])] Tryz.func23 rfl rfl (args:=[x0,x1]) rfl (by kernel_rfl) h
def Cl x1 x6 x7 (Q:PQ) (w:World):=bk .u64 x1 fun v6=>kint .u64 .rem x7 v6 fun v7=>bk .i64 v7 fun v8=>Q (.tuple #[x6,v8]) w.drew
def PB x0 x1 (Q:PQ) w:=ae Tryz.prog 180 #[x0] w fun v1 w2=>aE v1 0 fun v3=>aE v1 1 fun v4=>kint .i64 .leq x1 (.int .i64 0) fun v5=>kB v5 fun b9=>aA b9 (Q (.tuple #[v3,.int .i64 0]) w2) (Cl x1 v3 v4 Q w2)
theorem Fb (h:PB x0 x1 Q w):af Tryz.prog 140 #[x0,x1] w Q :=
 ax (c:=Tryz.f140.body.get rfl) [] Tryz.func140 rfl rfl (args:=[x0,x1]) rfl (by kernel_rfl) h
def pU (x0 x1:Value) x5 x6 (J3:Value→Value→World→Prop) (Q:PQ) w:=kint .i64 .add x6 (.int .i64 1) fun v16=>J3 x5 v16 w
def Cm x0 x1 x5 x6 (J3:Value→Value→World→Prop) (Q:PQ) w:=bz (some (.slice 95)) (some 6) x0 x6 fun v6=>ai 0 v6 fun v7=>aw v7 w fun v8=>kint .i64 .neq v8 x1 fun v9=>kB v9 fun b17=>aA b17 (bz (some (.slice 95)) (some 6) x0 x6 fun v10=>aB 6 v10 w fun v11=>ay [.int .i64 0,.int .i64 0,.int .i64 0,.int .i64 0,.int .i64 0,.int .i64 0] 1 [(0,6,v11)] 95 w fun v12 w13=>ksem Tryz.prog (Builtin.append_ #[90,90] 0 #[x5,v12]) w13 fun v14 w15=>pU x0 x1 v14 x6 J3 Q w15) (pU x0 x1 x5 x6 J3 Q w)
def Cn x5 (Q:PQ) w:=Q x5 w
def Co x5 x6 x0 x1 (J3:Value→Value→World→Prop) (Q:PQ) w:=aU x0 fun v3=>kint .i64 .lss x6 v3 fun v5=>kB v5 fun b18=>aA b18 (Cm x0 x1 x5 x6 J3 Q w) (Cn x5 Q w)
def PC x0 x1 (Q:PQ) w:=ay [.int .i64 0,.int .i64 0,.int .i64 0,.int .i64 0,.int .i64 0,.int .i64 0] 0 [] 95 w fun v1 w2=>kL fun(I:Value→Value→World→Prop) (μ:Value→Value→World→Nat)=>I v1 (.int .i64 0) w2∧∀(x5 x6:Value) (w1:World),I x5 x6 w1→Co x5 x6 x0 x1 (fun y5 y6 w2=>I y5 y6 w2∧μ y5 y6 w2<μ x5 x6 w1) Q w1
theorem Fc (h:PC x0 x1 Q w):af Tryz.prog 139 #[x0,x1] w Q :=
 ax (c:=Tryz.f139.body.get rfl) [(3,[5,6])] Tryz.func139 rfl rfl (args:=[x0,x1]) rfl (by kernel_rfl) h
def nh (Q:PQ) w:=Q (.int .i64 0) w
def tu x0 x3 (Q:PQ) w:=kN x0<|ai 4 x0 fun v29=>aw v29 w fun v30=>kint .i64 .add v30 (.int .i64 1) fun v31=>kN x0<|ai 4 x0 fun v32=>bj 1 v32 v31 w fun w33=>(ay [.int .i64 0,.int .i64 0,.int .u32 0,.int .i64 0] 0 [] 130 w33.drew fun v34 w35=>(kN x0<|ai 3 x0 fun v36=>aw v36 w35 fun v37=>kG (w35=w35)<|kG (aw v36 w33.drew fun v50=>v50=v37∧w33.drew=w33.drew)<|ksem Tryz.prog (Builtin.append_ #[75,75] 0 #[v34,v37]) w35 fun v38 w39=>aB 4 x3 w39 fun v40=>kG (w39=w39)<|kG (aB 4 x3 w35 fun v49=>v49=v40∧w35=w35)<|kG (aB 4 x3 w33.drew fun v48=>v48=v40∧w33.drew=w33.drew)<|ay [.int .i64 0,.int .i64 0,.int .u32 0,.int .i64 0] 1 [(0,4,v40)] 130 w39 fun v41 w42=>kG (aw v36 w42 fun v47=>v47=v37∧w42=w42)<|ksem Tryz.prog (Builtin.append_ #[75,75] 0 #[v38,v41]) w42 fun v43 w44=>kN x0<|ai 3 x0 fun v45=>bj 1 v45 v43 w44 fun w46=>nh Q w46)∧(aB 4 x3 w35 fun v51=>kG (w35=w35)<|kG (aB 4 x3 w33.drew fun v65=>v65=v51∧w33.drew=w33.drew)<|ay [.int .i64 0,.int .i64 0,.int .u32 0,.int .i64 0] 1 [(0,4,v51)] 130 w35 fun v52 w53=>kN x0<|ai 3 x0 fun v54=>aw v54 w53 fun v55=>kG (w53=w53)<|kG (aw v54 w35 fun v64=>v64=v55∧w35=w35)<|kG (aw v54 w33.drew fun v63=>v63=v55∧w33.drew=w33.drew)<|ksem Tryz.prog (Builtin.append_ #[75,75] 0 #[v34,v55]) w53 fun v56 w57=>kG (aB 4 x3 w57 fun v62=>v62=v51∧w57=w57)<|ksem Tryz.prog (Builtin.append_ #[75,75] 0 #[v56,v52]) w57 fun v58 w59=>kN x0<|ai 3 x0 fun v60=>bj 1 v60 v58 w59 fun w61=>nh Q w61))∧(aB 4 x3 w33.drew fun v66=>kG (w33.drew=w33.drew)<|ay [.int .i64 0,.int .i64 0,.int .u32 0,.int .i64 0] 1 [(0,4,v66)] 130 w33.drew fun v67 w68=>ay [.int .i64 0,.int .i64 0,.int .u32 0,.int .i64 0] 0 [] 130 w68 fun v69 w70=>kG (aB 4 x3 w70 fun v82=>v82=v66∧w70=w70)<|kN x0<|ai 3 x0 fun v71=>aw v71 w70 fun v72=>kG (w70=w70)<|kG (aw v71 w68 fun v81=>v81=v72∧w68=w68)<|kG (aw v71 w33.drew fun v80=>v80=v72∧w33.drew=w33.drew)<|ksem Tryz.prog (Builtin.append_ #[75,75] 0 #[v69,v72]) w70 fun v73 w74=>kG (aB 4 x3 w74 fun v79=>v79=v66∧w74=w74)<|ksem Tryz.prog (Builtin.append_ #[75,75] 0 #[v73,v67]) w74 fun v75 w76=>kN x0<|ai 3 x0 fun v77=>bj 1 v77 v75 w76 fun w78=>nh Q w78)
def Cp x0 x3 (Q:PQ) (w:World):=kN x0<|ai 4 x0 fun v19=>aw v19 w.drew fun v20=>kG (w.drew=w.drew)<|kN x0<|ai 2 x0 fun v21=>aw v21 w.drew fun v22=>kG (w.drew=w.drew)<|kint .i64 .geq v20 v22 fun v23=>kB v23 fun b83=>aA b83 (kN x0<|ai 5 x0 fun v24=>aw v24 w.drew fun v25=>kint .i64 .add v25 (.int .i64 1) fun v26=>kN x0<|ai 5 x0 fun v27=>bj 1 v27 v26 w.drew fun w28=>Q (.int .i64 6) w28) (tu x0 x3 Q w.drew)
def kJ x0 x3 x6 (Q:PQ) w:=kun .not (some .bool) x6 fun v18=>kB v18 fun b84=>aA b84 (Q (.int .i64 1) w) (Cp x0 x3 Q w)
def pV x0 x3 x5 x6 x25 (Q:PQ) w:=kB x25 fun b93=>aA b93 (ai 3 x3 fun v86=>aw v86 w fun v87=>kint .i64 .geq v87 (.int .i64 0) fun v88=>kB v88 fun b89=>aA b89 (ai 3 x3 fun v90=>aw v90 w fun v91=>kint .i64 .lss v91 x5 fun v92=>kJ x0 x3 v92 Q w) (kJ x0 x3 (.bool false) Q w)) (kJ x0 x3 x6 Q w)
def PD x0 x1 (Q:PQ) w:=knew (Value.cells x1) 130 w fun v1 w2=>kN x0<|ai 0 x0 fun v3=>ai 0 v3 fun v4=>aw v4 w2 fun v5=>aU v5 fun v6=>ai 0 v1 fun v8=>aw v8 w2 fun v9=>kint .i64 .eql v9 (.int .i64 2) fun v10=>ai 0 v1 fun v11=>aw v11 w2 fun v12=>kint .i64 .eql v12 (.int .i64 1) fun v13=>kB v13 fun b96=>aA b96 (ai 2 v1 fun v14=>aw v14 w2 fun v15=>kint .u32 .shr v15 v6 fun v16=>kint .u32 .eql v16 (.int .u32 0) fun v17=>kJ x0 v1 v17 Q w2) (kint .i64 .eql v12 (.int .i64 3) fun v85=>kB v85 fun b95=>aA b95 (pV x0 v1 v6 v10 v85 Q w2) (kint .i64 .eql v12 (.int .i64 4) fun v94=>pV x0 v1 v6 v10 v94 Q w2))
theorem Fd (h:PD x0 x1 Q w):af Tryz.prog 141 #[x0,x1] w Q :=
 ax (c:=Tryz.f141.body.get rfl) [] Tryz.func141 rfl rfl (args:=[x0,x1]) rfl (by kernel_rfl) h
def PE (x0 x1:Value) x5 (J4:Value→World→Prop) (Q:PQ) w:=kint .i64 .add x5 (.int .i64 1) fun v15=>J4 v15 w
def PF x0 x1 x5 (J4:Value→World→Prop) (Q:PQ) (w:World):=bz (some (.slice 130)) (some 4) x0 x5 fun v9=>aB 4 v9 w.drew fun v10=>kG (w.drew=w.drew)<|bz (some (.slice 130)) (some 4) x1 x5 fun v11=>aB 4 v11 w.drew fun v12=>kG (w.drew=w.drew)<|keq Tryz.prog .neq 130 false false v10 v12 w.drew fun v13 w14=>kG (w14=w.drew)<|kB v13 fun b16=>aA b16 (Q (.bool false) w14) (PE x0 x1 x5 J4 Q w14)
def PG (Q:PQ) w:=Q (.bool true) w
def PH x5 x0 x1 (J4:Value→World→Prop) (Q:PQ) w:=aU x0 fun v6=>kint .i64 .lss x5 v6 fun v8=>kB v8 fun b17=>aA b17 (PF x0 x1 x5 J4 Q w) (PG Q w)
def PI x0 x1 (Q:PQ) w:=kL fun(I:Value→World→Prop) (μ:Value→World→Nat)=>I (.int .i64 0) w∧∀(x5:Value) (w1:World),I x5 w1→PH x5 x0 x1 (fun y5 w2=>I y5 w2∧μ y5 w2<μ x5 w1) Q w1
def f25 x0 x1 (Q:PQ) w:=aU x0 fun v1=>aU x1 fun v3=>kint .i64 .neq v1 v3 fun v5=>kB v5 fun b18=>aA b18 (Q (.bool false) w) (PI x0 x1 Q w)
def PJ x0 (Q:PQ) w:=ae Tryz.prog 209 #[x0] w fun v1 w2=>ae Tryz.prog 209 #[x0] w2 fun v3 w4=>bk .u64 v3 fun v5=>ae Tryz.prog 210 #[v5] w4 fun v6 w7=>Q (.tuple #[v1,v6]) w7
theorem Fe (h:PJ x0 Q w):af Tryz.prog 180 #[x0] w Q :=
 ax (c:=Tryz.f180.body.get rfl) [] Tryz.func180 rfl rfl (args:=[x0]) rfl (by kernel_rfl) h
def PK x0 (Q:PQ) w:=bk .u64 x0 fun v1=>kint .u64 .add v1 (.int .u64 11400714819323198485) fun v2=>bk .i64 v2 fun v3=>Q v3 w
theorem Ff (h:PK x0 Q w):af Tryz.prog 209 #[x0] w Q :=
 ax (c:=Tryz.f209.body.get rfl) [] Tryz.func209 rfl rfl (args:=[x0]) rfl (by kernel_rfl) h
def PL x0 (Q:PQ) w:=kint .u64 .shr x0 (.int .u64 30) fun v1=>kint .u64 .xor x0 v1 fun v2=>kint .u64 .mul v2 (.int .u64 13787848793156543929) fun v3=>kint .u64 .shr v3 (.int .u64 27) fun v4=>kint .u64 .xor v3 v4 fun v5=>kint .u64 .mul v5 (.int .u64 10723151780598845931) fun v6=>kint .u64 .shr v6 (.int .u64 31) fun v7=>kint .u64 .xor v6 v7 fun v8=>Q v8 w
theorem Fg (h:PL x0 Q w):af Tryz.prog 210 #[x0] w Q :=
 ax (c:=Tryz.f210.body.get rfl) [] Tryz.func210 rfl rfl (args:=[x0]) rfl (by kernel_rfl) h
end
section
attribute [local irreducible] kO kB bG bH kN kG aA ai aw aB bj knew bB aP ay aE bk aD aU bC bD a8 kbool kint kstr keq kun ksl bz cQ kta kmk kmm ksem ksemU bd aI aL ae kL
def cY (q:Part) (s:List Part×Bool) (x:Part):List Part×Bool:=if s.2=false∧q.comp<x.comp then(s.1++[q]++[x],true) else(s.1++[x],s.2)
def dw (q:Part) (l:List Part):List Part×Bool:=l.foldl (cY q) ([],false)
def jm (l:List Part) (q:Part):List Part:=if (dw q l).2=true then(dw q l).1 else(dw q l).1++[q]
def withoutF (l:List Part) (c:Int):List Part:=l.filter fun x=>decide (x.comp≠c)
def Fh (l:List Part) (c:Int):Int:=match l.findIdx? (dR c)with
 | some i=>(i:Int)
 | none=> -1
theorem tw (q:Part) {l:List Part} {i:Nat} (h:i<l.length):dw q (l.take (i+1))=cY q (dw q (l.take i)) l[i]:=by
 unfold dw;rw[List.take_succ_eq_append_getElem h,List.foldl_append];rfl
theorem wG (q:Part) (s:List Part×Bool) (x:Part):(cY q s x).1.length≤s.1.length+2:=by
 unfold cY;split
 ·simp
 ·simp
theorem oD (q:Part):∀(l:List Part) (s:List Part×Bool),(l.foldl (cY q) s).1.length≤s.1.length+2*l.length
 | [],s=>Nat.le_refl _
 | x::l,s=>by
  have:=oD q l (cY q s x);have:=wG q s x;show(l.foldl (cY q) (cY q s x)).1.length≤_;rw[List.length_cons]; omega
theorem oE (q:Part):∀(l:List Part) (a:List Part),(∀x∈l,x.comp≤q.comp)→l.foldl (cY q) (a,false)=(a++l,false)
 | [],a,_=>by rw[List.append_nil]; rfl
 | x::l,a,h=>by
  have hx:=h x List.mem_cons_self;have e:cY q (a,false) x=(a++[x],false):=by
   unfold cY;rw[if_neg];rintro⟨_,h2⟩;omega
  show l.foldl (cY q) (cY q (a,false) x)=_;rw[e,oE q l (a++[x]) fun y hy=>h y (List.mem_cons_of_mem _ hy),List.append_assoc];rfl
theorem ni (q:Part):∀(l:List Part) (a:List Part),l.foldl (cY q) (a,true)=(a++l,true)
 | [],a=>by rw[List.append_nil]; rfl
 | x::l,a=>by
  have e:cY q (a,true) x=(a++[x],true):=by
   unfold cY;rw[if_neg];rintro⟨h1,_⟩;cases h1
  show l.foldl (cY q) (cY q (a,true) x)=_;rw[e,ni q l (a++[x]),List.append_assoc];rfl
theorem wH {q:Part} (h:∀x∈l,x.comp≤q.comp):jm l q=l++[q]:=by
 unfold jm dw;rw[oE q l [] h,List.nil_append,if_neg (by simp)]
theorem oG {q:Part}:∀{l:List Part},l.Pairwise (fun x y=>x.comp<y.comp)→(∃x∈l,x.comp=q.comp)→∀a,(withoutF l q.comp).foldl (cY q) (a,false)=((a++l.map fun x=>if x.comp=q.comp then q else x),true)∨(withoutF l q.comp).foldl (cY q) (a,false)=((a++withoutF l q.comp),false)∧a++withoutF l q.comp++[q]=a++l.map fun x=>if x.comp=q.comp then q else x
 | [],_,⟨x,hx,_⟩,_=>by cases hx
 | y::l,hp,⟨x,hx,hxq⟩,a=>by
  rw[List.pairwise_cons]at hp;by_cases hy:y.comp=q.comp
  ·have hgt:∀z∈l,q.comp<z.comp:=fun z hz=>by have:=hp.1 z hz; omega
   have e1:withoutF (y::l) q.comp=l:=by
    unfold withoutF;rw[List.filter_cons_of_neg (by simpa using hy)];exact List.filter_eq_self.2 fun z hz=>by have:=hgt z hz; simp; omega
   have e2:(y::l).map (fun x=>if x.comp=q.comp then q else x)=q::l:=by
    rw[List.map_cons,if_pos hy];congr 1;rw[List.map_congr_left (g:=fun x=>x) fun z hz=>by rw[if_neg]; have:=hgt z hz; omega];exact List.map_id' l
   rw[e1,e2];cases l with
   | nil=>right; exact⟨by rw[List.append_nil]; rfl,by rw[List.append_nil]⟩
   | cons z l =>
    left;have e:cY q (a,false) z=(a++[q]++[z],true):=by
     unfold cY;rw[if_pos ⟨rfl,hgt z List.mem_cons_self⟩]
    show l.foldl (cY q) (cY q (a,false) z)=_;rw[e,ni];simp
  ·have hx':x∈l:=by
    rcases List.mem_cons.1 hx with e | e
    ·subst e; exact absurd hxq hy
    ·exact e
   have hlt:y.comp<q.comp:=by have:=hp.1 x hx'; omega
   have e1:withoutF (y::l) q.comp=y::withoutF l q.comp:=by
    unfold withoutF;rw[List.filter_cons_of_pos (by simpa using hy)]
   have e:cY q (a,false) y=(a++[y],false):=by
    unfold cY;rw[if_neg];rintro⟨_,h2⟩;omega
   rw[e1,List.map_cons,if_neg hy];have ih:=oG (q:=q) hp.2 ⟨x,hx',hxq⟩ (a++[y]);show(withoutF l q.comp).foldl (cY q) (cY q (a,false) y)=_∨(withoutF l q.comp).foldl (cY q) (cY q (a,false) y)=_∧_;rw[e];rcases ih with ih | ⟨ih1,ih2⟩
   ·left; rw[ih]; simp
   ·right;refine⟨by rw[ih1]; simp,?_⟩;simpa using ih2
theorem nH {l:List Part} {q:Part} (hp:l.Pairwise fun x y=>x.comp<y.comp) (hx:∃x∈l,x.comp=q.comp):jm (withoutF l q.comp) q=l.map fun x=>if x.comp=q.comp then q else x:=by
 unfold jm dw;rcases oG hp hx []with h | ⟨h1,h2⟩
 ·rw[h,if_pos rfl]; rfl
 ·rw[h1,if_neg (by simp)];simpa using h2
structure lp (w:World) (P:List Part) (x:Value) (wr:World):Prop where
 own:bV wr x 6 (P.flatMap Part.cells)
 lo:∀k,bf x k→w.heap.size≤k
 same:Same w wr
theorem lp.loc (h:lp w P x wr) (m:Same wr ws):lp w P x ws:=⟨h.own.same m,h.lo,h.same.trans m⟩
theorem lp.read (h:lp w P x wr):∃a c,x=.slice a P.length c∧aZ wr a P.length 6 (P.flatMap Part.cells):=by
 obtain⟨a,n,c,rfl,hs,_⟩:=h.own.is;have:=hs.1;rw[flat_len Part.cells 6 (fun _=>rfl)]at this;obtain rfl:n=P.length:=by omega
 exact⟨a,c,rfl,hs⟩
theorem lp.app (h:lp w P x wr) (hn:P.length≤1000) (q:Part) {K:Value→World→Prop} (hK:∀y w',lp w (P++[q]) y w'→K y w') :
  ay [.int .i64 0,.int .i64 0,.int .i64 0,.int .i64 0,.int .i64 0,.int .i64 0] 1 [(0,6,.agg q.cells.toArray)] 95 wr fun v w'=>ksem Tryz.prog (Builtin.append_ #[90,90] 0 #[x,v]) w' K:=by
 refine aR (cs:=q.cells) rfl fun w24 h24 hs24 hb24=>?_;have hfl:=flat_len Part.cells 6 (fun _=>rfl) P;refine be pR (by omega) (h.own.same h24) (Src.ofSlIs (hk:=jy.choose_spec) 1 (aZ.blk hb24 rfl) rfl) (by rw[hfl]; show P.length*6+6≤_; omega) (by rw[hfl]; show _; simp[Part.cells]; omega) ?_;intro v' w4 ho4 hm4 hf4;refine hK v' w4 ⟨by simpa using ho4,fun k hk=>?_,(h.same.trans h24).trans' (hm4.mono fun k _ e=>.inr (h.lo k e))⟩;rcases hf4 k hk with e | e
 ·exact h.lo k e
 ·exact Nat.le_trans (h.same.trans h24).size e
section
variable {w:World} {a:Option Addr} {P:List Part} {cp:Nat}
theorem Ir (hs:aZ w a P.length 6 (P.flatMap Part.cells)) (hn:P.length≤100) (q:Part):af Tryz.prog 126 #[.slice a P.length cp,.agg q.cells.toArray] w fun v w'=>lp w (jm P q) v w':=by
 refine EX ?_;unfold O8;refine ar fun w2 h2 hs2 hb2=>?_;have hb2:aX w2 w.heap.size=some (.cells q.cells.toArray 95):=hb2;refine aR (cs:=[]) rfl fun w4 h4 hs4 hb4=>?_;have hs':=hs.same h2;have up:∀{P':List Part} {x:Value} {ws:World},lp w2 P' x ws→lp w P' x ws:=fun hk=>⟨hk.own,fun k hv=>Nat.le_trans h2.size (hk.lo k hv),h2.trans hk.same⟩
 refine oT P.length (fun i x y z wr=>lp w2 (dw q (P.take i)).1 x wr∧y=.bool (dw q (P.take i)).2∧z=.int .i64 i) ⟨tM ⟨⟨bV.blk hb4 (n:=0) (by simp) (by simp[maxLen]),fun k hk=>by rw[cg hk]; exact Nat.le_refl _,h4⟩,rfl,rfl⟩,fun x y z wr hx=>?_⟩;obtain⟨i,hi,⟨hMk,rfl,rfl⟩,hJ⟩:=jQ hx;have hmr:=hMk.same;have hbr:=hmr.get hb2 (fun h=>h);have hsr:=hs'.same hmr;have hfl:(dw q (P.take i)).1.length≤2*i:=by
  have:=oD q (P.take i) ([],false);rw[List.length_take]at this;have h0:([]:List Part).length=0:=rfl;have:(dw q (P.take i)).1.length≤([]:List Part).length+2*min i P.length:=this;omega
 unfold BD;refine aK ?_;refine aM ?_;refine ac ?_;refine am (fun hlt=>?_) (fun hge=>?_)
 ·have hlt:i<P.length:=by omega
  have hft:=tw q hlt;have hJ':∀x' w',lp w2 (cY q (dw q (P.take i)) P[i]).1 x' w'→lI P.length (jO fun i x y z wr=>lp w2 (dw q (P.take i)).1 x wr∧y=.bool (dw q (P.take i)).2∧z=.int .i64 i) (x',.bool (cY q (dw q (P.take i)) P[i]).2,.int .i64 ((i+1:Nat):Int),w')∧lM P.length (jO fun i x y z wr=>lp w2 (dw q (P.take i)).1 x wr∧y=.bool (dw q (P.take i)).2∧z=.int .i64 i) (x',.bool (cY q (dw q (P.take i)) P[i]).2,.int .i64 ((i+1:Nat):Int),w')<lM P.length (jO fun i x y z wr=>lp w2 (dw q (P.take i)).1 x wr∧y=.bool (dw q (P.take i)).2∧z=.int .i64 i) (x,.bool (dw q (P.take i)).2,.int .i64 i,wr):=fun x' w' hk=>hJ _ _ _ _ hlt ⟨by rw[hft]; exact hk,by rw[hft],rfl⟩;generalize dw q (P.take i)=s at *;obtain⟨acc,done⟩:=s;have last:∀(b':Bool) (acc':List Part) (x':Value) (ws:World),acc'.length≤300→lp w2 acc' x' ws→cY q (acc,done) P[i]=(acc'++[P[i]],b')→pN (.slice a P.length cp) (.pointer (some ⟨w.heap.size,0,none⟩)) x' (.bool b') (.int .i64 i) (fun y5 y6 y7 w2_1=>lI P.length (jO fun i x y z wr=>lp w2 (dw q (P.take i)).1 x wr∧y=.bool (dw q (P.take i)).2∧z=.int .i64 i) (y5,y6,y7,w2_1)∧lM P.length (jO fun i x y z wr=>lp w2 (dw q (P.take i)).1 x wr∧y=.bool (dw q (P.take i)).2∧z=.int .i64 i) (y5,y6,y7,w2_1)<lM P.length (jO fun i x y z wr=>lp w2 (dw q (P.take i)).1 x wr∧y=.bool (dw q (P.take i)).2∧z=.int .i64 i) (x,.bool done,.int .i64 i,wr)) (fun v w'=>lp w (jm P q) v w') ws:=by
   intro b' acc' x' ws hal hk he;unfold pN;refine cK (F:=Part.cells) (sz:=6) (fun _=>rfl) (by omega) (hs'.same hk.same) hlt rfl ?_;refine hk.app (by omega) _ fun y wt hy=>?_;unfold Bz;refine aY (by omega) (by omega) ?_;rw[a7];have:=hJ' y wt (by rw[he]; exact hy);rw[he]at this;exact this
  have hfl:acc.length≤2*i:=hfl;unfold BA;refine bP ?_;refine ac ?_;cases done with
  | false =>
   refine aN rfl ?_;refine bL (F:=Part.cells) (sz:=6) (fun _=>rfl) (j:=0) hsr hlt rfl rfl ?_;refine ah rfl ?_;have md:Same wr wr.drew:=(aH.refl (fun _=>False) _).drew;have hMd:=hMk.loc md;have hbd:=md.get hbr (fun h=>h);refine aa ?_;refine aj hbd rfl ?_;refine ah rfl ?_;refine bO ?_;unfold pO;refine ac ?_;refine am (fun hg=>?_) (fun hg=>last false acc _ _ (by omega) hMd (by unfold cY; rw[if_neg (fun e=>hg (by omega))]));refine au hbd rfl (by omega) ?_;exact hMd.app (by omega) _ fun y wt hy=>last true (acc++[q]) _ _ (by rw[List.length_append,List.length_singleton]; omega) hy (by unfold cY; rw[if_pos ⟨rfl,by omega⟩])
  | true =>
   refine az rfl ?_;unfold pO;refine ac ?_;refine az rfl ?_;exact last true acc _ _ (by omega) (hMk.loc (aH.refl (fun _=>False) _).drew) (by unfold cY; rw[if_neg (fun e=>by cases e.1)])
 ·have hi':i=P.length:=by omega
  subst hi';rw[List.take_length]at hMk hfl ⊢;unfold jm;unfold BC;refine bP ?_;refine ac ?_;cases hd:(dw q P).2 with
  | false =>
   refine aN rfl ?_;refine au hbr rfl (by omega) ?_;rw[if_neg (by simp)];exact hMk.app (by omega) _ fun y wt hy=>up hy
  | true =>
   refine az rfl ?_;rw[if_pos rfl];exact up hMk
theorem Cq (hs:aZ w a P.length 6 (P.flatMap Part.cells)) (hn:P.length≤100) (c:Int):af Tryz.prog 139 #[.slice a P.length cp,.int .i64 c] w fun v w'=>lp w (withoutF P c) v w':=by
 refine Fc ?_;unfold PC;refine aR (cs:=[]) rfl fun w4 h4 hs4 hb4=>?_;refine ib P.length (fun i x z wr=>lp w (withoutF (P.take i) c) x wr∧z=.int .i64 i) ⟨jP ⟨⟨bV.blk hb4 (n:=0) (by simp[withoutF]) (by simp[maxLen]),fun k hk=>by rw[cg hk]; exact Nat.le_refl _,h4⟩,rfl⟩,fun x z wr hx=>?_⟩;obtain⟨i,hi,⟨hMk,rfl⟩,hJ⟩:=eX hx;have hsr:=hs.same hMk.same;have hfl:(withoutF (P.take i) c).length≤P.length:=Nat.le_trans (List.length_filter_le _ _) (by rw[List.length_take]; omega);unfold Co;refine aK ?_;refine aM ?_;refine ac ?_;refine am (fun hlt=>?_) (fun hge=>?_)
 ·have hlt:i<P.length:=by omega
  have htk:withoutF (P.take (i+1)) c=if P[i].comp≠c then withoutF (P.take i) c++[P[i]] else withoutF (P.take i) c:=by
   unfold withoutF;rw[List.take_succ_eq_append_getElem hlt,List.filter_append];split
   ·rename_i h; rw[List.filter_cons_of_pos (by simpa using h)]; rfl
   ·rename_i h; rw[List.filter_cons_of_neg (by simpa using h)]; simp
  unfold Cm;refine bL (F:=Part.cells) (sz:=6) (fun _=>rfl) (j:=0) hsr hlt rfl rfl ?_;refine cu ?_;refine ac ?_;refine am (fun hne=>?_) (fun hne=>?_)
  ·refine cK (F:=Part.cells) (sz:=6) (fun _=>rfl) (by omega) hsr hlt rfl ?_;refine hMk.app (by omega) _ fun y wt hy=>?_;unfold pU;refine aY (by omega) (by omega) ?_;rw[a7];exact hJ _ _ _ hlt ⟨by rw[htk,if_pos hne]; exact hy,rfl⟩
  ·unfold pU;refine aY (by omega) (by omega) ?_;rw[a7];exact hJ _ _ _ hlt ⟨by rw[htk,if_neg hne]; exact hMk,rfl⟩
 ·have hi':i=P.length:=by omega
  subst hi';rw[List.take_length]at hMk;unfold Cn;exact hMk
theorem Sz (hs:aZ w a P.length 6 (P.flatMap Part.cells)) (hn:P.length≤100) (c:Int):af Tryz.prog 125 #[.slice a P.length cp,.int .i64 c] w fun v w'=>v=.int .i64 (Fh P c)∧w'=w:=by
 refine EV ?_;unfold O6;refine cA P.length (fun i x wr=>x=.int .i64 i∧wr=w∧∀j (hj:j<P.length),j<i→dR c P[j]=false) ⟨c8 ⟨rfl,rfl,fun j _ hj=>by omega⟩,fun x wr hx=>?_⟩;obtain⟨i,hi,⟨rfl,rfl,hno⟩,hJ⟩:=bK hx;unfold Bt;refine aK ?_;refine aM ?_;refine ac ?_;refine am (fun hlt=>?_) (fun hge=>?_)
 ·have hlt:i<P.length:=by omega
  unfold Bs;refine bL (F:=Part.cells) (sz:=6) (fun _=>rfl) (j:=0) hs hlt rfl rfl ?_;refine aF ?_;refine ac ?_;refine am (fun he=>?_) (fun he=>?_)
  ·refine⟨?_,rfl⟩;have:P.findIdx? (dR c)=some i:=List.findIdx?_eq_some_iff_getElem.2 ⟨hlt,decide_eq_true he,fun j hj=>by rw[hno j (by omega) hj]; simp⟩;unfold Fh;rw[this]
  ·unfold Br;refine aY (by omega) (by omega) ?_;rw[a7];refine hJ _ _ hlt ⟨rfl,rfl,fun j hj hji=>?_⟩;by_cases e:j=i
   ·subst e; exact decide_eq_false he
   ·exact hno j hj (by omega)
 ·refine⟨?_,rfl⟩;have:P.findIdx? (dR c)=none:=List.findIdx?_eq_none_iff.2 fun x hx=>by
   obtain⟨j,hj,rfl⟩:=List.mem_iff_getElem.1 hx;exact hno j hj (by omega)
  unfold Fh;rw[this]
end
end
section
attribute [local irreducible] kO kB bG bH kN kG aA ai aw aB bj knew bB aP ay aE bk aD aU bC bD a8 kbool kint kstr keq kun ksl bz cQ kta kmk kmm ksem ksemU bd aI aL ae kL
structure wI where
 V:d8
 R:List Int
 fr:Int
 nx:Int
 sd:Int
structure dp (L:List Comp) (bv:Nat) (U:Nat→Prop) (w:World) (m:wI):Prop where
 ex:∃a cp rv la lc ga gc,∃ll:List BeV,aX w bv=some (.cells #[.slice a L.length cp,rv,.int .i64 20,.slice la ll.length lc,.int .i64 m.fr,.int .i64 m.nx,.int .i64 m.sd,.slice ga m.R.length gc,.slice none 0 0,.bool false] 73) ∧
  (aZ w a L.length 7 (L.flatMap Comp.cells)∧aZ w la ll.length 2 (ll.flatMap BeV.cells)∧(∀b∈ll,aZ w b.pa b.parts.length 6 (b.parts.flatMap Part.cells))∧aZ w ga m.R.length 1 (m.R.map nV))∧ll.map BeV.key=m.V∧rv.cells=#[rv] ∧
  (∀k f,a=some ⟨k,f,none⟩→U k∧k≠bv)∧(∀k f,la=some ⟨k,f,none⟩→U k∧k≠bv)∧(∀k f,ga=some ⟨k,f,none⟩→U k∧k≠bv)∧∀b∈ll,∀k f,b.pa=some ⟨k,f,none⟩→U k∧k≠bv
 own:U bv
section
variable {L:List Comp} {bv:Nat} {U:Nat→Prop} {w w':World} {m:wI}
theorem dp.mod {fp:Nat→Prop} (h:dp L bv U w m) (mm:aH fp w w') (hf:∀k,U k→¬fp k):dp L bv U w' m:=by
 obtain⟨⟨a,cp,rv,la,lc,ga,gc,ll,h1,⟨h2,h3,h4,h5⟩,h6,h7,k1,k2,k3,k4⟩,h8⟩:=h;exact⟨⟨a,cp,rv,la,lc,ga,gc,ll,mm.get h1 (hf _ h8),⟨h2.mod mm (fun k f e=>hf k (k1 k f e).1),h3.mod mm (fun k f e=>hf k (k2 k f e).1),fun b hb=>(h4 b hb).mod mm (fun k f e=>hf k (k4 b hb k f e).1),h5.mod mm (fun k f e=>hf k (k3 k f e).1)⟩,h6,h7,k1,k2,k3,k4⟩,h8⟩
theorem dp.same (h:dp L bv U w m) (mm:Same w w'):dp L bv U w' m:=h.mod mm fun _ _ h=>h
theorem dp.weak {U':Nat→Prop} (h:dp L bv U w m) (hs:∀k,U k→U' k):dp L bv U' w m:=by
 obtain⟨⟨a,cp,rv,la,lc,ga,gc,ll,h1,h2,h6,h7,k1,k2,k3,k4⟩,h8⟩:=h;exact⟨⟨a,cp,rv,la,lc,ga,gc,ll,h1,h2,h6,h7,fun k f e=>⟨hs k (k1 k f e).1,(k1 k f e).2⟩,fun k f e=>⟨hs k (k2 k f e).1,(k2 k f e).2⟩,fun k f e=>⟨hs k (k3 k f e).1,(k3 k f e).2⟩,fun b hb k f e=>⟨hs k (k4 b hb k f e).1,(k4 b hb k f e).2⟩⟩,hs _ h8⟩
theorem oH (h:dp L bv U w m) (u:Value):af Tryz.prog 71 #[.pointer (some ⟨bv,0,none⟩),u] w fun v w'=>Same w w':=by
 obtain⟨⟨a,cp,rv,la,lc,ga,gc,ll,hb,_⟩,_⟩:=h;refine Lv ?_;unfold Sk;refine ar fun w2 h2 hs2 hb2=>?_;refine aq ?_;refine aa ?_;refine aj (h2.get hb (fun h=>h)) rfl ?_;refine ac ?_;refine az rfl ?_;exact h2
theorem PN (h:dp L bv U w m) (h0:0≤m.fr) (hf:m.fr<1073741824):af Tryz.prog 35 #[.pointer (some ⟨bv,0,none⟩)] w fun v w'=>dp L bv U w' { m with fr:=m.fr+1 }∧aH (fun k=>k=bv) w w':=by
 refine Lr ?_;unfold Sg;obtain⟨a,cp,rv,la,lc,ga,gc,ll,hb,_⟩:=id h.ex;refine aq ?_;refine aa ?_;refine aj hb rfl ?_;refine bI ?_;refine ac ?_;refine am (fun h=>absurd h (by omega)) (fun _=>?_);unfold HA;refine aq ?_;refine aa ?_;refine aj hb rfl ?_;refine aW (cs:=[.int .i64 9,.int .i64 0,.int .i64 0,.int .i64 0,.int .i64 0,.int .i64 0,.int .i64 0,.int .i64 0,.slice none 0 0,.int .i64 0,.int .i64 m.fr]) rfl ?_;refine ab (oH h _) ?_;rintro v w8 h8;obtain⟨⟨a,cp,rv,la,lc,ga,gc,ll,hb8,⟨g2,g3,g4,g5⟩,g6,g7,k1,k2,k3,k4⟩,g8⟩:=h.same h8;refine aq ?_;refine aa ?_;refine aj hb8 rfl ?_;refine aY (by omega) (by omega) ?_;refine aq ?_;refine aa ?_;refine bJ hb8 rfl rfl (by show 4<10; omega) fun w13 h13 hs13 hb13=>?_;exact⟨⟨⟨a,cp,rv,la,lc,ga,gc,ll,hb13,⟨g2.mod h13 (fun k f e=>(k1 k f e).2),g3.mod h13 (fun k f e=>(k2 k f e).2),fun b hb=>(g4 b hb).mod h13 (fun k f e=>(k4 b hb k f e).2),g5.mod h13 (fun k f e=>(k3 k f e).2)⟩,g6,g7,k1,k2,k3,k4⟩,g8⟩,(aH.of_same h8).trans h13⟩
theorem SA (h:dp L bv U w m) (hn:m.V.length≤1000) (x:Int):af Tryz.prog 137 #[.pointer (some ⟨bv,0,none⟩),.int .i64 x] w fun v w'=>((∃i:Nat,∃hi:i<m.V.length,v=.int .i64 i∧gt m.V x=some m.V[i])∨(v=.int .i64 (-1)∧gt m.V x=none))∧w'=w:=by
 obtain⟨a,cp,rv,la,lc,ga,gc,ll,hb,⟨h2,h3,h4,h5⟩,h6,h7,k1,k2,k3,k4⟩:=id h.ex;have hll:ll.length=m.V.length:=by rw[←h6,List.length_map]
 have key:∀(i:Nat) (hi:i<ll.length),(m.V[i]'(by omega))=(ll[i]).key:=fun i hi=>by
  have:=List.getElem_of_eq h6 (i:=i) (by rw[List.length_map]; exact hi);rw[←this,List.getElem_map]
 refine E8 ?_;unfold Py;refine cA ll.length (fun i y wr=>y=.int .i64 i∧wr=w∧∀j (hj:j<m.V.length),j<i→(((m.V[j]).1:Nat):Int)≠x) ⟨c8 ⟨rfl,rfl,fun j _ hj=>by omega⟩,fun y wr hx=>?_⟩;obtain⟨i,hi,⟨rfl,rfl,hno⟩,hJ⟩:=bK hx;unfold Ce;refine aq ?_;refine aa ?_;refine aj hb rfl ?_;refine aK ?_;refine aM ?_;refine ac ?_;refine am (fun hlt=>?_) (fun hge=>?_)
 ·have hlt:i<ll.length:=by omega
  unfold Cb;refine aq ?_;refine aa ?_;refine aj hb rfl ?_;refine bL (F:=BeV.cells) (sz:=2) (fun _=>rfl) (j:=0) h3 hlt rfl rfl ?_;refine aF ?_;refine ac ?_;refine am (fun he=>?_) (fun he=>?_)
  ·refine⟨.inl ⟨i,by omega,rfl,?_⟩,rfl⟩;unfold gt;rw[List.find?_eq_some_iff_getElem];refine⟨decide_eq_true (by rw[key i hlt]; exact he),i,by omega,rfl,fun j hj=>?_⟩;have:=hno j (by omega) hj;simp[this]
  ·unfold Ca;refine aY (by omega) (by omega) ?_;rw[a7];refine hJ _ _ hlt ⟨rfl,rfl,fun j hj hji=>?_⟩;by_cases e:j=i
   ·subst e; rw[key j hlt]; exact he
   ·exact hno j hj (by omega)
 ·unfold Cc;refine⟨.inr ⟨rfl,?_⟩,rfl⟩;unfold gt;rw[List.find?_eq_none];intro y hy;obtain⟨j,hj,rfl⟩:=List.mem_iff_getElem.1 hy;have:=hno j hj (by omega);simp[this]
theorem L2 (h:dp L bv U w m) (hn:m.V.length≤1000) (hP:∀y∈m.V,y.2.length≤100) (x c:Int):af Tryz.prog 136 #[.pointer (some ⟨bv,0,none⟩),.int .i64 x,.int .i64 c] w fun v w'=>(∃(q:Part) (e:Int),v=.tuple #[.agg q.cells.toArray,.int .i64 e]∧(ge m.V x c=some q∧e=0∨ge m.V x c=none∧e≠0))∧Same w w':=by
 refine Fa ?_;unfold PA;refine ar fun w2 h2' hs2 hb2=>?_;have hx2:=h.same h2';refine ab (SA hx2 hn x) ?_;rintro v w4 ⟨hv,rfl⟩;have zst:∀{K:World→Prop},(∀w7,Same w w7→aX w7 w.heap.size=some (.cells (⟨0,0,0,0,0,0⟩:Part).cells.toArray 95)→K w7)→bj 6 (.pointer (some ⟨w.heap.size,0,none⟩)) (.agg (⟨0,0,0,0,0,0⟩:Part).cells.toArray) w4 K:=fun hK=>by
  refine aQ (vs:=(⟨0,0,0,0,0,0⟩:Part).cells) hb2 rfl rfl rfl (by simp[Part.cells]) (by simp[Part.cells]) fun w7 h7 hs7 hb7=>?_;exact hK w7 (h2'.trans' (h7.mono fun k _ e=>.inr (by omega))) hb7
 unfold ge;rcases hv with⟨i,hi,rfl,hf⟩ | ⟨rfl,hf⟩
 ·rw[hf];refine aM ?_;rw[bT (by omega)];refine ac ?_;refine az rfl ?_;obtain⟨a,cp,rv,la,lc,ga,gc,ll,hb,⟨g2,g3,g4,g5⟩,h6,h7,k1,k2,k3,k4⟩:=id hx2.ex;have hll:ll.length=m.V.length:=by rw[←h6,List.length_map]
  have hil:i<ll.length:=by omega
  have key:m.V[i]=(ll[i]).key:=by
   have:=List.getElem_of_eq h6 (i:=i) (by rw[List.length_map]; exact hil);rw[←this,List.getElem_map]
  have hpi:(ll[i]).parts.length≤100:=by
   have:=hP _ (List.getElem_mem hi);rw[key]at this; exact this
  have hsp:=g4 _ (List.getElem_mem hil);unfold Ch;refine aq ?_;refine aa ?_;refine aj hb rfl ?_;refine bL (F:=BeV.cells) (sz:=2) (fun _=>rfl) (j:=1) g3 hil rfl rfl ?_;refine ab (Sz hsp hpi c) ?_;rintro v w15 ⟨rfl,rfl⟩;have ekey:(some m.V[i]:Option (Nat×List Part)).bind (fun y=>y.2.find? (dR c))=(ll[i]).parts.find? (dR c):=by rw[key]; rfl
  rw[ekey];cases hfi:(ll[i]).parts.findIdx? (dR c)with
  | none =>
   have hno:(ll[i]).parts.find? (dR c)=none:=List.find?_eq_none.2 fun y hy=>by rw[List.findIdx?_eq_none_iff.1 hfi y hy]; simp
   have eat:Fh (ll[i]).parts c= -1:=by unfold Fh; rw[hfi]
   rw[hno,eat];refine aM ?_;rw[co (by omega)];refine ac ?_;refine aN rfl ?_;refine aW (cs:=(⟨0,0,0,0,0,0⟩:Part).cells) rfl ?_;refine zst fun w7 m7 hb7=>?_;refine au hb7 rfl (by omega) ?_;exact⟨⟨_,7,rfl,.inr ⟨rfl,by omega⟩⟩,m7⟩
  | some j =>
   obtain⟨hj,hjc,hjn⟩:=List.findIdx?_eq_some_iff_getElem.1 hfi;have hsome:(ll[i]).parts.find? (dR c)=some (ll[i]).parts[j]:=by
    rw[List.find?_eq_some_iff_getElem];exact⟨hjc,j,hj,rfl,fun k hk=>by have:=hjn k hk; simpa using this⟩
   have eat:Fh (ll[i]).parts c=(j:Int):=by unfold Fh; rw[hfi]
   rw[hsome,eat];refine aM ?_;rw[bT (by omega)];refine ac ?_;refine az rfl ?_;unfold Cg;refine aq ?_;refine aa ?_;refine aj hb rfl ?_;refine bL (F:=BeV.cells) (sz:=2) (fun _=>rfl) (j:=1) g3 hil rfl rfl ?_;refine cK (F:=Part.cells) (sz:=6) (fun _=>rfl) (by omega) hsp hj rfl ?_;refine aQ (vs:=((ll[i]).parts[j]).cells) hb2 rfl rfl rfl (by simp) (by simp[Part.cells]) fun w27 h27 hs27 hb27=>?_;have hb27:aX w27 w.heap.size=some (.cells ((ll[i]).parts[j]).cells.toArray 95):=hb27;refine au hb27 rfl (by omega) ?_;exact⟨⟨_,0,rfl,.inl ⟨rfl,rfl⟩⟩,h2'.trans' (h27.mono fun k _ e=>.inr (by omega))⟩
 ·rw[hf];refine aM ?_;rw[co (by omega)];refine ac ?_;refine aN rfl ?_;refine aW (cs:=(⟨0,0,0,0,0,0⟩:Part).cells) rfl ?_;refine zst fun w7 m7 hb7=>?_;refine au hb7 rfl (by omega) ?_;exact⟨⟨_,17,rfl,.inr ⟨rfl,by omega⟩⟩,m7⟩
theorem Is (seed:Int) (w:World):af Tryz.prog 209 #[nV seed] w fun v w'=>v=nV (j9 seed)∧w'=w:=by
 refine Ff ?_;unfold PK;unfold nV;rw[cD,eS,cD];have e:IntKind.u64.wrap (IntKind.u64.wrap 1*11400714819323198485)=11400714819323198485:=by decide
 refine⟨?_,rfl⟩;unfold j9;rw[e]
theorem QP (z:Int) (w:World):af Tryz.prog 210 #[.int .u64 z] w fun v w'=>v=.int .u64 (Bi z)∧w'=w:=by
 refine Fg ?_;unfold PL;rw[dz];refine ah (by decide) ?_;rw[fA,dL,dz];refine ah (by decide) ?_;rw[fA,dL,dz];refine ah (by decide) ?_;rw[fA];exact⟨rfl,rfl⟩
theorem PO (seed:Int) (w:World):af Tryz.prog 180 #[nV seed] w fun v w'=>v=.tuple #[nV (j9 seed),.int .u64 (Bi (IntKind.u64.wrap (j9 seed)))]∧w'=w:=by
 refine Fe ?_;unfold PJ;refine ab (Is seed w) ?_;rintro v w2 ⟨rfl,rfl⟩;refine ab (Is seed w2) ?_;rintro v w3 ⟨rfl,rfl⟩;unfold nV;rw[cD];refine ab (QP _ w3) ?_;rintro v w4 ⟨rfl,rfl⟩;exact⟨rfl,rfl⟩
theorem L3 (seed n:Int) (hn:bZ n) (w:World):af Tryz.prog 140 #[nV seed,nV n] w fun v w'=>v=.tuple #[nV (d9 seed n).1,nV (d9 seed n).2]∧Same w w':=by
 refine Fb ?_;unfold PB;refine ab (PO seed w) ?_;rintro v w2 ⟨rfl,rfl⟩;unfold d9;refine ak rfl ?_;refine ak rfl ?_;unfold nV;refine db ?_;refine ac ?_;refine am (fun h=>?_) (fun h=>?_)
 ·rw[if_pos h];exact⟨rfl,aH.refl _ _⟩
 ·unfold Cl;rw[if_neg h,cD,fB];refine ah ?_ ?_
  ·have:IntKind.u64.wrap n=n:=by
    show n%18446744073709551616=n;have:=hn.2;omega
   omega
  rw[cD];exact⟨rfl,(aH.refl (fun _=>False) _).drew⟩
theorem PP (h:dp L bv U w m) (n:Int) (hn:bZ n):af Tryz.prog 94 #[.pointer (some ⟨bv,0,none⟩),nV n] w fun v w'=>v=nV (d9 m.sd n).2∧dp L bv U w' { m with sd:=(d9 m.sd n).1 }∧aH (fun k=>k=bv) w w':=by
 refine LX ?_;unfold Sx;obtain⟨a,cp,rv,la,lc,ga,gc,ll,hb,_⟩:=id h.ex;refine aq ?_;refine aa ?_;refine aj hb rfl ?_;refine aW (cs:=[.int .i64 8,.int .i64 0,.int .i64 0,.int .i64 0,.int .i64 0,.int .i64 0,.int .i64 0,.int .i64 0,.slice none 0 0,.int .i64 0,.int .i64 m.sd]) rfl ?_;refine ab (oH h _) ?_;rintro v w5 h5;have hb5:=h5.get hb (fun h=>h);refine aq ?_;refine aa ?_;refine aj hb5 rfl ?_;refine ab (L3 m.sd n hn w5) ?_;rintro v w9 ⟨rfl,h9⟩;obtain⟨⟨a,cp,rv,la,lc,ga,gc,ll,hb9,⟨g2,g3,g4,g5⟩,g6,g7,k1,k2,k3,k4⟩,g8⟩:=(h.same h5).same h9;refine ak rfl ?_;refine ak rfl ?_;refine aq ?_;refine aa ?_;refine bJ hb9 rfl rfl (by show 6<10; omega) fun w13 h13 hs13 hb13=>?_;exact⟨rfl,⟨⟨a,cp,rv,la,lc,ga,gc,ll,hb13,⟨g2.mod h13 (fun k f e=>(k1 k f e).2),g3.mod h13 (fun k f e=>(k2 k f e).2),fun b hb=>(g4 b hb).mod h13 (fun k f e=>(k4 b hb k f e).2),g5.mod h13 (fun k f e=>(k3 k f e).2)⟩,g6,g7,k1,k2,k3,k4⟩,g8⟩,((aH.of_same h5).trans (aH.of_same h9)).trans h13⟩
end
end
section
attribute [local irreducible] kO kB bG bH kN kG aA ai aw aB bj knew bB aP ay aE bk aD aU bC bD a8 kbool kint kstr keq kun ksl bz cQ kta kmk kmm ksem ksemU bd aI aL ae kL
theorem uR:∀{ll:List BeV} {i:Nat} (hi:i<ll.length) (pa:Option Addr) (pc:Nat) (P:List Part),(ll.flatMap BeV.cells).take (i*2+1)++[.slice pa P.length pc]++(ll.flatMap BeV.cells).drop (i*2+1+1)=(ll.set i ⟨(ll[i]).id,pa,pc,P⟩).flatMap BeV.cells
 | [],i,hi,_,_,_=>by simp at hi
 | b::l,0,_,pa,pc,P=>by
  rw[List.set_cons_zero,List.flatMap_cons,List.flatMap_cons];rfl
 | b::l,i+1,hi,pa,pc,P=>by
  have hi':i<l.length:=by simpa using hi
  have ih:=uR hi' pa pc P;rw[List.set_cons_succ,List.flatMap_cons,List.flatMap_cons];show List.take ((i+1)*2+1) (natV b.id::.slice b.pa b.parts.length b.pc::l.flatMap BeV.cells)++_++List.drop ((i+1)*2+1+1) (natV b.id::.slice b.pa b.parts.length b.pc::l.flatMap BeV.cells)=natV b.id::.slice b.pa b.parts.length b.pc::_;rw[show(i+1)*2+1=(i*2+1)+1+1 by omega,List.take_succ_cons,List.take_succ_cons,List.drop_succ_cons,List.drop_succ_cons];rw[List.cons_append,List.cons_append,List.cons_append,List.cons_append];congr 2
theorem BeV_ones:∀l:List BeV,oneCells (l.flatMap BeV.cells)=true
 | []=>rfl
 | q::l=>by
  rw[List.flatMap_cons];show oneCells (natV q.id::.slice q.pa q.parts.length q.pc::l.flatMap BeV.cells)=true;unfold natV;simp only[oneCells,BeV_ones l]; rfl
section
variable {L:List Comp} {bv:Nat} {U:Nat→Prop} {w w':World} {m:wI}
theorem QQ (h:dp L bv U w m) (hUl:∀k,U k→k<w.heap.size) (hn:m.V.length≤1000) {i:Nat} (hi:i<m.V.length) {pa:Option Addr} {pc:Nat} {P:List Part} (hs:aZ w pa P.length 6 (P.flatMap Part.cells)) (hpa:∀k f,pa=some ⟨k,f,none⟩→U k∧k≠bv) :
  af Tryz.prog 138 #[.pointer (some ⟨bv,0,none⟩),.int .i64 i,.slice pa P.length pc] w fun v w'=>dp L bv (cX w w' U) w' { m with V:=m.V.set i ((m.V[i]).1,P) }∧aH (fun k=>k=bv) w w':=by
 obtain⟨⟨a,cp,rv,la,lc,ga,gc,ll,hb,⟨g2,g3,g4,g5⟩,g6,g7,k1,k2,k3,k4⟩,g8⟩:=id h;have hll:ll.length=m.V.length:=by rw[←g6,List.length_map]
 have hil:i<ll.length:=by omega
 have hbv:=hUl bv g8;refine E9 ?_;unfold Pz;refine aR (cs:=[]) rfl fun w2 h2 hs2 hb2=>?_;refine aq ?_;refine aa ?_;refine aj (h2.get hb (fun h=>h)) rfl ?_;have hfl:=flat_len BeV.cells 2 (fun _=>rfl) ll;refine be th (by omega) (bV.blk (n:=0) (sz:=2) hb2 (by simp) (by simp[maxLen])) (Src.ofSlIs (hk:=kE.choose_spec) lc (g3.same h2) (BeV_ones ll)) (by rw[hfl]; simp; omega) (by rw[hfl]; simp; omega) ?_;intro v' w6 hO6 m6 hf6;have hO6:bV w6 v' 2 (ll.flatMap BeV.cells):=by simpa using hO6
 have hv6:∀k,bf v' k→w.heap.size≤k:=fun k hk=>by
  rcases hf6 k hk with e | e
  ·rw[cg e]; exact Nat.le_refl _
  ·exact Nat.le_trans h2.size e
 have m26:Same w w6:=h2.trans' (m6.mono fun k _ e=>.inr (by rw[cg e]; exact Nat.le_refl _));obtain⟨bc,cpn,arr,ty,rfl,hbc,hlc,hls,hseg⟩:=hO6.viewF (F:=BeV.cells) (sz:=2) (fun _=>rfl) (by omega) (by omega);have hvbc:bf (.slice (some ⟨bc,0,none⟩) ll.length cpn) bc:=⟨0,_,_,rfl⟩
 have hbcw:=hv6 bc hvbc;rw[ce];refine ah (by omega) ?_;rw[add_mk];refine aa ?_;refine aQ (o:=0+i*2+1) (vs:=[.slice pa P.length pc]) hbc rfl rfl rfl (by simp; omega) (by simp) fun w9 h9 hs9 hb9=>?_;rw[Nat.zero_add]at hb9;have hO9:=hO6.put hbc hb9 (by rw[hfl]; show i*2+1+1≤_; omega);rw[show[Value.slice pa P.length pc].length=1 from rfl,uR hil pa pc P]at hO9;have m9:Same w w9:=m26.trans' (h9.mono fun k _ e=>.inr (by omega));refine aq ?_;refine aa ?_;refine bJ (m9.get hb (fun h=>h)) rfl rfl (by show 3<10; omega) fun w11 h11 hs11 hb11=>?_;have hm11:aH (fun k=>k=bv) w w11:=(aH.of_same m9).trans h11;have hz9:=m9.size;have hz11:=h11.size;have hO11:=hO9.mod h11 fun k hk e=>by have:=hv6 k hk; omega
 obtain⟨a2,n2,c2,e2,hs2',_⟩:=hO11.is;cases e2;have hset:(ll.set i ⟨(ll[i]).id,pa,pc,P⟩).length=ll.length:=List.length_set;have hbcl:=hO11.vblk_lt hvbc;refine⟨⟨⟨a,cp,rv,some ⟨bc,0,none⟩,cpn,ga,gc,ll.set i ⟨(ll[i]).id,pa,pc,P⟩,by rw[hset]; exact hb11,⟨g2.mod hm11 (fun k f e=>(k1 k f e).2),by rw[hset]; exact hs2',fun b hb=>?_,g5.mod hm11 (fun k f e=>(k3 k f e).2)⟩,?_,g7,fun k f e=>⟨.inl (k1 k f e).1,(k1 k f e).2⟩,fun k f e=>?_,fun k f e=>⟨.inl (k3 k f e).1,(k3 k f e).2⟩,fun b hb k f e=>?_⟩,.inl g8⟩,hm11⟩
 ·rcases List.mem_or_eq_of_mem_set hb with hb | hb
  ·exact(g4 b hb).mod hm11 (fun k f e=>(k4 b hb k f e).2)
  ·subst hb; exact hs.mod hm11 (fun k f e=>(hpa k f e).2)
 ·rw[List.map_set,g6];congr 1;have:(ll[i]).key=m.V[i]:=by
   have:=List.getElem_of_eq g6 (i:=i) (by rw[List.length_map]; exact hil);rw[←this,List.getElem_map]
  rw[←this]; rfl
 ·cases e;exact⟨.inr ⟨hbcw,hbcl⟩,by omega⟩
 ·rcases List.mem_or_eq_of_mem_set hb with hb | hb
  ·exact⟨.inl (k4 b hb k f e).1,(k4 b hb k f e).2⟩
  ·subst hb; exact⟨.inl (hpa k f e).1,(hpa k f e).2⟩
theorem Cr:appT Tryz.prog 49 1 8=true:=by kernel_rfl
theorem rE:∃e,Tryz.prog.underlying 49=some (.slice e):=dI (by kernel_rfl)
theorem Fi (h:dp L bv U w m) (hUl:∀k,U k→k<w.heap.size) (hR:m.R.length≤1000) (i n:Int) :
  af Tryz.prog 93 #[.pointer (some ⟨bv,0,none⟩),nV i,nV n] w fun v w'=>dp L bv (cX w w' U) w' { m with R:=gO m.R i n }∧aH (fun k=>k=bv) w w':=by
 have hbv:=hUl bv h.own;have stay:∀{ww:World},Same w ww→gO m.R i n=m.R→dp L bv (cX w ww U) ww { m with R:=gO m.R i n }∧aH (fun k=>k=bv) w ww:=fun mm e=>by
  rw[e]; exact⟨(h.same mm).weak fun k hk=>.inl hk,aH.of_same mm⟩
 obtain⟨a,cp,rv,la,lc,ga,gc,ll,hb,_⟩:=id h.ex;unfold nV;refine LW ?_;unfold Sw;refine aM ?_;refine ac ?_;have neg:i<0→rD (.pointer (some ⟨bv,0,none⟩)) (.int .i64 i) (.int .i64 n) (.bool true) (fun v w'=>dp L bv (cX w w' U) w' { m with R:=gO m.R i n }∧aH (fun k=>k=bv) w w') w:=fun h0=>by
  unfold rD;refine ac ?_;refine aN rfl ?_;exact stay (aH.refl _ _) (if_pos (.inl h0))
 refine cz (fun h0=>?_) (fun h0=>neg h0);refine aq ?_;refine aa ?_;refine aj hb rfl ?_;refine aK ?_;refine bI ?_;unfold rD;refine ac ?_;refine am (fun h1=>stay (aH.refl _ _) (if_pos (.inr h1))) (fun h1=>?_);obtain⟨k,rfl⟩:∃k:Nat,i=(k:Int):=⟨i.toNat,by omega⟩
 have hk:k<m.R.length:=by omega
 have eset:gO m.R (k:Int) n=m.R.set k n:=by unfold gO; rw[if_neg (by omega),Int.toNat_natCast]
 obtain⟨a,cp,rv,la,lc,ga,gc,ll,hb,⟨g2,g3,g4,g5⟩,_⟩:=id h.ex;unfold Ie;refine aq ?_;refine aa ?_;refine aj hb rfl ?_;refine cF (F:=nV) g5 hk rfl ?_;unfold nV;refine aW (cs:=[.int .i64 6,.int .i64 0,.int .i64 0,.int .i64 0,.int .i64 0,.int .i64 0,.int .i64 0,.int .i64 0,.slice none 0 0,.int .i64 k,.int .i64 (m.R[k])]) rfl ?_;refine ab (oH h _) ?_;rintro v w14 h14;obtain⟨⟨a,cp,rv,la,lc,ga,gc,ll,hb14,⟨g2,g3,g4,g5⟩,g6,g7,k1,k2,k3,k4⟩,g8⟩:=h.same h14;refine aR (cs:=[]) rfl fun w16 h16 hs16 hb16=>?_;refine aq ?_;refine aa ?_;refine aj (h16.get hb14 (fun h=>h)) rfl ?_;refine be Cr (by omega) (bV.blk (n:=0) (sz:=1) hb16 (by simp) (by simp[maxLen])) (Src.ofSlIs (hk:=rE.choose_spec) gc (g5.same h16) (ones_ints m.R)) (by simp; omega) (by simp; omega) ?_;intro v' w20 hO20 m20 hf20;have hO20:bV w20 v' 1 (m.R.map nV):=by simpa using hO20
 have hz14:=h14.size;have hv20:∀k,bf v' k→w.heap.size≤k:=fun k hk=>by
  rcases hf20 k hk with e | e
  ·rw[cg e]; exact hz14
  ·exact Nat.le_trans (h14.trans h16).size e
 have mm20:Same w w20:=(h14.trans h16).trans' (m20.mono fun k _ e=>.inr (by rw[cg e]; exact hz14));obtain⟨bc,nn,cpn,arr,ty,rfl,hbc,e1,e2,e3,e4,e5⟩:=hO20.view (by intro e; have:=congrArg List.length e; rw[List.length_map]at this; simp at this; rw[this]at hk; cases hk);have hnn:nn=m.R.length:=by rw[List.length_map]at e1; omega
 subst hnn;have hvbc:bf (.slice (some ⟨bc,0,none⟩) m.R.length cpn) bc:=⟨0,_,_,rfl⟩
 have hbcw:=hv20 bc hvbc;refine aq ?_;refine aa ?_;have h1420:Same w14 w20:=h16.trans' (m20.mono fun k _ e=>.inr (by rw[cg e]; exact Nat.le_refl _));refine bJ (h1420.get hb14 (fun h=>h)) rfl rfl (by show 7<10; omega) fun w22 h22 hs22 hb22=>?_;have hb22:aX w22 bv=some (.cells #[.slice a L.length cp,rv,.int .i64 20,.slice la ll.length lc,.int .i64 m.fr,.int .i64 m.nx,.int .i64 m.sd,.slice (some ⟨bc,0,none⟩) m.R.length cpn,.slice none 0 0,.bool false] 73):=hb22;have hbc22:=h22.get hbc (by omega);have hO22:=hO20.mod h22 fun j hj e=>by have:=hv20 j hj; omega
 refine aq ?_;refine aa ?_;refine aj hb22 rfl ?_;rw[ce];refine ah (by omega) ?_;rw[add_mk];refine aQ (o:=0+k*1) (vs:=[.int .i64 n]) hbc22 rfl rfl rfl (by simp; omega) (by simp) fun w26 h26 hs26 hb26=>?_;rw[Nat.zero_add,Nat.mul_one]at hb26;have hO26:=hO22.set1 hbc22 hb26 (by rw[List.length_map]; exact hk);have hm26:aH (fun k=>k=bv) w w26:=((aH.of_same mm20).trans h22).trans' (h26.mono fun k _ e=>.inr (by omega));have hz26:=hm26.size;obtain⟨a2,n2,c2,e2',hs2',hn2'⟩:=hO26.is;cases e2';have hbcl:=hO26.vblk_lt hvbc;have hz22:=h22.size;rw[eset];have hmap:(m.R.set k n).map nV=(m.R.map nV).set k (.int .i64 n):=by rw[List.map_set]; rfl
 have hm14:aH (fun k=>k=bv) w14 w26:=by
  refine((aH.of_same h1420).trans h22).trans' (h26.mono fun k _ e=>.inr ?_);rcases hf20 bc hvbc with e' | e'
  ·rw[e,cg e']; exact Nat.le_refl _
  ·rw[e]; exact Nat.le_trans h16.size e'
 refine⟨⟨⟨a,cp,rv,la,lc,some ⟨bc,0,none⟩,cpn,ll,by rw[List.length_set]; exact h26.get hb22 (by omega),⟨g2.mod hm14 (fun k f e=>(k1 k f e).2),g3.mod hm14 (fun k f e=>(k2 k f e).2),fun b hb=>(g4 b hb).mod hm14 (fun k f e=>(k4 b hb k f e).2),?_⟩,g6,g7,fun k f e=>⟨.inl (k1 k f e).1,(k1 k f e).2⟩,fun k f e=>⟨.inl (k2 k f e).1,(k2 k f e).2⟩,fun k f e=>?_,fun b hb k f e=>⟨.inl (k4 b hb k f e).1,(k4 b hb k f e).2⟩⟩,.inl g8⟩,hm26⟩
 ·show aZ w26 _ (m.R.set k n).length 1 ((m.R.set k n).map nV);rw[hmap,List.length_set]; exact hs2'
 ·cases e;exact⟨.inr ⟨hbcw,hbcl⟩,by omega⟩
end
end
section
attribute [local irreducible] kO kB bG bH kN kG aA ai aw aB bj knew bB aP ay aE bk aD aU bC bD a8 kbool kint kstr keq kun ksl bz cQ kta kmk kmm ksem ksemU bd aI aL ae kL
structure lf (L:List Comp) (V:d8):Prop where
 nd:(V.map (·.1)).Nodup
 few:V.length≤1000
 parts:∀y∈V,y.2.length≤32∧y.2.Pairwise (fun a b=>a.comp<b.comp)∧∀q∈y.2,∃c:Nat,q.comp=(c:Int)∧c<L.length
theorem Fj {V:d8} (hnd:(V.map (·.1)).Nodup) {i:Nat} (hi:i<V.length) (P:List Part):ln V (V[i]).1 P=V.set i ((V[i]).1,P):=by
 apply List.ext_getElem
 ·unfold ln; rw[List.length_map,List.length_set]
 ·intro j h1 h2;unfold ln at h1 ⊢;rw[List.length_map]at h1;rw[List.getElem_map,List.getElem_set];by_cases hij:i=j
  ·subst hij; rw[if_pos rfl,if_pos rfl]
  ·rw[if_neg hij,if_neg];intro e;apply hij;have:=(List.getElem_inj (h₀:=by simpa using h1) (h₁:=by simpa using hi) hnd).1 (by rw[List.getElem_map,List.getElem_map]; exact e);exact this.symm
theorem wJ:(ln V n P).map (·.1)=V.map (·.1):=by
 unfold ln;rw[List.map_map];apply List.map_congr_left;intro y _;show(if y.1=n then(n,P) else y).1=y.1;split
 ·rename_i h; exact h.symm
 ·rfl
theorem tz (P:List Part) (c:Int) (k:Nat) (n f:Int):(jz P c k n f).map (·.comp)=P.map (·.comp):=by
 unfold jz;rw[List.map_map];apply List.map_congr_left;intro y _;show(if y.comp=c then y.setCell k n f else y).comp=y.comp;split
 ·exact e7 _ _ _ _
 ·rfl
theorem lf.set (h:lf L V) (cs:List Comp) (fr x c i n:Int):lf L (gf cs fr V x c i n):=by
 unfold gf;cases hf:gt V x with
 | none=>exact h
 | some y =>
  show lf L (if _ then _ else _);split
  ·obtain⟨h1,h2,h3⟩:=h.parts y (fS hf).1;refine⟨by rw[wJ]; exact h.nd,by unfold ln; rw[List.length_map]; exact h.few,fun z hz=>?_⟩;obtain⟨u,hu,rfl⟩:=List.mem_map.1 hz;split
   ·have hc:=tz y.2 c i.toNat n fr;refine⟨by show(jz y.2 c i.toNat n fr).length≤32; unfold jz; rw[List.length_map]; exact h1,?_,fun q hq=>?_⟩
    ·show(jz y.2 c i.toNat n fr).Pairwise fun a b=>a.comp<b.comp;have h2':(y.2.map (·.comp)).Pairwise (·<·):=List.pairwise_map.2 h2;rw[←hc]at h2';exact List.pairwise_map.1 h2'
    ·have hq:q∈jz y.2 c i.toNat n fr:=hq;unfold jz at hq;obtain⟨r,hr,rfl⟩:=List.mem_map.1 hq;split
     ·rw[e7]; exact h3 r hr
     ·exact h3 r hr
   ·exact h.parts u hu
  ·exact h
section
variable {L:List Comp} {bv:Nat} {U:Nat→Prop} {w w':World} {m:wI}
theorem Fk (h:dp L bv U w m) (c:Int):af Tryz.prog 44 #[.pointer (some ⟨bv,0,none⟩),.int .i64 c] w fun v w'=>(∃b:Bool,v=.bool b)∧w'=w:=by
 obtain⟨a,cp,rv,la,lc,ga,gc,ll,hb,⟨g2,g3,g4,g5⟩,_⟩:=id h.ex;refine Cf ?_;unfold QO;refine bI ?_;refine ac ?_;refine am (fun h0=>?_) (fun _=>⟨⟨_,rfl⟩,rfl⟩);refine aq ?_;refine aa ?_;refine aa ?_;refine aj hb rfl ?_;refine aK ?_;refine aM ?_;refine ac ?_;refine am (fun h1=>?_) (fun _=>⟨⟨_,rfl⟩,rfl⟩);refine aq ?_;refine aa ?_;refine aa ?_;refine aj hb rfl ?_;obtain⟨k,rfl⟩:∃k:Nat,c=(k:Int):=⟨c.toNat,by omega⟩
 refine bL (F:=Comp.cells) (sz:=7) (fun _=>rfl) (j:=2) g2 (show k<L.length by omega) rfl rfl ?_;exact⟨⟨_,rfl⟩,rfl⟩
theorem Cs (hG:dQ L) {k:Nat} (hk:k<L.length):(L[k]).width=((wdF L k:Nat):Int)∧wdF L k≤4:=by
 obtain⟨d,h1,h2,h3⟩:=hG.wide _ (List.getElem_mem hk);unfold wdF;rw[List.getElem?_eq_getElem hk];show _=(((L[k]).width.toNat:Nat):Int)∧(L[k]).width.toNat≤4;rw[h1];omega
theorem QR (hG:dQ L) (h:dp L bv U w m) (hUl:∀k,U k→k<w.heap.size) (hV:lf L m.V) (x c i n:Int) :
  af Tryz.prog 92 #[.pointer (some ⟨bv,0,none⟩),.int .i64 x,.int .i64 c,.int .i64 i,.int .i64 n] w fun v w'=>dp L bv (cX w w' U) w' { m with V:=gf L m.fr m.V x c i n }∧aH (fun k=>k=bv) w w':=by
 have hbv:=hUl bv h.own;have stay:∀{ww:World},Same w ww→gf L m.fr m.V x c i n=m.V→dp L bv (cX w ww U) ww { m with V:=gf L m.fr m.V x c i n }∧aH (fun k=>k=bv) w ww:=fun mm e=>by
  rw[e]; exact⟨(h.same mm).weak fun k hk=>.inl hk,aH.of_same mm⟩
 have hP:=fun y hy=>Nat.le_trans (hV.parts y hy).1 (show 32≤100 by omega);refine LV ?_;unfold Sv;refine ab (L2 h hV.few hP x c) ?_;rintro v w2 ⟨⟨q,e,rfl,hq⟩,h2⟩;refine ak rfl ?_;refine ak rfl ?_;refine ar fun w6 h6 hs6 hb6=>?_;refine aQ (vs:=q.cells) hb6 rfl rfl rfl (by simp) (by simp[Part.cells]) fun w7 h7 hs7 hb7=>?_;have hb7:aX w7 w2.heap.size=some (.cells q.cells.toArray 95):=hb7;have m7:Same w w7:=h2.trans (h6.trans' (h7.mono fun k _ e=>.inr (by omega)));have hz2:=h2.size;refine cu ?_;refine ac ?_;rcases hq with⟨hq,rfl⟩ | ⟨hq,he⟩
 ·refine am (fun h=>absurd rfl h) (fun _=>?_);unfold ge at hq;obtain⟨y,hy,hqy⟩:=Option.bind_eq_some_iff.1 hq;have hym:=(fS hy).1;have hqm:=List.mem_of_find?_eq_some hqy;have hqc:q.comp=c:=ja hqy;obtain⟨p1,p2,p3⟩:=hV.parts y hym;obtain⟨k,hk,hkl⟩:=p3 q hqm;obtain rfl:c=(k:Int):=by omega
  obtain⟨hw,hw4⟩:=Cs hG hkl;have esome:(y.2.find? (dR (k:Int))).isSome=true:=by rw[hqy]; rfl
  have eset:gf L m.fr m.V x k i n=if 0≤i∧i<(wdF L k:Int) then ln m.V y.1 (jz y.2 k i.toNat n m.fr) else m.V:=by
   unfold gf;rw[hy];show(if _ then _ else _)=_;by_cases hc:0≤i∧i<(wdF L k:Int)
   ·rw[if_pos ⟨esome,hc.1,by rw[Int.toNat_natCast]; exact hc.2⟩,if_pos hc]
   ·rw[if_neg (fun hh=>hc ⟨hh.2.1,by have:=hh.2.2; rw[Int.toNat_natCast]at this; exact this⟩),if_neg hc]
  have h7':=h.same m7;obtain⟨a,cp,rv,la,lc,ga,gc,ll,hbw,⟨g2,g3,g4,g5⟩,_⟩:=id h7'.ex;unfold Id;have bad:¬(0≤i∧i<(wdF L k:Int))→rC (.pointer (some ⟨bv,0,none⟩)) (.int .i64 x) (.int .i64 k) (.int .i64 i) (.int .i64 n) (.pointer (some ⟨w2.heap.size,0,none⟩)) (.bool true) (fun v w'=>dp L bv (cX w w' U) w' { m with V:=gf L m.fr m.V x k i n }∧aH (fun k=>k=bv) w w') w7:=fun hn=>by
   unfold rC;refine ac ?_;refine aN rfl ?_;exact stay m7 (by rw[eset,if_neg hn])
  refine aM ?_;refine ac ?_;refine cz (fun h0=>?_) (fun h0=>bad (by omega));refine aq ?_;refine aa ?_;refine aa ?_;refine aj hbw rfl ?_;refine bL (F:=Comp.cells) (sz:=7) (fun _=>rfl) (j:=1) g2 hkl rfl rfl ?_;rw[hw];refine bI ?_;by_cases hge:(wdF L k:Int)≤i
  ·rw[co hge]; exact bad (by omega)
  rw[bT hge];obtain⟨ii,rfl⟩:∃ii:Nat,i=(ii:Int):=⟨i.toNat,by omega⟩
  have eset2:gf L m.fr m.V x k ii n=ln m.V y.1 (jz y.2 k ii n m.fr):=by
   rw[eset,if_pos ⟨by omega,by omega⟩,Int.toNat_natCast]
  unfold rC;refine ac ?_;refine az rfl ?_;unfold Ic;refine ab (Fk h7' k) ?_;rintro v w19 ⟨⟨rb,rfl⟩,rfl⟩;have f3:∀ww:World,Same w19 ww→uP (.pointer (some ⟨bv,0,none⟩)) (.int .i64 x) (.int .i64 k) (.int .i64 ii) (.int .i64 n) (.pointer (some ⟨w2.heap.size,0,none⟩)) (fun v w'=>dp L bv (cX w w' U) w' { m with V:=gf L m.fr m.V x k ii n }∧aH (fun k=>k=bv) w w') ww:=by
   intro ww mm;have hbq:=mm.get hb7 (fun h=>h);have mw:=m7.trans mm;have hzw:=mw.size;unfold uP;refine aa ?_;rw[dy];refine ah (by omega) ?_;rw[add_mk];refine aQ (o:=0+1+ii*1) (vs:=[.int .i64 n]) hbq rfl rfl rfl (by simp[Part.cells]; omega) (by simp) fun w26 h26 hs26 hb26=>?_;have m26:Same w w26:=mw.trans' (h26.mono fun k _ e=>.inr (by omega));obtain⟨a6,cp6,rv6,la6,lc6,ga6,gc6,ll6,hbw6,_⟩:=id (h.same m26).ex;refine aq ?_;refine aa ?_;refine aj (v:=.int .i64 m.fr) hbw6 rfl ?_;refine aa ?_;have h4:ii=0∨ii=1∨ii=2∨ii=3:=by omega
   refine aQ (o:=0+5) (vs:=[.int .i64 m.fr]) hb26 rfl rfl rfl (by rcases h4 with rfl | rfl | rfl | rfl<;>simp[Part.cells,setAll]) (by simp) fun w30 h30 hs30 hb30=>?_;have hb30:aX w30 w2.heap.size=some (.cells (q.setCell ii n m.fr).cells.toArray 95):=by
    rw[hb30];rcases h4 with rfl | rfl | rfl | rfl<;>rfl
   have m30:Same w w30:=m26.trans' (h30.mono fun k _ e=>.inr (by omega));have h30':=h.same m30;refine ab (SA h30' hV.few x) ?_;rintro v w32 ⟨hv,rfl⟩;rcases hv with⟨j,hj,rfl,hfj⟩ | ⟨_,hfn⟩
   ·have hyj:m.V[j]=y:=by rw[hy]at hfj; exact(Option.some.inj hfj).symm
    have md:Same w32 w32.drew:=(aH.refl (fun _=>False) _).drew;have mwd:=m30.trans md;have hd:=h.same mwd;have hbqd:=md.get hb30 (fun h=>h);generalize w32.drew=wd at *;obtain⟨a9,cp9,rv9,la9,lc9,ga9,gc9,ll9,hb9,⟨_,l3,l4,_⟩,l6,_,_,_,_,_⟩:=id hd.ex;have hl9:ll9.length=m.V.length:=by rw[←l6,List.length_map]
    have hj9:j<ll9.length:=by omega
    have key9:(ll9[j]).key=y:=by
     have:=List.getElem_of_eq l6 (i:=j) (by rw[List.length_map]; exact hj9);rw[List.getElem_map]at this;rw[this,hyj]
    have kp:(ll9[j]).parts=y.2:=by rw[←key9]; rfl
    have ls:=l4 _ (List.getElem_mem hj9);refine aq ?_;refine aa ?_;refine aj hb9 rfl ?_;refine ah rfl ?_;refine bL (F:=BeV.cells) (sz:=2) (fun _=>rfl) (j:=1) l3 hj9 rfl rfl ?_;refine ah rfl ?_;rw[kp]at ls ⊢;refine ab (Cq ls (by omega) (k:Int)) ?_;rintro v w39 hmk;obtain⟨b1,b2,rfl,hs1⟩:=hmk.read;have hbq39:=hmk.same.get hbqd (fun h=>h);refine au (cs:=(q.setCell ii n m.fr).cells) hbq39 rfl (by omega) ?_;refine ah rfl ?_;refine ah (au (cs:=(q.setCell ii n m.fr).cells) hbqd rfl (by omega) ⟨rfl,rfl⟩) ?_;have hfl:(withoutF y.2 (k:Int)).length≤100:=Nat.le_trans (List.length_filter_le _ _) (by omega);refine ab (Ir hs1 hfl (q.setCell ii n m.fr)) ?_;rintro v w42 hmk2;obtain⟨b3,b4,rfl,hs2⟩:=hmk2.read;have mall:Same wd w42:=hmk.same.trans hmk2.same;have hzw42:=(mwd.trans mall).size;have hz39:=hmk.same.size;have hnew:∀k' f,b3=some ⟨k',f,none⟩→wd.heap.size≤k'∧k'<w42.heap.size:=fun k' f e=>by
     have hv:bf (.slice b3 (jm (withoutF y.2 (k:Int)) (q.setCell ii n m.fr)).length b4) k':=⟨f,_,_,by rw[e]⟩
     have:=hmk2.lo k' hv;exact⟨by omega,hmk2.own.vblk_lt hv⟩
    have hzd:=mwd.size;have hU42:dp L bv (cX w w42 U) w42 m:=(hd.same mall).weak fun k' hk'=>.inl hk';refine ab (QQ hU42 (fun k' hk'=>hk'.elim (fun e=>by have:=hUl k' e; omega) (fun e=>e.2)) hV.few hj hs2 (fun k' f e=>⟨.inr ⟨by have:=(hnew k' f e).1; omega,(hnew k' f e).2⟩,by have:=(hnew k' f e).1; omega⟩)) ?_;rintro v w44 ⟨hv44,hm44⟩;have hz44:=hm44.size;have eV:gf L m.fr m.V x k ii n=m.V.set j ((m.V[j]).1,jm (withoutF y.2 (k:Int)) (q.setCell ii n m.fr)):=by
     have e0:(q.setCell ii n m.fr).comp=(k:Int):=by rw[e7]; exact hk
     have ew:jm (withoutF y.2 (k:Int)) (q.setCell ii n m.fr)=jz y.2 k ii n m.fr:=by
      rw[←e0,nH p2 ⟨q,hqm,by rw[e0]; exact hk⟩,e0];unfold jz;apply List.map_congr_left;intro z hz;by_cases hzc:z.comp=(k:Int)
      ·rw[if_pos hzc,if_pos hzc];have:z=q:=by
        obtain⟨i1,hi1,rfl⟩:=List.mem_iff_getElem.1 hz;obtain⟨i2,hi2,rfl⟩:=List.mem_iff_getElem.1 hqm;have hpw:=List.pairwise_iff_getElem.1 p2;rcases Nat.lt_trichotomy i1 i2 with h | h | h
        ·have:=hpw i1 i2 hi1 hi2 h; omega
        ·subst h; rfl
        ·have:=hpw i2 i1 hi2 hi1 h; omega
       rw[this]
      ·rw[if_neg hzc,if_neg hzc]
     rw[eset2,ew,←Fj hV.nd hj,hyj]
    rw[eV];exact⟨hv44.weak fun k' hk'=>by
     rcases hk' with(hk' | hk') | hk'
     ·exact .inl hk'
     ·exact .inr ⟨hk'.1,by omega⟩
     ·exact .inr ⟨by omega,hk'.2⟩,(aH.of_same (mwd.trans mall)).trans hm44⟩
   ·rw[hy]at hfn; cases hfn
  refine ac ?_;refine dh (fun _=>?_) (fun _=>f3 _ (aH.refl _ _));refine au (cs:=q.cells) hb7 rfl (by omega) ?_;refine aW (cs:=[.int .i64 1,.int .i64 x,.int .i64 q.comp,.int .i64 q.v0,.int .i64 q.v1,.int .i64 q.v2,.int .i64 q.v3,.int .i64 q.tick,.slice none 0 0,.int .i64 0,.int .i64 0]) rfl ?_;refine ab (oH h7' _) ?_;rintro v w23 h23;exact f3 _ h23
 ·refine am (fun _=>?_) (fun h=>absurd (by omega) h);refine stay m7 ?_;unfold gf ge at *;cases hy:gt m.V x with
  | none=>rfl
  | some y =>
   rw[hy]at hq;have hq:y.2.find? (dR c)=none:=hq;show(if _ then _ else _)=_;rw[hq,if_neg];rintro⟨h1,_⟩;cases h1
end
end
section
attribute [local irreducible] kO kB bG bH kN kG aA ai aw aB bj knew bB aP ay aE bk aD aU bC bD a8 kbool kint kstr keq kun ksl bz cQ kta kmk kmm ksem ksemU bd aI aL ae kL
theorem PR {q:Part} (hd:d<4) (hz:q.vals[d]'(by show d<4; exact hd)=0):nth q.cells.toArray.toList (0+1+d*1)=some (.int .i64 0):=by
 have h4:d=0∨d=1∨d=2∨d=3:=by omega
 rcases h4 with h | h | h | h<;>subst h
 ·have:q.v0=0:=hz;show some (Value.int .i64 q.v0)=_;rw[this]
 ·have:q.v1=0:=hz;show some (Value.int .i64 q.v1)=_;rw[this]
 ·have:q.v2=0:=hz;show some (Value.int .i64 q.v2)=_;rw[this]
 ·have:q.v3=0:=hz;show some (Value.int .i64 q.v3)=_;rw[this]
section
variable {L:List Comp} {bv:Nat} {U:Nat→Prop} {w w':World} {m:wI}
theorem PS {rv:Value} (hrv:rv.cells=#[rv]) (hs:aZ w a L.length 7 (L.flatMap Comp.cells)) (hG:dQ L) {q:Part} (hq:d7 L q):af Tryz.prog 124 #[gr a L.length cp rv,.agg q.cells.toArray] w fun v w'=>v=.bool true∧Same w w':=by
 have hl:=hG.len;obtain⟨k,hk,hkl,hcl⟩:=hq;obtain⟨hw,hw4⟩:=Cs hG hkl;rw[gr];refine EW ?_;unfold O7;refine ar fun w2 h2 hs2 hb2=>?_;have hb2:aX w2 w.heap.size=some (.cells #[.slice a L.length cp,rv] 70):=hb2;refine ar fun w4 h4 hs4 hb4=>?_;have hb2:=h4.get hb2 (fun h=>h);have hb4:aX w4 w2.heap.size=some (.cells q.cells.toArray 95):=hb4;have hs':=hs.same (h2.trans h4);have m4:=h2.trans h4;refine aa ?_;refine aj hb4 rfl ?_;refine aM ?_;refine ac ?_;refine cz (fun h0=>?_) (fun h0=>absurd h0 (by omega));refine aa ?_;refine aj hb4 rfl ?_;refine aa ?_;refine aj hb2 rfl ?_;refine aK ?_;refine bI ?_;rw[bT (show ¬(L.length:Int)≤q.comp by omega)];unfold s9;refine ac ?_;refine az rfl ?_;unfold Bx;refine aa ?_;refine aj hb2 rfl ?_;refine aa ?_;refine ao (v:=.int .i64 k) hb4 (by rw[←hk]; rfl) ?_;refine bL (F:=Comp.cells) (sz:=7) (fun _=>rfl) (j:=1) hs' hkl rfl rfl ?_;rw[hw];refine cA (4-wdF L k) (fun i x wr=>x=.int .i64 ((wdF L k+i:Nat):Int)∧wr=w4) ⟨c8 ⟨rfl,rfl⟩,fun x wr hx=>?_⟩;obtain⟨i,hi,⟨rfl,rfl⟩,hJ⟩:=bK hx;unfold Bw;refine aM ?_;refine ac ?_;refine am (fun hlt=>?_) (fun hge=>⟨rfl,m4⟩);have hc:nth q.cells.toArray.toList (0+1+(wdF L k+i)*1)=some (.int .i64 0):=by
  refine PR (by omega) (hcl _ ?_);rw[List.mem_iff_getElem];refine⟨i,by rw[List.length_drop]; show i<4-_; omega,?_⟩;rw[List.getElem_drop]
 unfold Bv;refine aa ?_;rw[dy];refine ah (by omega) ?_;rw[add_mk];refine aj (o:=0+1+(wdF L k+i)*1) hb4 hc ?_;refine cu ?_;refine ac ?_;refine am (fun h=>absurd rfl h) (fun _=>?_);unfold Bu;refine aY (by omega) (by omega) ?_;rw[a7];exact hJ _ _ (by omega) ⟨rfl,rfl⟩
theorem Fl {P:List Part} (hp:P.Pairwise fun x y=>x.comp<y.comp) {i:Nat} (hi:i<P.length):∀x∈P.take i,x.comp<(P[i]).comp:=by
 intro x hx;obtain⟨j,hj,rfl⟩:=List.mem_iff_getElem.1 hx;rw[List.length_take]at hj;rw[List.getElem_take];exact(List.pairwise_iff_getElem.1 hp) j i (by omega) hi (by omega)
theorem wK (h:dp L bv U w m) (hG:dQ L) {a:Option Addr} {P:List Part} {cp:Nat} (hs:aZ w a P.length 6 (P.flatMap Part.cells)) (hn:P.length≤64) (hf:∀q∈P,d7 L q) (hp:P.Pairwise fun x y=>x.comp<y.comp):af Tryz.prog 75 #[.pointer (some ⟨bv,0,none⟩),.slice a P.length cp] w fun v w'=>∃x,v=.tuple #[x,.int .i64 0]∧lp w P x w':=by
 refine Lt ?_;unfold Si;refine aR (cs:=[]) rfl fun w4 h4 hs4 hb4=>?_;refine oT P.length (fun i x y z wr=>lp w (P.take i) x wr∧y=.bool false∧z=.int .i64 i) ⟨tM ⟨⟨bV.blk hb4 (n:=0) (by simp) (by simp[maxLen]),fun k hk=>by rw[cg hk]; exact Nat.le_refl _,h4⟩,rfl,rfl⟩,fun x y z wr hx=>?_⟩;obtain⟨i,hi,⟨hMk,rfl,rfl⟩,hJ⟩:=jQ hx;have hmr:=hMk.same;have htl:(P.take i).length≤64:=by rw[List.length_take]; omega
 unfold HI;refine aK ?_;refine aM ?_;refine ac ?_;refine am (fun hlt=>?_) (fun hge=>?_)
 ·have hlt:i<P.length:=by omega
  have hlts:=Fl hp hlt;have md:Same wr wr.drew:=(aH.refl (fun _=>False) _).drew;have mrd:=hmr.trans md;have hMd:=hMk.loc md;obtain⟨⟨a1,cp1,rv,la,lc,ga,gc,ll,hb,⟨hc,_,_,_⟩,_,hrv,_⟩,_⟩:=h.same mrd;unfold HG;generalize wr.drew=wd at *;refine aq ?_;refine aa ?_;refine au hb rfl (by omega) ?_;refine ah rfl ?_;refine cK (F:=Part.cells) (sz:=6) (fun _=>rfl) (by omega) (hs.same mrd) hlt rfl ?_;refine ah rfl ?_;refine ab (PS (cp:=cp1) hrv hc hG (hf _ (List.getElem_mem hlt))) ?_;rintro v w11 ⟨rfl,h11⟩;refine bP ?_;refine ac ?_;refine az rfl ?_;have hM11:=hMd.loc h11;obtain⟨a',c',rfl,hsl⟩:=hM11.read;unfold HF;refine ac ?_;refine aN rfl ?_;refine bL (F:=Part.cells) (sz:=6) (fun _=>rfl) (j:=0) (hs.same (mrd.trans h11)) hlt rfl rfl ?_;refine ab (Sz hsl (by omega) _) ?_;rintro v w18 ⟨rfl,rfl⟩;have eat:Fh (P.take i) (P[i]).comp= -1:=by
   have hfn:(P.take i).findIdx? (dR (P[i]).comp)=none:=List.findIdx?_eq_none_iff.2 fun x hx=>decide_eq_false (by have:=hlts x hx; omega);unfold Fh;rw[hfn]
  rw[eat];refine bI ?_;rw[bT (by omega)];unfold Bn;refine cK (F:=Part.cells) (sz:=6) (fun _=>rfl) (by omega) (hs.same (mrd.trans h11)) hlt rfl ?_;refine ab (Ir hsl (by omega) _) ?_;rintro v w23 hk;rw[wH fun x hx=>Int.le_of_lt (hlts x hx)]at hk;unfold HE;refine aY (by omega) (by omega) ?_;rw[a7];refine hJ _ _ _ _ hlt ⟨?_,rfl,rfl⟩;rw[List.take_succ_eq_append_getElem hlt];have m11:=hM11.same;exact⟨hk.own,fun k' hk'=>Nat.le_trans m11.size (hk.lo k' hk'),m11.trans hk.same⟩
 ·have hi':i=P.length:=by omega
  subst hi';rw[List.take_length]at hMk;unfold HH;refine ac ?_;refine az rfl ?_;exact⟨_,rfl,hMk⟩
end
end
section
attribute [local irreducible] kO kB bG bH kN kG aA ai aw aB bj knew bB aP ay aE bk aD aU bC bD a8 kbool kint kstr keq kun ksl bz cQ kta kmk kmm ksem ksemU bd aI aL ae kL
structure Qi (w:World) (P:List BeV) (x:Value) (wr:World):Prop where
 own:bV wr x 2 (P.flatMap BeV.cells)
 lo:∀k,bf x k→w.heap.size≤k
 same:Same w wr
theorem Qi.app (h:Qi w P x wr) (hn:P.length≤1000) (q:BeV) {K:Value→World→Prop} (hK:∀y w',Qi w (P++[q]) y w'→K y w') :
  ay [.int .i64 0,.slice none 0 0] 1 [(0,2,.agg q.cells.toArray)] 101 wr fun v w'=>ksem Tryz.prog (Builtin.append_ #[48,48] 0 #[x,v]) w' K:=by
 refine aR (cs:=q.cells) rfl fun w24 h24 hs24 hb24=>?_;have hfl:=flat_len BeV.cells 2 (fun _=>rfl) P;refine be th (by omega) (h.own.same h24) (Src.ofSlIs (hk:=kE.choose_spec) 1 (aZ.blk hb24 rfl) rfl) (by rw[hfl]; show P.length*2+2≤_; omega) (by rw[hfl]; show _; simp[BeV.cells]; omega) ?_;intro v' w4 ho4 hm4 hf4;refine hK v' w4 ⟨by simpa using ho4,fun k hk=>?_,(h.same.trans h24).trans' (hm4.mono fun k _ e=>.inr (h.lo k e))⟩;rcases hf4 k hk with e | e
 ·exact h.lo k e
 ·exact Nat.le_trans (h.same.trans h24).size e
section
variable {L:List Comp} {bv:Nat} {U:Nat→Prop} {w w':World} {m:wI}
theorem QS (h:dp L bv U w m) (hUl:∀k,U k→k<w.heap.size) (hn:m.V.length≤100) {nid:Nat} (hid:∀y∈m.V,y.1<nid) {pa:Option Addr} {pc:Nat} {P:List Part} (hs:aZ w pa P.length 6 (P.flatMap Part.cells)) (hpa:∀k f,pa=some ⟨k,f,none⟩→U k∧k≠bv) :
  af Tryz.prog 76 #[.pointer (some ⟨bv,0,none⟩),.int .i64 nid,.slice pa P.length pc] w fun v w'=>dp L bv (cX w w' U) w' { m with V:=m.V++[(nid,P)] }∧aH (fun k=>k=bv) w w':=by
 obtain⟨⟨a,cp,rv,la,lc,ga,gc,ll,hb,⟨g2,g3,g4,g5⟩,g6,g7,k1,k2,k3,k4⟩,g8⟩:=id h;have hll:ll.length=m.V.length:=by rw[←g6,List.length_map]
 have hbv:=hUl bv g8;have hidl:∀b∈ll,b.id<nid:=fun b hb=>hid b.key (by rw[←g6]; exact List.mem_map.2 ⟨b,hb,rfl⟩);refine Lu ?_;unfold Sj;refine aR (cs:=[]) rfl fun w4 h4 hs4 hb4=>?_;refine oT ll.length (fun i x y z wr=>Qi w (ll.take i) x wr∧y=.bool false∧z=.int .i64 i) ⟨tM ⟨⟨bV.blk hb4 (n:=0) (by simp) (by simp[maxLen]),fun k hk=>by rw[cg hk]; exact Nat.le_refl _,h4⟩,rfl,rfl⟩,fun x y z wr hx=>?_⟩;obtain⟨i,hi,⟨hMk,rfl,rfl⟩,hJ⟩:=jQ hx;have hmr:=hMk.same;have hbr:=hmr.get hb (fun h=>h);have htl:(ll.take i).length≤100:=by rw[List.length_take]; omega
 unfold HM;refine aq ?_;refine aa ?_;refine aj hbr rfl ?_;refine aK ?_;refine aM ?_;refine ac ?_;refine am (fun hlt=>?_) (fun hge=>?_)
 ·have hlt:i<ll.length:=by omega
  have hless:=hidl _ (List.getElem_mem hlt);unfold HK;refine bP ?_;refine ac ?_;refine aN rfl ?_;refine aq ?_;refine aa ?_;refine aj hbr rfl ?_;refine bL (F:=BeV.cells) (sz:=2) (fun _=>rfl) (j:=0) (g3.same hmr) hlt rfl rfl ?_;refine bO ?_;rw[bT (by omega)];unfold Bp;refine ac ?_;refine az rfl ?_;unfold Bo;refine aq ?_;refine aa ?_;refine aj hbr rfl ?_;refine cK (F:=BeV.cells) (sz:=2) (fun _=>rfl) (by omega) (g3.same hmr) hlt rfl ?_;refine hMk.app (by omega) _ fun y wt hy=>?_;unfold HJ;refine aY (by omega) (by omega) ?_;rw[a7];exact hJ _ _ _ _ hlt ⟨by rw[List.take_succ_eq_append_getElem hlt]; exact hy,rfl,rfl⟩
 ·have hi':i=ll.length:=by omega
  subst hi';rw[List.take_length]at hMk;unfold HL;refine bP ?_;refine ac ?_;refine aN rfl ?_;refine aW (cs:=(⟨nid,pa,pc,P⟩:BeV).cells) rfl ?_;refine hMk.app (by omega) ⟨nid,pa,pc,P⟩ fun y wt hy=>?_;have mt:=hy.same;obtain⟨a',n',c',rfl,hsl,_⟩:=hy.own.is;have hn':n'=(ll++[(⟨nid,pa,pc,P⟩:BeV)]).length:=by
   have:=hsl.1;rw[flat_len BeV.cells 2 (fun _=>rfl)]at this;omega
  subst hn';unfold Bq;refine aq ?_;refine aa ?_;refine bJ (mt.get hb (fun h=>h)) rfl rfl (by show 3<10; omega) fun w38 h38 hs38 hb38=>?_;have hne:∀k f,a'=some ⟨k,f,none⟩→w.heap.size≤k∧k<wt.heap.size:=fun k f e=>by
   have hv:bf (.slice a' (ll++[(⟨nid,pa,pc,P⟩:BeV)]).length c') k:=⟨f,_,_,by rw[e]⟩
   exact⟨hy.lo k hv,hy.own.vblk_lt hv⟩
  have hz:=h38.size;have hm:aH (fun k=>k=bv) w w38:=(aH.of_same mt).trans h38;refine⟨⟨⟨a,cp,rv,a',c',ga,gc,ll++[(⟨nid,pa,pc,P⟩:BeV)],hb38,⟨g2.mod hm (fun k f e=>(k1 k f e).2),hsl.mod h38 (fun k f e hk=>by have:=(hne k f e).1; omega),fun b hb=>?_,g5.mod hm (fun k f e=>(k3 k f e).2)⟩,by rw[List.map_append,g6]; rfl,g7,fun k f e=>⟨.inl (k1 k f e).1,(k1 k f e).2⟩,fun k f e=>⟨.inr ⟨(hne k f e).1,by have:=(hne k f e).2; omega⟩,by have:=(hne k f e).1; omega⟩,fun k f e=>⟨.inl (k3 k f e).1,(k3 k f e).2⟩,fun b hb k f e=>?_⟩,.inl g8⟩,hm⟩
  ·rcases List.mem_append.1 hb with hb | hb
   ·exact(g4 b hb).mod hm (fun k f e=>(k4 b hb k f e).2)
   ·rw[List.mem_singleton.1 hb]; exact hs.mod hm (fun k f e=>(hpa k f e).2)
  ·rcases List.mem_append.1 hb with hb | hb
   ·exact⟨.inl (k4 b hb k f e).1,(k4 b hb k f e).2⟩
   ·rw[List.mem_singleton.1 hb]at e; exact⟨.inl (hpa k f e).1,(hpa k f e).2⟩
theorem L4 (h:dp L bv U w m) (hG:dQ L) (hUl:∀k,U k→k<w.heap.size) (hn:m.V.length<20) {nid:Nat} (hnx:m.nx=(nid:Int)) (hnl:nid≤1000000) (hid:∀y∈m.V,y.1<nid) {a:Option Addr} {P:List Part} {cp:Nat} (hs:aZ w a P.length 6 (P.flatMap Part.cells)) (hP:P.length≤64) (hf:∀q∈P,d7 L q) (hp:P.Pairwise fun x y=>x.comp<y.comp) :
  af Tryz.prog 37 #[.pointer (some ⟨bv,0,none⟩),.slice a P.length cp] w fun v w'=>dp L bv (cX w w' U) w' { m with V:=m.V++[(nid,P)],nx:=m.nx+1 }∧aH (fun k=>k=bv) w w':=by
 have hbv:=hUl bv h.own;refine Ls ?_;unfold Sh;refine ab (wK h hG hs hP hf hp) ?_;rintro v w2 ⟨x,rfl,hMk⟩;obtain⟨ga',gc',rfl,hsl⟩:=hMk.read;refine ak rfl ?_;refine ak rfl ?_;refine cu ?_;refine ac ?_;refine am (fun h=>absurd rfl h) (fun _=>?_);have m2:Same w w2.drew:=hMk.same.drew;have hMd:=hMk.loc (aH.refl (fun _=>False) _).drew;have hsl:aZ w2.drew ga' P.length 6 (P.flatMap Part.cells):=hsl;obtain⟨a1,cp1,rv,la,lc,ga,gc,ll,hb,⟨_,_,_,_⟩,g6,_⟩:=id (h.same m2).ex;have hll:ll.length=m.V.length:=by rw[←g6,List.length_map]
 unfold HD;refine aq ?_;refine aa ?_;refine aj hb rfl ?_;refine ah rfl ?_;refine aK ?_;refine aq ?_;refine aa ?_;refine aj hb rfl ?_;refine ah rfl ?_;refine bI ?_;refine ac ?_;refine cz (fun _=>?_) (fun h=>absurd h (by omega));refine aq ?_;refine aa ?_;refine aj hb rfl ?_;refine ah rfl ?_;refine bO ?_;rw[bT (by omega)];unfold Bm;refine ac ?_;refine az rfl ?_;unfold HB;refine aq ?_;refine aa ?_;refine aj hb rfl ?_;refine aq ?_;refine aa ?_;refine aj hb rfl ?_;refine aW (cs:=[.int .i64 7,.int .i64 0,.int .i64 0,.int .i64 0,.int .i64 0,.int .i64 0,.int .i64 0,.int .i64 0,.slice none 0 0,.int .i64 0,.int .i64 m.nx]) rfl ?_;have hd:=h.same m2;refine ab (oH hd _) ?_;rintro v w23 h23;refine aW (cs:=[.int .i64 2,.int .i64 m.nx,.int .i64 0,.int .i64 0,.int .i64 0,.int .i64 0,.int .i64 0,.int .i64 0,.slice none 0 0,.int .i64 0,.int .i64 0]) rfl ?_;refine ab (oH (hd.same h23) _) ?_;rintro v w26 h26;have m26:=h23.trans h26;obtain⟨⟨a,cp,rv,la,lc,ga,gc,ll,hb26,⟨g2,g3,g4,g5⟩,g6,g7,k1,k2,k3,k4⟩,g8⟩:=hd.same m26;refine aq ?_;refine aa ?_;refine aj hb26 rfl ?_;refine aY (by omega) (by omega) ?_;refine aq ?_;refine aa ?_;refine bJ hb26 rfl rfl (by show 5<10; omega) fun w31 h31 hs31 hb31=>?_;have hm31:aH (fun k=>k=bv) w w31:=(aH.of_same (m2.trans m26)).trans h31;have h31':dp L bv U w31 { m with nx:=m.nx+1 }:=⟨⟨a,cp,rv,la,lc,ga,gc,ll,hb31,⟨g2.mod h31 (fun k f e=>(k1 k f e).2),g3.mod h31 (fun k f e=>(k2 k f e).2),fun b hb=>(g4 b hb).mod h31 (fun k f e=>(k4 b hb k f e).2),g5.mod h31 (fun k f e=>(k3 k f e).2)⟩,g6,g7,k1,k2,k3,k4⟩,g8⟩
 have hz31:=hm31.size;have hzd:=(m26:Same w2.drew w26).size;have hz313:=h31.size;have hnew:∀k f,ga'=some ⟨k,f,none⟩→w.heap.size≤k∧k<w31.heap.size:=fun k f e=>by
  have hv:bf (.slice ga' P.length gc') k:=⟨f,_,_,by rw[e]⟩
  have:=hMd.own.vblk_lt hv;exact⟨hMd.lo k hv,by omega⟩
 have h31'':dp L bv (cX w w31 U) w31 { m with nx:=m.nx+1 }:=h31'.weak fun k hk=>.inl hk;rw[hnx];refine ab (QS (nid:=nid) h31'' (fun k hk=>hk.elim (fun e=>Nat.lt_of_lt_of_le (hUl k e) hz31) (fun e=>e.2)) (by show m.V.length≤100; omega) hid ((hsl.same m26).mod h31 (fun k f e hk=>by have:=(hnew k f e).1; omega)) (fun k f e=>⟨.inr (hnew k f e),by have:=(hnew k f e).1; omega⟩)) ?_;rintro v w33 ⟨hv,hm⟩;have hz:=hm.size;rw[←hnx];exact⟨hv.weak fun k hk=>by
  rcases hk with(hk | hk) | hk
  ·exact .inl hk
  ·exact .inr ⟨hk.1,by omega⟩
  ·exact .inr ⟨by omega,hk.2⟩,hm31.trans hm⟩
end
end
section
attribute [local irreducible] kO kB bG bH kN kG aA ai aw aB bj knew bB aP ay aE bk aD aU bC bD a8 kbool kint kstr keq kun ksl bz cQ kta kmk kmm ksem ksemU bd aI aL ae kL
section
variable {L:List Comp} {w:World} {a:Option Addr} {cp:Nat} {ra:Option Addr} {R:List ResM} {rc:Nat}
theorem QT (hs:aZ w a L.length 7 (L.flatMap Comp.cells)) (hG:dQ L) (h0:0<L.length) (hL10:L.length≤10) (hr:aZ w ra R.length 2 (R.flatMap ResM.cells)) (hGR:iR L R) {lo:Nat} (hlo:lo≤w.heap.size) (hfa:∀k f,a=some ⟨k,f,none⟩→lo≤k) (seed:Int) :
  af Tryz.prog 32 #[gr a L.length cp (.slice ra R.length rc),.int .i64 20,.int .i64 seed] w fun v w'=>∃bv,v=.pointer (some ⟨bv,0,none⟩)∧dp L bv (fun k=>lo≤k∧k<w'.heap.size) w' ⟨[],R.map (·.value),0,1,seed⟩∧Same w w':=by
 have hlR:=hGR.len;have hck:=fun w2 (m:Same w w2)=>ru (cp:=cp) (rc:=rc) (hs.same m) hG hL10 (hr.same m) hGR;rw[gr]at hck ⊢;refine Lq ?_;unfold Sf;refine ar fun w2 h2 hs2 hb2=>?_;have hb2:aX w2 w.heap.size=some (.cells #[.slice a L.length cp,.slice ra R.length rc] 70):=hb2;refine au hb2 rfl (by omega) ?_;refine ab (hck w2 h2) ?_;rintro v w5 ⟨⟨b,rfl⟩,h5⟩;have hb5:=h5.get hb2 (fun h=>h);have m5:=h2.trans h5;refine aK ?_;refine bO ?_;refine ac ?_;refine aN rfl ?_;refine aM ?_;refine ac ?_;refine cz (fun _=>?_) (fun h=>absurd h (by omega));refine bO ?_;rw[bT (by omega)];unfold uy;refine ac ?_;refine az rfl ?_;unfold Hz;refine au hb5 rfl (by omega) ?_;refine aW (cs:=[.slice a L.length cp,.slice ra R.length rc,.int .i64 20,.slice none 0 0,.int .i64 0,.int .i64 1,.int .i64 seed,.slice none 0 0,.slice none 0 0,.bool false]) rfl ?_;refine ar fun w16 h16 hs16 hb16=>?_;have m16:=m5.trans h16;have hz5:=m5.size;refine cA R.length (fun i x wr=>x=.int .i64 i∧∃gs,aX wr w5.heap.size=some (.cells #[.slice a L.length cp,.slice ra R.length rc,.int .i64 20,.slice none 0 0,.int .i64 0,.int .i64 1,.int .i64 seed,gs,.slice none 0 0,.bool false] 73)∧bV wr gs 1 (((R.take i).map (·.value)).map (Value.int .i64))∧(∀k,bf gs k→w16.heap.size≤k)∧Same w wr∧aX wr w.heap.size=some (.cells #[.slice a L.length cp,.slice ra R.length rc] 70)∧w16.heap.size≤wr.heap.size) ⟨c8 ⟨rfl,_,hb16,bV.nil _ _,(fun k hk=>absurd hk (Ll k)),m16,h16.get hb5 (fun h=>h),Nat.le_refl _⟩,fun x wr hx=>?_⟩;obtain⟨i,hi,⟨rfl,gs,hbg,hO,hgk,hwr,hsc,hzr⟩,hJ⟩:=bK hx;unfold Hy;refine aa ?_;refine aj hsc rfl ?_;refine aK ?_;refine aM ?_;refine ac ?_;refine am (fun hlt=>?_) (fun hge=>?_)
 ·have hlt:i<R.length:=by omega
  have htk:((R.take (i+1)).map (·.value)).map (Value.int .i64)=((R.take i).map (·.value)).map (Value.int .i64)++[.int .i64 (R[i]).value]:=by
   rw[List.take_succ_eq_append_getElem hlt,List.map_append,List.map_append]; rfl
  have hlo':(((R.take i).map (·.value)).map (Value.int .i64)).length=i:=by
   rw[List.length_map,List.length_map,List.length_take]; omega
  unfold Hx;have md:Same wr wr.drew:=(aH.refl (fun _=>False) _).drew;have hbd:=md.get hbg (fun h=>h);have hsd:=md.get hsc (fun h=>h);have hOd:=hO.same md;have mrd:=hwr.trans md;have hzd:=md.size;generalize wr.drew=wd at *;refine aq ?_;refine aa ?_;refine ao (v:=gs) hbd rfl ?_;refine ah rfl ?_;refine aa ?_;refine aj hsd rfl ?_;refine ah rfl ?_;refine bL (F:=ResM.cells) (sz:=2) (fun _=>rfl) (j:=1) (hr.same mrd) hlt rfl rfl ?_;refine ah rfl ?_;refine aR (cs:=[.int .i64 (R[i]).value]) rfl fun w36 h36 hs36 hb36=>?_;refine ah (ao (v:=gs) (h36.get hbd (fun h=>h)) rfl ⟨rfl,rfl⟩) ?_;refine be pA (by omega) (hOd.same h36) (Src.ofSlIs (hk:=i8.choose_spec) 1 (aZ.blk hb36 rfl) rfl) (by rw[hlo']; simp; omega) (by rw[hlo']; simp; omega) ?_;intro v' w38 hO38 m38 hf38;have hgk2:∀k,bf v' k→w16.heap.size≤k:=fun k hk=>by
   rcases hf38 k hk with h | h
   ·exact hgk k h
   ·have:=h36.size; omega
  have hlt16:w5.heap.size<w16.heap.size:=aC hb16;have hltw:w.heap.size<w16.heap.size:=aC (h16.get hb5 (fun h=>h));have hg38:=m38.get (h36.get hbd (fun h=>h)) (fun hk=>by have:=hgk _ hk; omega);have hs38:=m38.get (h36.get hsd (fun h=>h)) (fun hk=>by have:=hgk _ hk; omega);obtain⟨av,nv,cv,rfl,_,_⟩:=hO38.is;refine aq ?_;refine aa ?_;refine bJ hg38 rfl rfl (by show 7<10; omega) fun w40 h40 hs40 hb40=>?_;have hb40:aX w40 w5.heap.size=some (.cells #[.slice a L.length cp,.slice ra R.length rc,.int .i64 20,.slice none 0 0,.int .i64 0,.int .i64 1,.int .i64 seed,.slice av nv cv,.slice none 0 0,.bool false] 73):=hb40;unfold Hw;refine aY (by omega) (by omega) ?_;rw[a7];have hz38:=m38.size;have hz36:=h36.size;refine hJ _ _ hlt ⟨rfl,.slice av nv cv,hb40,?_,hgk2,?_,h40.get hs38 (fun e=>by have:=aC hb2; have:=h5.size; omega),by omega⟩
  ·rw[htk];exact hO38.mod h40 fun k hk e=>by have:=hgk2 k hk; omega
  ·exact(mrd.trans h36).trans' ((m38.mono fun k _ e=>.inr (by have:=hgk k e; omega)).trans (h40.mono fun k _ e=>.inr (by omega)))
 ·have hi':i=R.length:=by omega
  subst hi';rw[List.take_length]at hO;have h516:w5.heap.size<w16.heap.size:=aC hb16;obtain⟨ga,gn,gc,rfl,hgs,hgn⟩:=hO.is;obtain rfl:gn=(R.map (·.value)).length:=by have:=hgn rfl; rw[List.length_map]at this; exact this
  have hgb:∀k f,ga=some ⟨k,f,none⟩→w16.heap.size≤k∧k<wr.heap.size:=fun k f e=>by
   have hv:bf (.slice ga (R.map (·.value)).length gc) k:=⟨f,_,_,by rw[e]⟩
   exact⟨hgk k hv,hO.vblk_lt hv⟩
  have hzw:=hwr.size;exact⟨_,rfl,⟨⟨a,cp,_,none,0,ga,gc,[],hbg,⟨hs.same hwr,aZ.nil _ _ _,fun b hb=>(by cases hb),hgs⟩,rfl,rfl,fun k f e=>⟨⟨hfa k f e,by have:=oq hs h0 (by omega) k f e; omega⟩,by have:=oq hs h0 (by omega) k f e; omega⟩,fun k f e=>(by cases e),fun k f e=>⟨⟨by have:=(hgb k f e).1; omega,(hgb k f e).2⟩,by have:=(hgb k f e).1; omega⟩,fun b hb=>(by cases hb)⟩,⟨by omega,by omega⟩⟩,hwr⟩
end
end
section
attribute [local irreducible] kO kB bG bH kN kG aA ai aw aB bj knew bB aP ay aE bk aD aU bC bD a8 kbool kint kstr keq kun ksl bz cQ kta kmk kmm ksem ksemU bd aI aL ae kL
structure gP (L:List Comp) (many bu:Nat) (U:Nat→Prop) (w:World) (l:List OrdM) (gv dr:Nat):Prop where
 ex:∃a cp rv la lc,aX w bu=some (.cells #[.slice a L.length cp,rv,.int .i64 many,.slice la l.length lc,natV gv,natV dr] 78)∧aZ w la l.length 4 (l.flatMap OrdM.cells)∧rv.cells=#[rv]∧∀k f,la=some ⟨k,f,none⟩→U k∧k≠bu
 own:U bu
theorem gP.mod {U fp:Nat→Prop} (h:gP L many bu U w l gv dr) (m:aH fp w w') (hf:∀k,U k→¬fp k):gP L many bu U w' l gv dr:=by
 obtain⟨⟨a,cp,rv,la,lc,h1,h2,h3,h4⟩,h5⟩:=h;exact⟨⟨a,cp,rv,la,lc,m.get h1 (hf _ h5),h2.mod m (fun k f e=>hf k (h4 k f e).1),h3,h4⟩,h5⟩
theorem gP.same (h:gP L many bu U w l gv dr) (m:Same w w'):gP L many bu U w' l gv dr:=h.mod m fun _ _ h=>h
theorem gP.weak {U U':Nat→Prop} (h:gP L many bu U w l gv dr) (hs:∀k,U k→U' k):gP L many bu U' w l gv dr:=by
 obtain⟨⟨a,cp,rv,la,lc,h1,h2,h3,h4⟩,h5⟩:=h;exact⟨⟨a,cp,rv,la,lc,h1,h2,h3,fun k f e=>⟨hs k (h4 k f e).1,(h4 k f e).2⟩⟩,hs _ h5⟩
section
variable {L:List Comp} {w:World} {a:Option Addr} {cp:Nat} {ra:Option Addr} {R:List ResM} {rc:Nat}
theorem L5 (hs:aZ w a L.length 7 (L.flatMap Comp.cells)) (hG:dQ L) (hL10:L.length≤10) (hr:aZ w ra R.length 2 (R.flatMap ResM.cells)) (hGR:iR L R) (many:Nat) (hm:many≤64) :
  af Tryz.prog 33 #[gr a L.length cp (.slice ra R.length rc),.int .i64 many] w fun v w'=>(∃bu,v=.pointer (some ⟨bu,0,none⟩)∧gP L many bu (fun k=>w.heap.size≤k∧k<w'.heap.size) w' [] 0 0)∧Same w w':=by
 have hck:=fun w2 (m:Same w w2)=>ru (cp:=cp) (rc:=rc) (hs.same m) hG hL10 (hr.same m) hGR;rw[gr]at hck ⊢;refine LE ?_;unfold Sm;refine ar fun w2 h2 hs2 hb2=>?_;have hb2:aX w2 w.heap.size=some (.cells #[.slice a L.length cp,.slice ra R.length rc] 70):=hb2;refine au hb2 rfl (by omega) ?_;refine ab (hck w2 h2) ?_;rintro v w5 ⟨⟨b,rfl⟩,h5⟩;refine aK ?_;refine bO ?_;refine ac ?_;refine aN rfl ?_;refine aM ?_;refine ac ?_;refine cz (fun _=>?_) (fun h=>absurd h (by omega));refine bO ?_;rw[bT (by omega)];unfold uA;refine ac ?_;refine az rfl ?_;unfold HS;refine au (h5.get hb2 (fun h=>h)) rfl (by omega) ?_;refine aW (cs:=[.slice a L.length cp,.slice ra R.length rc,.int .i64 many,.slice none 0 0,.int .i64 0,.int .i64 0]) rfl ?_;refine ar fun w16 h16 hs16 hb16=>?_;have hz:=(h2.trans h5).size;exact⟨⟨_,rfl,⟨a,cp,_,none,0,hb16,aZ.nil _ _ _,rfl,fun k f e=>(by cases e)⟩,⟨hz,by omega⟩⟩,(h2.trans h5).trans h16⟩
end
def docM (M:List Nat) (i:Nat) (fr seed:Int):wI:=⟨fb M i,[5,0],fr,((i+1:Nat):Int),seed⟩
structure eB (w:World) (c:WC) (o:OC) (bh bv bu:Nat) (lay host:Array Value) (many n:Nat) (V:d8) (m:wI) (X U Uu:Nat→Prop) (ww:World):Prop where
 pr:∃S t B,c9 c w o X ww S t B [] 0 0∧bX S B=V∧B.nx=n+1∧S.gens.length=20∧t≤n
 v:dp plainC bv U ww m
 u:gP plainC many bu Uu ww [] 0 0
 hx:aX ww w.heap.size=some (.cells lay 26)
 hh:aX ww bh=some (.cells host 43)
 ap:∀k,X k→¬c.mine k
 xs:X w.heap.size∧X bh
 us:∀k,U k→X k∧¬Uu k∧k≠bh∧k≠w.heap.size
 uu:∀k,Uu k→X k∧k≠bh∧k≠w.heap.size
section
variable {w:World} {c:WC} {o:OC} {bh bv bu many n:Nat} {lay host:Array Value} {V:d8} {m:wI} {X U Uu:Nat→Prop} {ww wr:World}
theorem eB.lt (h:eB w c o bh bv bu lay host many n V m X U Uu ww) {k:Nat} (hk:X k):w.heap.size≤k∧k<ww.heap.size:=by
 obtain⟨S,t,B,hP,_⟩:=h.pr;exact hP.lt hk
theorem eB.mlt (h:eB w c o bh bv bu lay host many n V m X U Uu ww) {k:Nat} (hk:c.mine k):w.heap.size≤k∧k<ww.heap.size:=by
 obtain⟨S,t,B,⟨⟨fx,U,hW,_⟩,_⟩,_⟩:=h.pr;exact hW.A.lt (hW.fm k hk)
theorem eB.same0 (h:eB w c o bh bv bu lay host many n V m X U Uu ww):Same w ww:=by
 obtain⟨S,t,B,hP,_⟩:=h.pr;exact hP.same0
theorem eB.act (h:eB w c o bh bv bu lay host many n V m X U Uu ww) {c':WC} {n':Nat} {V':d8} (hc:c'.mine=c.mine) (hP:∃S t B,c9 c' w o X wr S t B [] 0 0∧bX S B=V'∧B.nx=n'+1∧S.gens.length=20∧t≤n') (mm:aH (fun k=>w.heap.size≤k∧¬X k) ww wr):eB w c' o bh bv bu lay host many n' V' m X U Uu wr :=
 ⟨hP,h.v.mod mm fun k hk hn=>hn.2 (h.us k hk).1,h.u.mod mm fun k hk hn=>hn.2 (h.uu k hk).1,mm.get h.hx (fun e=>e.2 h.xs.1),mm.get h.hh (fun e=>e.2 h.xs.2),by rw[hc]; exact h.ap,h.xs,h.us,h.uu⟩
theorem eB.ap' (h:eB w c o bh bv bu lay host many n V m X U Uu ww):∀k,cX ww wr X k→¬c.mine k:=by
 intro k hk;rcases hk with hk | hk
 ·exact h.ap k hk
 ·intro e;have:=(h.mlt e).2;omega
theorem eB.grow (h:eB w c o bh bv bu lay host many n V m X U Uu ww) (mm:Same ww wr):eB w c o bh bv bu lay host many n V m (cX ww wr X) U Uu wr:=by
 obtain⟨S,t,B,hP,h2⟩:=id h.pr;exact⟨⟨S,t,B,hP.grow mm fun k hk=>hk.elim,h2⟩,h.v.same mm,h.u.same mm,mm.get h.hx (fun h=>h),mm.get h.hh (fun h=>h),h.ap',⟨.inl h.xs.1,.inl h.xs.2⟩,fun k hk=>⟨.inl (h.us k hk).1,(h.us k hk).2⟩,fun k hk=>⟨.inl (h.uu k hk).1,(h.uu k hk).2⟩⟩
theorem eB.doc (h:eB w c o bh bv bu lay host many n V m X U Uu ww) {m':wI} (hv:dp plainC bv (cX ww wr U) wr m') (mm:aH (fun k=>k=bv) ww wr):eB w c o bh bv bu lay host many n V m' (cX ww wr X) (cX ww wr U) Uu wr:=by
 obtain⟨S,t,B,hP,h2⟩:=id h.pr;have hvU:=h.us _ h.v.own;have hP':=hP.grow mm fun k hk=>by subst hk; exact⟨hvU.1,h.ap _ hvU.1⟩
 refine⟨⟨S,t,B,hP',h2⟩,hv,h.u.mod mm fun k hk e=>by subst e; exact hvU.2.1 hk,mm.get h.hx (fun e=>hvU.2.2.2 e.symm),mm.get h.hh (fun e=>hvU.2.2.1 e.symm),h.ap',⟨.inl h.xs.1,.inl h.xs.2⟩,fun k hk=>?_,fun k hk=>⟨.inl (h.uu k hk).1,(h.uu k hk).2⟩⟩;rcases hk with hk | hk
 ·exact⟨.inl (h.us k hk).1,(h.us k hk).2⟩
 ·have h1:=(h.lt h.xs.1).2;have h2:=(h.lt h.xs.2).2;exact⟨.inr hk,fun e=>by have:=(h.lt (h.uu k e).1).2; omega,by omega,by omega⟩
end
end
section
attribute [local irreducible] kO kB bG bH kN kG aA ai aw aB bj knew bB aP ay aE bk aD aU bC bD a8 kbool kint kstr keq kun ksl bz cQ kta kmk kmm ksem ksemU bd aI aL ae kL
theorem wL (h:y∈fb M i):y.1<i+1:=by
 obtain⟨j,hj,rfl⟩:=List.mem_map.1 h;have:j<i:=by simpa using hj
 show j+1<i+1;omega
theorem jn (i m j:Nat):(partsM i m j).Pairwise fun x y=>x.comp<y.comp:=by
 unfold partsM;refine List.pairwise_map.2 (List.Pairwise.imp ?_ ((kH j).filter _));intro a b hab;show(a:Int)<(b:Int);omega
section
variable {w:World} {c:WC} {o:OC} {bh bv bu many:Nat} {X U Uu:Nat→Prop} {ww wr:World}
theorem rF {pr:Nat→Prop} (hL:cO pr Sa w) (h6:pr 6) (hD:fM w) {a:Option Addr} {cp:Nat} {M:List Nat} (hs:aZ w a M.length 1 (M.map msk)) (hM:∀m∈M,m<4294967296) {i0 i1 who seed:Int} {wd og:Bool} {host:Array Value} {i:Nat} {fr:Int} (hcL:c.L=plainC) (hi:i<M.length) (hi20:i<20)
  (h:eB w c o bh bv bu (kI a M.length cp i0 i1 who seed wd og).toArray host many i (fb M i) (docM M i fr seed) X U Uu ww) (xo xu:Value) {J:Value→World→Prop} {Q:PQ}
  (hJ:∀X' U' w',eB w c o bh bv bu (kI a M.length cp i0 i1 who seed wd og).toArray host many (i+1) (fb M (i+1)) (docM M (i+1) fr seed) X' U' Uu w'→J (.int .i64 ((i+1:Nat):Int)) w') :
  LI (.pointer (some ⟨w.heap.size,0,none⟩)) (.pointer (some ⟨bh,0,none⟩)) (.pointer (some ⟨c.bw,0,none⟩)) xo (.pointer (some ⟨bv,0,none⟩)) xu (.int .i64 i) J Q ww:=by
 have h0w:=h.same0;have hMi:M.getD i 0=M[i]:=by rw[List.getD_eq_getElem?_getD,List.getElem?_eq_getElem hi]; rfl
 have hml:M[i]<4294967296:=hM _ (List.getElem_mem hi);unfold LI;refine aR (cs:=[]) rfl fun w4 h4 hs4 hb4=>?_;refine ib 4 (fun j x y wr=>y=.int .i64 j∧bV wr x 6 ((partsM i M[i] j).flatMap Part.cells)∧(∀k,bf x k→ww.heap.size≤k)∧Same ww wr) ⟨jP ⟨rfl,bV.blk hb4 (n:=0) (by simp[partsM]) (by simp[maxLen]),fun k hk=>by rw[cg hk]; exact Nat.le_refl _,h4⟩,fun x y wr hx=>?_⟩;obtain⟨j,hj,⟨rfl,hO,hxk,hmr⟩,hJ2⟩:=eX hx;have hxr:=hmr.get h.hx (fun h=>h);have hfl:=flat_len Part.cells 6 (fun _=>rfl) (partsM i M[i] j);have hpl:=jA i M[i] j;unfold Pg;refine aM ?_;refine ac ?_;refine am (fun hlt=>?_) (fun hge=>?_)
 ·have hlt:j<4:=by omega
  unfold Pd;refine aa ?_;refine ao (v:=.slice a M.length cp) hxr rfl ?_;refine cF (F:=msk) (hs.same (h0w.trans hmr)) hi rfl ?_;rw[msk,dz];refine ah (by omega) ?_;rw[iZ (k:=.u32) M[i] j (by show j≤32; omega),fB];refine ah (by omega) ?_;have hrem:((M[i]/2^j:Nat):Int).tmod 2=((M[i]/2^j%2:Nat):Int):=by rw[Int.tmod_eq_emod_of_nonneg (Int.natCast_nonneg _)]; simp
  rw[hrem];refine aF ?_;refine ac ?_;refine am (fun hb=>?_) (fun hb=>?_)
  ·have hb:M[i]/2^j%2=1:=by omega
   refine LM (by omega) (by omega) ?_;refine aY (by omega) (by omega) ?_;rw[show(10:Int)*(i:Int)+(j:Int)=((10*i+j:Nat):Int) by omega];refine aW (cs:=[.int .i64 ((10*i+j:Nat):Int),.int .i64 0,.int .i64 0,.int .i64 0]) rfl ?_;refine aW (cs:=(partM i j).cells) rfl ?_;refine aR (cs:=(partM i j).cells) rfl fun w24 h24 hs24 hb24=>?_;refine be pR (by omega) (hO.same h24) (Src.ofSlIs (hk:=jy.choose_spec) 1 (aZ.blk hb24 rfl) rfl) (by rw[hfl]; show _*6+6≤_; omega) (by rw[hfl]; simp[Part.cells]; omega) ?_;intro v' w26 hO26 m26 hf26;unfold E2;refine aY (by omega) (by omega) ?_;rw[a7];refine hJ2 _ _ _ hlt ⟨rfl,?_,fun k hk=>?_,(hmr.trans h24).trans' (m26.mono fun k _ e=>.inr (hxk k e))⟩
   ·rw[k9,if_pos hb,List.flatMap_append];simpa using hO26
   ·rcases hf26 k hk with e | e
    ·exact hxk k e
    ·exact Nat.le_trans (hmr.trans h24).size e
  ·have hb:¬M[i]/2^j%2=1:=by omega
   unfold E2;refine aY (by omega) (by omega) ?_;rw[a7];refine hJ2 _ _ _ hlt ⟨rfl,?_,hxk,hmr⟩;rw[k9,if_neg hb];exact hO
 ·have hj4:j=4:=by omega
  subst hj4;obtain⟨a',n',c',rfl,hsl,_⟩:=hO.is;have hn':n'=(partsM i M[i] 4).length:=by
   have:=hsl.1;rw[flat_len Part.cells 6 (fun _=>rfl)]at this;omega
  subst hn';have hfa:∀k f,a'=some ⟨k,f,none⟩→ww.heap.size≤k∧k<wr.heap.size:=fun k f e=>by
   have hv:bf (.slice a' (partsM i M[i] 4).length c') k:=⟨f,_,_,by rw[e]⟩
   exact⟨hxk k hv,hO.vblk_lt hv⟩
  have hpl:=jA i M[i] 4;unfold Pf;have hr:=h.grow hmr;obtain⟨S,t,B,hP,hv,hnx,hg,ht⟩:=id hr.pr;have hlen:(bX S B).length=i:=by rw[hv,kF]
  refine ab (LL hL h6 hD hP (by omega) (by omega) hsl (fun k f e=>.inr (hfa k f e)) (by omega) (by rw[hcL]; exact gx) (rz _ _ _) (rA _ _ _) (by omega)) ?_;rintro v w2 ⟨rfl,S',B',hv',hnx',hg',hP',hm'⟩;have hr2:eB w c o bh bv bu (kI a M.length cp i0 i1 who seed wd og).toArray host many (i+1) (fb M (i+1)) (docM M i fr seed) (cX ww wr X) U Uu w2:=hr.act rfl ⟨S',t+1,B',hP',by rw[hv',hv,laidV_succ,hnx,hMi],by omega,by omega,by omega⟩ hm';have hsl2:=hsl.mod hm' (fun k f e hk=>hk.2 (.inr (hfa k f e)));refine ab (L4 (nid:=i+1) hr2.v ed (fun k hk=>(hr2.lt (hr2.us k hk).1).2) (by show(fb M i).length<20; rw[kF]; omega) rfl (by omega) (fun y hy=>wL hy) hsl2 (by omega) gx (jn _ _ _)) ?_;rintro v w3 ⟨hv3,hm3⟩;have em:({ docM M i fr seed with V:=(docM M i fr seed).V++[(i+1,partsM i M[i] 4)],nx:=(docM M i fr seed).nx+1 }:wI)=docM M (i+1) fr seed:=by
   simp only[docM,laidV_succ,hMi,Int.natCast_add,Int.natCast_one]
  rw[em]at hv3;unfold Pe;refine aY (by omega) (by omega) ?_;rw[a7];exact hJ _ _ _ (hr2.doc hv3 hm3)
end
end
section
attribute [local irreducible] kO kB bG bH kN kG aA ai aw aB bj knew bB aP ay aE bk aD aU bC bD a8 kbool kint kstr keq kun ksl bz cQ kta kmk kmm ksem ksemU bd aI aL ae kL
structure iq (w:World) (M:List Nat) (i0 i1 who seed:Int) (wd og:Bool) (many bh bv bu:Nat) (c:WC) (o:OC) (X U Uu:Nat→Prop) (w':World):Prop where
 cL:c.L=plainC
 cf:c.frame=1
 cs:c.seed=seed
 cR:c.R=[5,0]
 cr:c.rolled=rollF (plainC.map (·.rb))
 oL:o.L=plainC
 om:o.most=many
 pr:∃S t B,c9 c w o X w' S t B [] 0 0∧bX S B=fb M (min M.length 20)∧B.nx=min M.length 20+1∧S.gens.length=20∧t≤20
 ap:∀k,X k→¬c.mine k
 xb:X bh
 hb:aX w' bh=some (.cells (ip c o wd og i0 i1 who).cells.toArray 43)
 v:dp plainC bv U w' (docM M (min M.length 20) 1 seed)
 u:gP plainC many bu Uu w' [] 0 0
 us:∀k,U k→X k∧¬Uu k∧k≠bh
 uu:∀k,Uu k→X k∧k≠bh
section
variable {w:World} {c:WC} {o:OC} {bh:Nat} {X:Nat→Prop} {ww wr:World}
theorem tA {pr:Nat→Prop} (hL:cO pr Sa w) (h6:pr 6) (hD:fM w) {a:Option Addr} {cp:Nat} {M:List Nat} (hs:aZ w a M.length 1 (M.map msk)) (hM:∀m∈M,m<4294967296) (i0 i1 who seed:Int) (wd og:Bool) {many:Nat} (hmany:many≤64) :
  af Tryz.prog 6 #[.agg (kI a M.length cp i0 i1 who seed wd og).toArray,.int .i64 many] w fun v w'=>∃bh bv bu c o X U Uu,v=.tuple #[.pointer (some ⟨bh,0,none⟩),.pointer (if wd=true then some ⟨bv,0,none⟩ else none),.pointer (if og=true then some ⟨bu,0,none⟩ else none)]∧iq w M i0 i1 who seed wd og many bh bv bu c o X U Uu w':=by
 have h4:plainC.length=4:=rfl;refine Pj ?_;unfold f6;refine ar fun w2 h2 hs2 hb2=>?_;have hb2:aX w2 w.heap.size=some (.cells (kI a M.length cp i0 i1 who seed wd og).toArray 26):=hb2;refine aa ?_;refine au (cs:=[.int .i64 i0,.int .i64 i1]) hb2 rfl (by omega) ?_;refine aa ?_;refine aj (v:=.int .i64 who) hb2 rfl ?_;refine aW (cs:=[.pointer none,.pointer none,.int .i64 i0,.int .i64 i1,.int .i64 who]) rfl ?_;refine ar fun w9 h9 hs9 hb9=>?_;have hb9:aX w9 w2.heap.size=some (.cells #[.pointer none,.pointer none,.int .i64 i0,.int .i64 i1,.int .i64 who] 43):=hb9;have md:Same w9 w9.drew:=(aH.refl (fun _=>False) _).drew;have m9:Same w w9.drew:=(h2.trans h9).trans md;have hx9:=(h9.trans md).get hb2 (fun h=>h);have hh9:=md.get hb9 (fun h=>h);have hz2:=h2.size;have hlt2:=aC hh9;have hltx:=aC hb2;generalize w9.drew=wq at *;clear md hb9 h9 hs9;refine ab (il wq) ?_;rintro v10 w11 ⟨⟨a1,c1,ra1,rc1,rfl,hC1,hR1,hla1⟩,h11⟩;refine aa ?_;refine aj (v:=.int .i64 seed) (h11.get hx9 (fun h=>h)) rfl ?_;refine ah rfl ?_;refine ah (aj (v:=.int .i64 seed) hx9 rfl ⟨rfl,rfl⟩) ?_;have m11:=m9.trans h11;refine ab (OS (hD.same m11) hC1 ed hR1 gw (by omega) (most:=20) (by omega) seed) ?_;rintro v14 w15 ⟨c,rfl,hcL,hcf,hcs,hcr,hcR,hW⟩;refine ak rfl ?_;refine ak rfl ?_;refine ab (il w15) ?_;rintro v18 w19 ⟨⟨a2,c2,ra2,rc2,rfl,hC2,hR2,hla2⟩,h19⟩;refine ab (OQ hC2 ed hR2 gw (by omega) hmany) ?_;rintro v20 w21 ⟨o,rfl,hoL,hom,hO,h21⟩;refine ak rfl ?_;refine ak rfl ?_;rw[aJ fK];refine ac ?_;refine aN rfl ?_;rw[aJ rj];refine ac ?_;refine aN rfl ?_;rw[aV bU];refine ac ?_;refine aN rfl ?_;rw[aV bU];have s15:=hW.A.same0;have m15:=m11.trans s15;have m21:=m15.trans (h19.trans h21);have n21:Same wq w21:=h11.trans (s15.trans (h19.trans h21));have hx21:=n21.get hx9 (fun h=>h);have hh21:=n21.get hh9 (fun h=>h);have hz11:=h11.size;have hzm11:=m11.size;have hP0:c9 c w o (fun k=>w.heap.size≤k∧k<w11.heap.size) w21 (newS plainC 20) 0 ⟨[],1⟩ [] 0 0:=(c9.new (by rw[hoL]; omega) ((hW.base m11).ext h19) h21 hO).less fun k hk=>.inl (.inr hk);have hap0:∀k,(w.heap.size≤k∧k<w11.heap.size)→¬c.mine k:=fun k hk e=>by have:=(hW.A.lt e).1; omega
 clear hW hO hC1 hC2 hR1 hR2 hla1 hla2;unfold BW;refine ac ?_;refine az rfl ?_;unfold Pi;have md:Same w21 w21.drew:=(aH.refl (fun _=>False) _).drew;have m22:=m21.trans md;have hzd:w21.drew.heap.size=w21.heap.size:=rfl;have hxd:=md.get hx21 (fun h=>h);have hh22:=md.get hh21 (fun h=>h);have hP1:=hP0.loc md;have hz21:=n21.size;generalize w21.drew=we at *;refine ab (il we) ?_;rintro v35 w36 ⟨⟨a3,c3,ra3,rc3,rfl,hC3,hR3,hla3⟩,h36⟩;refine aa ?_;refine aj (v:=.int .i64 seed) (h36.get hxd (fun h=>h)) rfl ?_;refine ah rfl ?_;refine ah (aj (v:=.int .i64 seed) hxd rfl ⟨rfl,rfl⟩) ?_;refine ab (QT hC3 ed (by omega) (by omega) hR3 gw (lo:=we.heap.size) h36.size hla3 seed) ?_;rintro v39 w40 ⟨bv,rfl,hV,h40⟩;refine ab (il w40) ?_;rintro v41 w42 ⟨⟨a4,c4,ra4,rc4,rfl,hC4,hR4,hla4⟩,h42⟩;refine ab (L5 hC4 ed (by omega) hR4 gw many hmany) ?_;rintro v43 w44 ⟨⟨bu,rfl,hU⟩,h44⟩;have m44:Same we w44:=(h36.trans h40).trans (h42.trans h44);have hz44:=m44.size;have hz40:=(h42.trans h44).size;have hbv:=hV.own.1;have hz42:=h42.size;have hz36:=(h36.trans h40).size;have hP3:=hP1.grow m44 fun k hk=>hk.elim;have I44:eB w c o w2.heap.size bv bu (kI a M.length cp i0 i1 who seed wd og).toArray #[.pointer none,.pointer none,.int .i64 i0,.int .i64 i1,.int .i64 who] many 0 (fb M 0) (docM M 0 0 seed) (cX we w44 fun k=>w.heap.size≤k∧k<w11.heap.size) (fun k=>we.heap.size≤k∧k<w40.heap.size) (fun k=>w42.heap.size≤k∧k<w44.heap.size) w44 :=
  ⟨⟨newS plainC 20,0,⟨[],1⟩,hP3,rfl,rfl,A7 _ _,Nat.le_refl _⟩,hV.same (h42.trans h44),hU,m44.get hxd (fun h=>h),m44.get hh22 (fun h=>h),fun k hk=>by
   rcases hk with hk | hk
   ·exact hap0 k hk
   ·intro e;obtain⟨⟨fx,U,hW,_⟩,_⟩:=hP1;have:=(hW.A.lt (hW.fm k e)).2;omega,⟨.inl ⟨Nat.le_refl _,by omega⟩,.inl ⟨by omega,by omega⟩⟩,fun k (hk:we.heap.size≤k∧k<w40.heap.size)=>⟨.inr ⟨hk.1,by omega⟩,fun(e:w42.heap.size≤k∧k<w44.heap.size)=>by omega,by omega,by omega⟩,fun k (hk:w42.heap.size≤k∧k<w44.heap.size)=>⟨.inr ⟨by omega,hk.2⟩,by omega,by omega⟩⟩
 obtain⟨S,t,B,hP,hv,hnx,hg,ht⟩:=id I44.pr;refine ab (Pt hP I44.ap (by omega) (by omega)) ?_;rintro v45 w46 ⟨rfl,hP',hm46⟩;have I46:=I44.act (c':=c.tune c.R (c.frame+1) c.seed c.gn) rfl ⟨S,t,B,hP',hv,hnx,hg,ht⟩ hm46;refine ab (PN I46.v (Int.le_refl _) (by show(0:Int)<_; omega)) ?_;rintro v47 w48 ⟨hV48,hm48⟩;have I48:=I46.doc (m':=docM M 0 1 seed) (hV48.weak fun k hk=>.inl hk) hm48;generalize hc1:c.tune c.R (c.frame+1) c.seed c.gn=c1 at *;have e1:c1.bw=c.bw:=by rw[←hc1]; rfl
 have e2:c1.L=plainC:=by rw[←hc1]; exact hcL
 have e3:c1.frame=1:=by rw[←hc1]; show c.frame+1=1; omega
 have e4:c1.seed=seed:=by rw[←hc1]; exact hcs
 have e5:c1.R=[5,0]:=by rw[←hc1]; exact hcR
 have e6:c1.rolled=rollF (plainC.map (·.rb)):=by rw[←hc1]; exact hcr
 rw[←e1];clear hc1 hP hP' hV48 I44 hV hP0 hP1 hcL hcf hcs hcr hcR e1 hx21 hh21 hxd hh22 hx9 hh9 hb2 hap0;refine cA (min M.length 20) (fun i x wr=>x=.int .i64 i∧∃X U,eB w c1 o w2.heap.size bv bu (kI a M.length cp i0 i1 who seed wd og).toArray #[.pointer none,.pointer none,.int .i64 i0,.int .i64 i1,.int .i64 who] many i (fb M i) (docM M i 1 seed) X U (fun k=>w42.heap.size≤k∧k<w44.heap.size) wr) ⟨c8 ⟨rfl,_,_,I48⟩,fun x wr hx=>?_⟩;obtain⟨i,hi,⟨rfl,X,U,hI⟩,hJ⟩:=bK hx;have fin:i=min M.length 20→∀{Q:PQ},(∀v w',(∃bh bv bu c o X U Uu,v=.tuple #[.pointer (some ⟨bh,0,none⟩),.pointer (if wd=true then some ⟨bv,0,none⟩ else none),.pointer (if og=true then some ⟨bu,0,none⟩ else none)]∧iq w M i0 i1 who seed wd og many bh bv bu c o X U Uu w')→Q v w')→BV (.pointer (some ⟨w.heap.size,0,none⟩)) (.pointer (some ⟨w2.heap.size,0,none⟩)) (.pointer (some ⟨c1.bw,0,none⟩)) (.pointer (some ⟨o.bo,0,none⟩)) (.pointer (some ⟨bv,0,none⟩)) (.pointer (some ⟨bu,0,none⟩)) Q wr:=by
  intro hie Q hQ;obtain⟨S,t,B,hP,hv,hnx,hg,ht⟩:=id hI.pr;have hUX:=fun k hk=>(hI.us k hk).1;have f11:∀(X2 U2:Nat→Prop) (w2':World),c9 c1 w o X2 w2' S t B [] 0 0→(∀k,X2 k→¬c1.mine k)→X2 w2.heap.size→aX w2' w.heap.size=some (.cells (kI a M.length cp i0 i1 who seed wd og).toArray 26)→aX w2' w2.heap.size=some (.cells #[.pointer (if wd=true then some ⟨c1.bw,0,none⟩ else none),.pointer none,.int .i64 i0,.int .i64 i1,.int .i64 who] 43)→dp plainC bv U2 w2' (docM M i 1 seed)→gP plainC many bu (fun k=>w42.heap.size≤k∧k<w44.heap.size) w2' [] 0 0→(∀k,U2 k→X2 k∧¬(w42.heap.size≤k∧k<w44.heap.size)∧k≠w2.heap.size)→(∀k,(w42.heap.size≤k∧k<w44.heap.size)→X2 k∧k≠w2.heap.size)→uD (.pointer (some ⟨w.heap.size,0,none⟩)) (.pointer (some ⟨w2.heap.size,0,none⟩)) (.pointer (some ⟨o.bo,0,none⟩)) (.pointer (if wd=true then some ⟨bv,0,none⟩ else none)) (.pointer (some ⟨bu,0,none⟩)) Q w2':=by
   intro X2 U2 w2' hP2 hap2 hxb hx hh hV2 hU2 hus huu;unfold uD;refine aa ?_;refine aj (v:=.bool og) hx rfl ?_;refine ac ?_;refine dh (fun ho=>?_) (fun ho=>?_)
   ·refine aq ?_;refine aa ?_;refine bJ hh rfl rfl (by show 1<5; omega) fun w89 h89 hs89 hb89=>?_;obtain⟨hP3,hap3⟩:=Pu hP2 hap2 hxb h89;unfold uC;refine hQ _ _ ⟨_,bv,bu,c1,o,_,U2,_,by simp[ho],e2,e3,e4,e5,e6,hoL,hom,⟨S,t,B,hP3,by rw[hv,hie],by omega,hg,by omega⟩,hap3,.inl hxb,?_,by rw[←hie]; exact hV2.mod h89 (fun k hk e=>(hus k hk).2.2 e),hU2.mod h89 (fun k hk e=>(huu k hk).2 e),fun k hk=>⟨.inl (hus k hk).1,(hus k hk).2⟩,fun k hk=>⟨.inl (huu k hk).1,(huu k hk).2⟩⟩;rw[hb89,ho]; rfl
   ·unfold uC;have ho:og=false:=by simpa using ho
    refine hQ _ _ ⟨_,bv,bu,c1,o,_,U2,_,by simp[ho],e2,e3,e4,e5,e6,hoL,hom,⟨S,t,B,hP2,by rw[hv,hie],by omega,hg,by omega⟩,hap2,hxb,?_,by rw[←hie]; exact hV2,hU2,hus,huu⟩;rw[hh,ho]; rfl
  unfold BV;refine aa ?_;refine aj (v:=.bool wd) hI.hx rfl ?_;refine ac ?_;refine dh (fun hw=>?_) (fun hw=>?_)
  ·refine aq ?_;refine aa ?_;refine bJ hI.hh rfl rfl (by show 0<5; omega) fun w85 h85 hs85 hb85=>?_;obtain⟨hP3,hap3⟩:=Pu hP hI.ap hI.xs.2 h85;refine Eq.mp (by rw[hw,if_pos rfl]) (f11 _ U _ hP3 hap3 (.inl hI.xs.2) (h85.get hI.hx (by omega)) (by rw[hb85,hw]; rfl) (hI.v.mod h85 fun k hk e=>(hI.us k hk).2.2.1 e) (hI.u.mod h85 fun k hk e=>(hI.uu k hk).2.1 e) (fun k hk=>⟨.inl (hI.us k hk).1,(hI.us k hk).2.1,(hI.us k hk).2.2.1⟩) fun k hk=>⟨.inl (hI.uu k hk).1,(hI.uu k hk).2.1⟩)
  ·have hw:wd=false:=by simpa using hw
   refine Eq.mp (by rw[hw,if_neg (by simp)]) (f11 _ U _ hP hI.ap hI.xs.2 hI.hx (by rw[hI.hh,hw]; rfl) hI.v hI.u (fun k hk=>⟨(hI.us k hk).1,(hI.us k hk).2.1,(hI.us k hk).2.2.1⟩) fun k hk=>⟨(hI.uu k hk).1,(hI.uu k hk).2.1⟩)
 unfold Ph;refine aa ?_;refine aj (v:=.slice a M.length cp) hI.hx rfl ?_;refine aK ?_;refine aM ?_;refine ac ?_;refine am (fun hlt=>?_) (fun hge=>?_)
 ·refine aM ?_;unfold E3;refine ac ?_;refine am (fun h20=>?_) (fun h20=>?_)
  ·exact rF hL h6 hD hs hM e2 (by omega) (by omega) hI _ _ fun X' U' w' hI'=>hJ _ _ (by omega) ⟨rfl,X',U',hI'⟩
  ·exact fin (by omega) fun v w' h=>h
 ·unfold E3;refine ac ?_;refine az rfl ?_;exact fin (by omega) fun v w' h=>h
end
end
section
attribute [local irreducible] kO kB bG bH kN kG aA ai aw aB bj knew bB aP ay aE bk aD aU bC bD a8 kbool kint kstr keq kun ksl bz cQ kta kmk kmm ksem ksemU bd aI aL ae kL
section
variable {L:List Comp} {many bu:Nat} {U:Nat→Prop} {w:World} {l:List OrdM} {gv dr:Nat}
theorem PT (h:gP L many bu U w l gv dr) (hUl:∀k,U k→k<w.heap.size) (hL:L.length≤32) (hln:l.length≤100000) (hgv:gv≤1000000) (hdr:dr≤1000000) {x:OrdM} (hx:x.ok) {s:NB} (e1:s.l=l) (e2:s.gv=gv) (e3:s.dr=dr) :
  af Tryz.prog 141 #[.pointer (some ⟨bu,0,none⟩),x.val] w fun v w'=>gP L many bu (cX w w' U) w' (cJ true L.length many s x).l (cJ true L.length many s x).gv (cJ true L.length many s x).dr∧aH (fun k=>k=bu) w w':=by
 have hx':=hx;obtain⟨h1,h2',h3,h4⟩:=hx;have hfit:x.fit L.length↔(x.kind=1∧x.mask<2^L.length)∨x.kind=2∨((x.kind=3∨x.kind=4)∧0≤x.comp∧x.comp<L.length):=Iff.rfl;have en:cJ true L.length many s x=if x.fit L.length then(if many≤s.gv then { s with dr:=s.dr+1 } else { s with l:=s.l++[x],gv:=s.gv+1 }) else s:=if_pos rfl
 have hbu:=hUl bu h.own;have hfl:=flat_len OrdM.cells 4 (fun _=>rfl) l;unfold OrdM.val;refine Fd ?_;unfold PD;refine ar fun w2 h2 hs2 hb2=>?_;have hb2:aX w2 w.heap.size=some (.cells x.cells.toArray 130):=hb2;obtain⟨⟨a,cp,rv,la,lc,hb0,hl0,hrv,hla⟩,hown⟩:=h;have hh:=h2.get hb0 (fun h=>h);refine aq ?_;refine aa ?_;refine aa ?_;refine aj hh rfl ?_;refine aK ?_;refine aa ?_;refine ao (v:=.int .i64 x.kind) hb2 rfl ?_;refine aF ?_;refine aa ?_;refine ao (v:=.int .i64 x.kind) hb2 rfl ?_;refine aF ?_;refine ac ?_;have hla2:∀k f,la=some ⟨k,f,none⟩→k<w2.heap.size:=fun k f e=>by have:=hUl k (hla k f e).1; have:=h2.size; omega
 have good:∀wd:World,Same w wd→aX wd w.heap.size=some (.cells x.cells.toArray 130)→x.fit L.length→many>gv→tu (.pointer (some ⟨bu,0,none⟩)) (.pointer (some ⟨w.heap.size,0,none⟩)) (fun v w'=>gP L many bu (cX w w' U) w' (cJ true L.length many s x).l (cJ true L.length many s x).gv (cJ true L.length many s x).dr∧aH (fun k=>k=bu) w w') wd:=by
  intro wd hd hbx hf hm;rw[en,if_pos hf,if_neg (by omega)];have hbd:=hd.get hb0 (fun h=>h);have hltx:=aC hbx;unfold tu;refine aq ?_;refine aa ?_;refine aj hbd rfl ?_;unfold natV;refine aY (by omega) (by omega) ?_;refine aq ?_;refine aa ?_;refine bJ hbd rfl rfl (by show 4<6; omega) fun w33 h33 hs33 hb33=>?_;have hb33:aX w33.drew bu=some (.cells #[.slice a L.length cp,rv,.int .i64 many,.slice la l.length lc,.int .i64 ((gv:Int)+1),natV dr] 78):=hb33;have hx33:aX w33.drew w.heap.size=_:=h33.get hbx (by show ¬w.heap.size=bu; omega);have hm33:aH (fun k=>k=bu) w w33.drew:=((aH.of_same hd).trans h33).trans (aH.of_same ((aH.refl (fun _=>False) w33).drew));generalize w33.drew=W at *;have hl33:=hl0.mod hm33 (fun k f e=>(hla k f e).2);have hWz:=hm33.size;have fin:∀(wz:World) (v':Value),Same W wz→bV wz v' 4 ((l++[x]).flatMap OrdM.cells)→(∀k,bf v' k→W.heap.size≤k)→kN (.pointer (some ⟨bu,0,none⟩)) (ai 3 (.pointer (some ⟨bu,0,none⟩)) fun v45=>bj 1 v45 v' wz fun w46=>nh (fun v w'=>gP L many bu (cX w w' U) w' (s.l++[x]) (s.gv+1) s.dr∧aH (fun k=>k=bu) w w') w46):=by
   intro wz v' hz hO hv;have hlt:∀k,bf v' k→k<wz.heap.size:=fun k hk=>hO.vblk_lt hk;obtain⟨a',n',c',rfl,hsl,_⟩:=hO.is;have hn':n'=(l++[x]).length:=by
    have:=hsl.1;rw[flat_len OrdM.cells 4 (fun _=>rfl)]at this;omega
   subst hn';refine aq ?_;refine aa ?_;refine bJ (hz.get hb33 (fun h=>h)) rfl rfl (by show 3<6; omega) fun w46 h46 hs46 hb46=>?_;have mt:aH (fun k=>k=bu) w w46:=(hm33.trans (aH.of_same hz)).trans h46;have hz46:=h46.size;have hfa:∀k f,a'=some ⟨k,f,none⟩→w.heap.size≤k∧k<w46.heap.size:=fun k f e=>by
    have hvk:bf (.slice a' (l++[x]).length c') k:=⟨f,_,_,by rw[e]⟩
    have:=hv k hvk;have:=hlt k hvk;omega
   unfold nh;subst e1 e2 e3;refine⟨⟨⟨a,cp,rv,a',c',hb46,hsl.mod h46 (fun k f e hk=>?_),hrv,fun k f e=>⟨.inr (hfa k f e),?_⟩⟩,.inl hown⟩,mt⟩
   ·have:=hfa k f e; omega
   ·have:=hfa k f e; omega
  have e0:([]:List Value).length+(l.flatMap OrdM.cells).length≤9223372036854775807:=by rw[hfl]; simp; omega
  have e0':(([]:List Value).length+(l.flatMap OrdM.cells).length)*32≤140737488355328:=by rw[hfl]; simp; omega
  have ee:([]++l.flatMap OrdM.cells:List Value)=l.flatMap OrdM.cells:=List.nil_append _;have ef:l.flatMap OrdM.cells++x.cells=(l++[x]).flatMap OrdM.cells:=by simp
  have c1:(l.flatMap OrdM.cells).length+x.cells.length≤9223372036854775807:=by rw[hfl]; simp[OrdM.cells]; omega
  have c2:((l.flatMap OrdM.cells).length+x.cells.length)*32≤140737488355328:=by rw[hfl]; simp[OrdM.cells]; omega
  refine⟨?_,?_⟩
  ·refine aR (cs:=[]) rfl fun w35 h35 hs35 hb35=>?_;have hO35:bV w35 (.slice (some ⟨W.heap.size,0,none⟩) 0 0) 4 []:=bV.blk hb35 (n:=0) (by simp) (by simp[maxLen]);have hv35:∀k,bf (.slice (some ⟨W.heap.size,0,none⟩) 0 0) k→W.heap.size≤k:=fun k hk=>by rw[cg hk]; exact Nat.le_refl _
   refine⟨?_,?_⟩
   ·refine aq ?_;refine aa ?_;refine aj (h35.get hb33 (fun h=>h)) rfl ?_;refine ah rfl ?_;refine ah (aj hb33 rfl ⟨rfl,rfl⟩) ?_;refine be mT (by omega) hO35 (Src.ofSlIs (hk:=fW.choose_spec) lc (hl33.same h35) (ones_ord l)) e0 e0' ?_;intro v' w39 hO39 m39 hf39;rw[ee]at hO39;have hv39:∀k,bf v' k→W.heap.size≤k:=fun k hk=>by
     rcases hf39 k hk with e | e
     ·exact hv35 k e
     ·exact Nat.le_trans h35.size e
    have s39:Same W w39:=h35.trans' (m39.mono fun k _ e=>.inr (hv35 k e));refine au (s39.get hx33 (fun h=>h)) rfl (by omega) ?_;refine ah rfl ?_;refine ah (au (h35.get hx33 (fun h=>h)) rfl (by omega) ⟨rfl,rfl⟩) ?_;refine ah (au hx33 rfl (by omega) ⟨rfl,rfl⟩) ?_;refine aR (cs:=x.cells) rfl fun w42 h42 hs42 hb42=>?_;refine ah (aj ((s39.trans h42).get hb33 (fun h=>h)) rfl ⟨rfl,rfl⟩) ?_;refine be mT (by omega) (hO39.same h42) (Src.ofSlIs (hk:=fW.choose_spec) 1 (aZ.blk hb42 rfl) rfl) c1 c2 ?_;intro v'' w44 hO44 m44 hf44;rw[show l.flatMap OrdM.cells++_=_ from ef]at hO44;refine fin w44 v'' ((s39.trans h42).trans' (m44.mono fun k _ e=>.inr (hv39 k e))) hO44 fun k hk=>?_;rcases hf44 k hk with e | e
    ·exact hv39 k e
    ·exact Nat.le_trans (s39.trans h42).size e
   ·refine au (h35.get hx33 (fun h=>h)) rfl (by omega) ?_;refine ah rfl ?_;refine ah (au hx33 rfl (by omega) ⟨rfl,rfl⟩) ?_;refine aR (cs:=x.cells) rfl fun w53 h53 hs53 hb53=>?_;have s53:=h35.trans h53;refine aq ?_;refine aa ?_;refine aj (s53.get hb33 (fun h=>h)) rfl ?_;refine ah rfl ?_;refine ah (aj (h35.get hb33 (fun h=>h)) rfl ⟨rfl,rfl⟩) ?_;refine ah (aj hb33 rfl ⟨rfl,rfl⟩) ?_;refine be mT (by omega) (hO35.same h53) (Src.ofSlIs (hk:=fW.choose_spec) lc (hl33.same s53) (ones_ord l)) e0 e0' ?_;intro v' w57 hO57 m57 hf57;rw[ee]at hO57;have hv57:∀k,bf v' k→W.heap.size≤k:=fun k hk=>by
     rcases hf57 k hk with e | e
     ·exact hv35 k e
     ·exact Nat.le_trans s53.size e
    have s57:Same W w57:=s53.trans' (m57.mono fun k _ e=>.inr (hv35 k e));have hb57:aX w57 w35.heap.size=_:=m57.get hb53 (fun e=>by have:=cg e; omega);refine ah (au (s57.get hx33 (fun h=>h)) rfl (by omega) ⟨rfl,rfl⟩) ?_;refine be mT (by omega) hO57 (Src.ofSlIs (hk:=fW.choose_spec) 1 (aZ.blk hb57 rfl) rfl) c1 c2 ?_;intro v'' w59 hO59 m59 hf59;rw[show l.flatMap OrdM.cells++_=_ from ef]at hO59;refine fin w59 v'' (s57.trans' (m59.mono fun k _ e=>.inr (hv57 k e))) hO59 fun k hk=>?_;rcases hf59 k hk with e | e
    ·exact hv57 k e
    ·exact Nat.le_trans s57.size e
  ·refine au hx33 rfl (by omega) ?_;refine ah rfl ?_;refine aR (cs:=x.cells) rfl fun w68 h68 hs68 hb68=>?_;refine aR (cs:=[]) rfl fun w70 h70 hs70 hb70=>?_;have s70:=h68.trans h70;have hO70:bV w70 (.slice (some ⟨w68.heap.size,0,none⟩) 0 0) 4 []:=bV.blk hb70 (n:=0) (by simp) (by simp[maxLen]);have hz68:=h68.size;have hv70:∀k,bf (.slice (some ⟨w68.heap.size,0,none⟩) 0 0) k→W.heap.size≤k:=fun k hk=>by rw[cg hk]; exact hz68
   refine ah (au (s70.get hx33 (fun h=>h)) rfl (by omega) ⟨rfl,rfl⟩) ?_;refine aq ?_;refine aa ?_;refine aj (s70.get hb33 (fun h=>h)) rfl ?_;refine ah rfl ?_;refine ah (aj (h68.get hb33 (fun h=>h)) rfl ⟨rfl,rfl⟩) ?_;refine ah (aj hb33 rfl ⟨rfl,rfl⟩) ?_;refine be mT (by omega) hO70 (Src.ofSlIs (hk:=fW.choose_spec) lc (hl33.same s70) (ones_ord l)) e0 e0' ?_;intro v' w74 hO74 m74 hf74;rw[ee]at hO74;have hv74:∀k,bf v' k→W.heap.size≤k:=fun k hk=>by
    rcases hf74 k hk with e | e
    ·exact hv70 k e
    ·exact Nat.le_trans s70.size e
   have s74:Same W w74:=s70.trans' (m74.mono fun k _ e=>.inr (hv70 k e));have hlt68:=aC hb68;have hb74:aX w74 W.heap.size=_:=m74.get (h70.get hb68 (fun h=>h)) (fun e=>by have:=cg e; omega);refine ah (au (s74.get hx33 (fun h=>h)) rfl (by omega) ⟨rfl,rfl⟩) ?_;refine be mT (by omega) hO74 (Src.ofSlIs (hk:=fW.choose_spec) 1 (aZ.blk hb74 rfl) rfl) c1 c2 ?_;intro v'' w76 hO76 m76 hf76;rw[show l.flatMap OrdM.cells++_=_ from ef]at hO76;refine fin w76 v'' (s74.trans' (m76.mono fun k _ e=>.inr (hv74 k e))) hO76 fun k hk=>?_;rcases hf76 k hk with e | e
   ·exact hv74 k e
   ·exact Nat.le_trans s74.size e
 have end0:∀b:Bool,b=decide (x.fit L.length)→kJ (.pointer (some ⟨bu,0,none⟩)) (.pointer (some ⟨w.heap.size,0,none⟩)) (.bool b) (fun v w'=>gP L many bu (cX w w' U) w' (cJ true L.length many s x).l (cJ true L.length many s x).gv (cJ true L.length many s x).dr∧aH (fun k=>k=bu) w w') w2:=by
  intro b hb;unfold kJ;refine bP ?_;refine ac ?_;by_cases hf:x.fit L.length
  ·rw[hb,decide_eq_true hf];refine az rfl ?_;unfold Cp;have md:Same w2 w2.drew:=(aH.refl (fun _=>False) _).drew;have m2:=h2.trans md;have hhd:=md.get hh (fun h=>h);have hxd:=md.get hb2 (fun h=>h);generalize w2.drew=wd at *;refine aq ?_;refine aa ?_;refine aj hhd rfl ?_;refine ah rfl ?_;refine aq ?_;refine aa ?_;refine aj hhd rfl ?_;refine ah rfl ?_;unfold natV at hhd ⊢;refine bI ?_;refine ac ?_;refine am (fun hge=>?_) (fun hge=>?_)
   ·refine aq ?_;refine aa ?_;refine aj hhd rfl ?_;refine aY (by omega) (by omega) ?_;refine aq ?_;refine aa ?_;refine bJ hhd rfl rfl (by show 5<6; omega) fun w28 h28 hs28 hb28=>?_;rw[en,if_pos hf,if_pos (by omega)];have mt:aH (fun k=>k=bu) w w28:=(aH.of_same m2).trans h28;subst e1 e2 e3;exact⟨⟨⟨a,cp,rv,la,lc,hb28,hl0.mod mt (fun k f e=>(hla k f e).2),hrv,fun k f e=>⟨.inl (hla k f e).1,(hla k f e).2⟩⟩,.inl hown⟩,mt⟩
   ·exact good wd m2 hxd hf (by omega)
  ·rw[hb,decide_eq_false hf];refine aN rfl ?_;rw[en,if_neg hf];subst e1 e2 e3;exact⟨⟨⟨a,cp,rv,la,lc,hh,hl0.same h2,hrv,fun k f e=>⟨.inl (hla k f e).1,(hla k f e).2⟩⟩,.inl hown⟩,aH.of_same h2⟩
 have four:∀b:Bool,b=decide (x.kind=3∨x.kind=4)→x.kind≠1→pV (.pointer (some ⟨bu,0,none⟩)) (.pointer (some ⟨w.heap.size,0,none⟩)) (.int .i64 L.length) (.bool (decide (x.kind=2))) (.bool b) (fun v w'=>gP L many bu (cX w w' U) w' (cJ true L.length many s x).l (cJ true L.length many s x).gv (cJ true L.length many s x).dr∧aH (fun k=>k=bu) w w') w2:=by
  intro b hb n1;unfold pV;refine ac ?_;refine dh (fun e=>?_) (fun e=>?_)
  ·have h34:x.kind=3∨x.kind=4:=of_decide_eq_true (hb.symm.trans e);refine aa ?_;refine ao (v:=.int .i64 x.comp) hb2 rfl ?_;refine bI ?_;refine ac ?_;refine am (fun hc=>?_) (fun hc=>?_)
   ·refine aa ?_;refine ao (v:=.int .i64 x.comp) hb2 rfl ?_;refine aM ?_;refine end0 _ ?_;rw[decide_eq_decide,hfit];omega
   ·refine end0 _ ?_;symm;rw[decide_eq_false_iff_not,hfit];omega
  ·have h34:¬(x.kind=3∨x.kind=4):=of_decide_eq_false (hb.symm.trans e);refine end0 _ ?_;rw[decide_eq_decide,hfit];omega
 refine am (fun e1=>?_) (fun e1=>?_)
 ·refine aa ?_;refine ao (v:=msk x.mask) hb2 rfl ?_;rw[msk,dz];refine ah (by omega) ?_;rw[iZ x.mask L.length (by show L.length≤32; omega)];refine aF ?_;refine end0 _ ?_;rw[decide_eq_decide,hfit];have hp:0<2^L.length:=Nat.pow_pos (by omega);constructor
  ·intro e;have e:x.mask/2^L.length=0:=by omega
   exact .inl ⟨e1,by rcases(Nat.div_eq_zero_iff).1 e with h | h; omega; exact h⟩
  ·intro e;have:x.mask<2^L.length:=by
    rcases e with e | e | e
    ·exact e.2
    ·omega
    ·omega
   rw[Nat.div_eq_of_lt this]; rfl
 ·refine aF ?_;refine ac ?_;refine am (fun e3=>?_) (fun e3=>?_)
  ·rw[co e3];exact four true (by rw[co (Or.inl e3)]) e1
  ·refine aF ?_;refine four _ ?_ e1;rw[decide_eq_decide];omega
end
end
section
attribute [local irreducible] kO kB bG bH kN kG aA ai aw aB bj knew bB aP ay aE bk aD aU bC bD a8 kbool kint kstr keq kun ksl bz cQ kta kmk kmm ksem ksemU bd aI aL ae kL
theorem Ct (hy:vp y) (h0:x≠0) (h1:x≠ -1):vp (y.tdiv x):=by
 have h:=Int.natAbs_tdiv_le_natAbs y x;have h2:(y.tdiv x).natAbs=y.natAbs/x.natAbs:=Int.natAbs_tdiv y x;have hx:x.natAbs≠0:=by omega
 unfold vp at *;by_cases e1:x=1
 ·subst e1; rw[Int.tdiv_one]; exact hy
 ·have hx2:2≤x.natAbs:=by omega
  have:y.natAbs/x.natAbs≤y.natAbs/2:=Nat.div_le_div_left hx2 (by omega);omega
theorem rG:oX y (-1)=IntKind.i64.wrap (0-y):=by
 unfold oX;rw[if_neg (by omega),Int.tdiv_neg,Int.tdiv_one];congr 1;omega
theorem Cu (hy:vp y) (h0:x≠0):yi y x=if x= -1 then 0 else y.tmod x:=by
 unfold yi;rw[if_neg h0];by_cases h1:x= -1
 ·subst h1;rw[if_pos rfl,rG];obtain⟨a,ha⟩:=fP (0-y);obtain⟨b,hb⟩:=fP (-1*IntKind.i64.wrap (0-y));obtain⟨c,hc⟩:=fP (y-IntKind.i64.wrap (-1*IntKind.i64.wrap (0-y)));have h1:=jV (y-IntKind.i64.wrap (-1*IntKind.i64.wrap (0-y)));unfold vp at *;omega
 ·rw[if_neg h1];unfold oX;rw[if_neg h0];have hd:=Ct hy h0 h1;rw[l8 hd];have e:=Int.mul_tdiv_add_tmod y x;have hb:(y.tmod x).natAbs≤y.natAbs:=by rw[Int.natAbs_tmod]; exact Nat.mod_le _ _
  have hs:(0≤y→0≤y.tmod x):=fun h=>Int.tmod_nonneg _ h;have hs2:(y≤0→y.tmod x≤0):=fun h=>by
   have:0≤(-y).tmod x:=Int.tmod_nonneg _ (by omega);rw[Int.neg_tmod]at this; omega
  have hp:vp (x*y.tdiv x):=by unfold vp at *; omega
  rw[l8 hp,l8 (by unfold vp at *; omega)];omega
theorem uS (b:Bool) (w:World):af Tryz.prog 90 #[.bool b] w fun v w'=>v=.int .i64 (fe b)∧w'=w:=by
 refine LO ?_;unfold Sq;refine ac ?_;refine dh (fun h=>?_) (fun h=>?_)
 ·subst h; exact⟨rfl,rfl⟩
 ·unfold H2;subst h; exact⟨rfl,rfl⟩
theorem PU (hy:vp y) (x:Int) (w:World) :
  af Tryz.prog 96 #[.int .i64 op,.int .i64 y,.int .i64 x] w fun v w'=>v=.int .i64 (im op y x)∧w'=w:=by
 refine LN ?_;unfold Sp;unfold im;refine aF ?_;refine ac ?_;refine am (fun h=>?_) (fun h6=>?_)
 ·rw[if_neg (by omega),if_pos h,eS]; exact⟨rfl,rfl⟩
 refine aF ?_;refine ac ?_;refine am (fun h=>?_) (fun h7=>?_)
 ·rw[if_pos h,lN];refine⟨?_,rfl⟩;obtain⟨a,ha⟩:=fP (y-x);obtain⟨b,hb⟩:=fP (0-x);obtain⟨c,hc⟩:=fP (y+IntKind.i64.wrap (0-x));have h1:=jV (y-x);have h2:=jV (y+IntKind.i64.wrap (0-x));unfold vp at *;congr 1;omega
 rw[if_neg h7,if_neg h6];refine aF ?_;refine ac ?_;refine am (fun h=>?_) (fun h8=>?_)
 ·rw[if_pos h,dL]; exact⟨rfl,rfl⟩
 rw[if_neg h8];refine aF ?_;refine ac ?_;refine am (fun h=>?_) (fun h9=>?_)
 ·rw[if_pos h];refine aF ?_;refine ac ?_;refine am (fun h0=>?_) (fun h0=>?_)
  ·unfold oX;rw[if_pos h0]; exact⟨rfl,rfl⟩
  ·unfold HZ;refine aF ?_;refine ac ?_;refine am (fun h1=>?_) (fun h1=>?_)
   ·subst h1;rw[rG,jJ]; exact⟨rfl,rfl⟩
   ·unfold HY;unfold oX;rw[if_neg h0,qg];exact ah h0 ⟨rfl,rfl⟩
 rw[if_neg h9];refine aF ?_;refine ac ?_;refine am (fun h=>?_) (fun h10=>?_)
 ·rw[if_pos h];refine aF ?_;refine ac ?_;by_cases h0:x=0
  ·rw[decide_eq_true h0];refine az rfl ?_;unfold uH;refine ac ?_;refine aN rfl ?_;unfold yi;rw[if_pos h0]; exact⟨rfl,rfl⟩
  ·rw[decide_eq_false h0,Cu hy h0];refine aN rfl ?_;refine aF ?_;unfold uH;refine ac ?_;refine am (fun h1=>?_) (fun h1=>?_)
   ·rw[if_pos h1]; exact⟨rfl,rfl⟩
   ·unfold H0;rw[if_neg h1,fB];exact ah h0 ⟨rfl,rfl⟩
 rw[if_neg h10];refine aF ?_;refine ac ?_;refine am (fun h=>?_) (fun h12=>?_)
 ·rw[if_pos h,jH]; exact⟨rfl,rfl⟩
 rw[if_neg h12];refine aF ?_;refine ac ?_;refine am (fun h=>?_) (fun h13=>?_)
 ·rw[if_pos h,tJ]; exact⟨rfl,rfl⟩
 rw[if_neg h13];refine aF ?_;refine ac ?_;refine am (fun h=>?_) (fun h14=>?_)
 ·rw[if_pos h,fA]; exact⟨rfl,rfl⟩
 rw[if_neg h14];refine aF ?_;refine ac ?_;refine am (fun h=>?_) (fun h15=>?_)
 ·rw[if_pos h,cD,fB];refine ah (by decide) ?_;rw[qh];exact ah (ur x) ⟨rfl,rfl⟩
 rw[if_neg h15];refine aF ?_;refine ac ?_;refine am (fun h=>?_) (fun h16=>?_)
 ·rw[if_pos h,cD,fB];refine ah (by decide) ?_;rw[dz];exact ah (ur x) ⟨rfl,rfl⟩
 rw[if_neg h16];refine aF ?_;refine ac ?_;refine am (fun h=>?_) (fun h17=>?_)
 ·rw[if_pos h,gD];refine ab (uS _ w) ?_;rintro v w' h;exact h
 rw[if_neg h17];unfold H1;rw[gE];refine ab (uS _ w) ?_;rintro v w' h;exact h
end
section
def row16 (r:jg):List Value:=[.string (tx r.1),.int .i64 r.2.1,.int .i64 r.2.2.1,.int .i64 r.2.2.2]
def fZ:List Value:=opRows.flatMap row16
def lg:List Value:=opRows.flatMap fun _=>[.string ⟨#[]⟩,.int .i64 0,.int .i64 0,.int .i64 0]
def nj:Nat→List jg→dt→dt
 | _,[],e=>e
 | i,r::l,e=>nj (i+1) l ((i,.val (.agg (row16 r).toArray))::e)
noncomputable def kg:Code:=Tryz.f52.body.get rfl
def tB:Code→Array Oper
 | .seq (.region _ ops _) _=>ops
 | _=>#[]
def kK:Code→Array Oper
 | .seq _ (.seq (.region _ ops _) _)=>ops
 | _=>#[]
def Cv:Code→Code
 | .seq _ (.seq _ c)=>c
 | c=>c
def wM (Q:PQ):KK:={ nx:=fun e w=>oP Tryz.prog [.cell 2 122,.tmp 3] e w fun vs=>Q (retV vs) w,ret:=fun e w=>oP Tryz.prog [.cell 2 122,.tmp 3] e w fun vs=>Q (retV vs) w,ex:=fun _ _ _=>False }
theorem L6:kg=.seq (.region 0 (tB kg) false) (.seq (.region 1 (kK kg) false) (Cv kg)):=by kernel_rfl
theorem L7 (P:Program) (n:Nat) (hs:List (Nat×List Nat)) (a b:Code) (k:KK) (e:dt) (w:World):vc P n hs (.seq a b) k e w=vc P n hs a { nx:=fun e w=>vc P n hs b k e w,ret:=k.ret,ex:=k.ex } e w:=rfl
theorem L8 (P:Program) (n:Nat) (hs:List (Nat×List Nat)) (i:Nat) (ops:Array Oper) (k:KK) (e:dt) (w:World):vc P n hs (.region i ops false) k e w=iu P n ops k.nx ops.toList e w:=rfl
theorem Cw (P:Program) (n:Nat) (hs:List (Nat×List Nat)) (i:Nat) (ops:Array Oper) (b:Code) (k:KK) (e:dt) (w:World):vc P n hs (.seq (.region i ops false) b) k e w=iu P n ops (fun e w=>vc P n hs b k e w) ops.toList e w:=(L7 _ _ _ _ _ _ _ _).trans (L8 _ _ _ _ _ _ _ _)
theorem QU (x0:Value) (w:World) (Q:PQ):vc Tryz.prog 52 [] kg (wM Q) [(0,.val x0)] w=iu Tryz.prog 52 (tB kg) (fun e w=>iu Tryz.prog 52 (kK kg) (fun e w=>vc Tryz.prog 52 [] (Cv kg) (wM Q) e w) (kK kg).toList e w) (tB kg).toList [(0,.val x0)] w :=
 (congrArg (fun c=>vc Tryz.prog 52 [] c (wM Q) [(0,.val x0)] w) L6).trans ((Cw _ _ _ _ _ _ _ _ _).trans (congrArg (fun K=>iu Tryz.prog 52 (tB kg) K (tB kg).toList [(0,.val x0)] w) (funext fun e=>funext fun w=>Cw _ _ _ _ _ _ _ _ _)))
theorem QV (x0:Value) (w:World) (K:dt→World→Prop):iu Tryz.prog 52 (tB kg) K (tB kg).toList [(0,.val x0)] w=knew #[.string ⟨#[]⟩,.int .i64 0,.int .i64 0,.int .i64 0] 122 w fun v1 w2=>K ((3,.val (.bool false))::(2,.val v1)::[(0,.val x0)]) w2:=by kernel_rfl
def Qj (i:Nat) (r:jg):Option Tmp×Op×Option (Nat×Bool):=(some i,.build 122 #[(0,.const (.string (tx r.1))),(1,.const (.int .i64 r.2.1)),(2,.const (.int .i64 r.2.2.1)),(3,.const (.int .i64 r.2.2.2))],none)
def bs16:Nat→List jg→List (Option Tmp×Op×Option (Nat×Bool))
 | _,[]=>[]
 | i,r::l=>Qj i r::bs16 (i+1) l
theorem PV (r:jg) (e:dt) (ty:TypeId) (K:Value→World→Prop) (w:World):opW Tryz.prog e ty K w (Qj 0 r).2.1=K (.agg (row16 r).toArray) w:=by kernel_rfl
theorem L9 (ops:Array Oper) (K:dt→World→Prop) (rest:List Oper) (w:World):∀(rows:List jg) (l:List Oper) (i:Nat) (e:dt),l.map (fun o=>(o.dst,o.op,o.guard))=bs16 i rows→i+rows.length≤52→iu Tryz.prog 52 ops K (l++rest) e w=iu Tryz.prog 52 ops K rest (nj i rows e) w:=by
 intro rows;induction rows with
 | nil =>
  intro l i e hl _;have:l=[]:=by simpa [bs16] using hl
  subst this; rfl
 | cons r rows ih =>
  intro l i e hl hi;cases l with
  | nil=>simp[bs16]at hl
  | cons o l =>
   simp only[List.map_cons,bs16,List.cons.injEq]at hl;obtain⟨ho,hl⟩:=hl;have h1:o.dst=some i:=congrArg (·.1) ho;have h2:o.op=(Qj 0 r).2.1:=congrArg (·.2.1) ho;have h3:o.guard=none:=congrArg (·.2.2) ho;have hlt:Nat.blt i 52=true:=by simp at hi ⊢; omega
   have e1:iu Tryz.prog 52 ops K ((o::l)++rest) e w=iC ops o e (fun e=>opW Tryz.prog e o.type (fun v w'=>dputW 52 o.dst (.val v) e fun e'=>iu Tryz.prog 52 ops K (l++rest) e' w') w o.op) (fun e=>dputW 52 o.dst .und e fun e'=>iu Tryz.prog 52 ops K (l++rest) e' w):=rfl;rw[e1];unfold iC;rw[h3,h2,h1];show opW Tryz.prog e o.type _ w (Qj 0 r).2.1=_;rw[PV];unfold dputW;simp only[hlt,cond_true];exact ih l (i+1) _ hl (by simp at hi; omega)
theorem Ma:((kK kg).toList.take 36).map (fun o=>(o.dst,o.op,o.guard))=bs16 5 opRows:=by kernel_rfl
theorem Mb (e:dt) (w:World) (K:dt→World→Prop):iu Tryz.prog 52 (kK kg) K ((kK kg).toList.drop 36) (nj 5 opRows e) w=knew lg.toArray 190 w fun v40 w41=>bj 144 v40 (.agg fZ.toArray) w41 fun w42=>K ((4,.val v40)::(41,.val (.agg fZ.toArray))::nj 5 opRows e) w42:=by kernel_rfl
theorem QW (e:dt) (w:World) (K:dt→World→Prop):iu Tryz.prog 52 (kK kg) K (kK kg).toList e w=knew lg.toArray 190 w fun v40 w41=>bj 144 v40 (.agg fZ.toArray) w41 fun w42=>K ((4,.val v40)::(41,.val (.agg fZ.toArray))::nj 5 opRows e) w42:=by
 have h:=L9 (kK kg) K ((kK kg).toList.drop 36) w opRows ((kK kg).toList.take 36) 5 e Ma (by rw[opRows_len]; omega);rw[List.take_append_drop]at h;rw[h,Mb]
def PW (x0 x2 x4:Value) (Q:PQ) (w:World):Prop :=
 bz (some (.array 36 122)) (some 4) x4 x0 fun v49 =>
 aB 4 v49 w fun v50 =>
 bj 4 x2 v50 w fun w51 =>
 aB 4 x2 w51 fun v52 =>
 Q (.tuple #[v52,.bool true]) w51
def Cx (x0 x2 x4 x47:Value) (Q:PQ) (w:World):Prop :=
 kB x47 fun b53=>aA b53
 (aP [(.string ⟨#[]⟩),.int .i64 0,.int .i64 0,.int .i64 0] [] fun v46 =>
 bj 4 x2 v46 w fun w47 =>
 aB 4 x2 w47 fun v48 =>
 Q (.tuple #[v48,.bool false]) w47)
 (PW x0 x2 x4 Q w)
def Cy (x0 v1 v40:Value) (Q:PQ) (w42:World):Prop :=
 kint .i64 .lss x0 (.int .i64 0) fun v43 =>
 kB v43 fun b44=>aA (!b44)
 (kint .i64 .gtr x0 (.int .i64 35) fun v45 =>
 Cx x0 v1 v40 v45 Q w42)
 (Cx x0 v1 v40 (.bool true) Q w42)
theorem Mc (x0 v1 v40:Value) (Q:PQ) (w:World):vc Tryz.prog 52 [] (Cv kg) (wM Q) ((4,.val v40)::(41,.val (.agg fZ.toArray))::nj 5 opRows ((3,.val (.bool false))::(2,.val v1)::[(0,.val x0)])) w=Cy x0 v1 v40 Q w:=by kernel_rfl
theorem QX (h:knew #[.string ⟨#[]⟩,.int .i64 0,.int .i64 0,.int .i64 0] 122 w fun v1 w2=>knew lg.toArray 190 w2 fun v40 w41=>bj 144 v40 (.agg fZ.toArray) w41 fun w42=>Cy x0 v1 v40 Q w42):af Tryz.prog 52 #[x0] w Q:=by
 have e:=(QU x0 w Q).trans (QV _ _ _);have e3:∀(v1 v40:Value),(fun w=>vc Tryz.prog 52 [] (Cv kg) (wM Q) ((4,.val v40)::(41,.val (.agg fZ.toArray))::nj 5 opRows ((3,.val (.bool false))::(2,.val v1)::[(0,.val x0)])) w)=fun w=>Cy x0 v1 v40 Q w:=fun v1 v40=>funext fun w=>Mc x0 v1 v40 Q w;have e2:∀(v1:Value) (w2:World),iu Tryz.prog 52 (kK kg) (fun e w=>vc Tryz.prog 52 [] (Cv kg) (wM Q) e w) (kK kg).toList ((3,.val (.bool false))::(2,.val v1)::[(0,.val x0)]) w2=knew lg.toArray 190 w2 fun v40 w41=>bj 144 v40 (.agg fZ.toArray) w41 fun w42=>Cy x0 v1 v40 Q w42:=fun v1 w2 =>
  (QW _ _ _).trans (congrArg (fun K:Value→World→Prop=>(knew lg.toArray 190 w2 K:Prop)) (funext fun v40=>funext fun w41=>congrArg (fun K:World→Prop=>(bj 144 v40 (.agg fZ.toArray) w41 K:Prop)) (e3 v1 v40)))
 have e:=e.trans (congrArg (fun K:Value→World→Prop=>(knew #[.string ⟨#[]⟩,.int .i64 0,.int .i64 0,.int .i64 0] 122 w K:Prop)) (funext fun v1=>funext fun w2=>e2 v1 w2));exact Fw (c:=kg) [] Tryz.func52 rfl rfl (args:=[x0]) rfl (Eq.mpr e h)
theorem Cz (h:0≤x∧x<36):(dx x).1≠[]:=by
 have hall:∀r∈opRows,r.1≠[]:=by decide
 obtain⟨n,rfl⟩:∃n:Nat,x=(n:Int):=⟨x.toNat,by omega⟩
 rw[iM n (by omega)];exact hall _ (List.getElem_mem _)
theorem wN (w:World) (x:Int):af Tryz.prog 52 #[.int .i64 x] w fun v w'=>v=.tuple #[.agg (row16 (dx x)).toArray,.bool (decide (0≤x∧x<36))]∧Same w w':=by
 refine QX ?_;refine ar fun w2 h2 hs2 hb2=>?_;refine ar fun w4 h4 hs4 hb4=>?_;have hz:w.heap.size<w2.heap.size:=aC hb2;have hzl:lg.toArray.size=144:=by rfl
 have htl:fZ.length=36*4:=by unfold fZ; rw[flat_len row16 4 (fun _=>rfl) opRows,opRows_len]
 refine aQ (vs:=fZ) hb4 rfl htl rfl (by rw[hzl]; omega) (fun e=>by rw[e]at htl; simp at htl) fun w5 h5 hs5 hb5=>?_;have hb2:=(h4.trans' (h5.mono fun k _ e=>.inr (by omega))).get hb2 (fun h=>h);have m5:Same w w5:=h2.trans (h4.trans' (h5.mono fun k _ e=>.inr (by omega)));have no:¬(0≤x∧x<36)→Cx (.int .i64 x) (.pointer (some ⟨w.heap.size,0,none⟩)) (.pointer (some ⟨w2.heap.size,0,none⟩)) (.bool true) (fun v w'=>v=.tuple #[.agg (row16 (dx x)).toArray,.bool (decide (0≤x∧x<36))]∧Same w w') w5:=by
  intro hx;unfold Cx;refine ac ?_;refine aN rfl ?_;refine aW (cs:=row16 ([],0,0,0)) rfl ?_;refine aQ (vs:=row16 ([],0,0,0)) hb2 rfl rfl rfl (by simp) (by simp[row16]) fun w11 h11 hs11 hb11=>?_;have hb11:aX w11 w.heap.size=some (.cells (row16 ([],0,0,0)).toArray 122):=hb11;refine au hb11 rfl (by omega) ?_;refine⟨?_,m5.trans' (h11.mono fun k _ e=>.inr (by omega))⟩;rw[jW (by omega),decide_eq_false hx]; rfl
 unfold Cy;refine aM ?_;refine ac ?_;by_cases h0:x<0
 ·rw[decide_eq_true h0];exact az rfl (no (by omega))
 rw[decide_eq_false h0];refine aN rfl ?_;refine bO ?_;by_cases h1:x>35
 ·rw[decide_eq_true h1];exact no (by omega)
 rw[decide_eq_false h1];unfold Cx;refine ac ?_;refine az rfl ?_;unfold PW;obtain⟨n,rfl⟩:∃n:Nat,x=(n:Int):=⟨x.toNat,by omega⟩
 have hn:n<36:=by omega
 rw[dy];refine ah (by omega) ?_;rw[add_mk];have hfl:=d5 row16 4 (fun _=>rfl) opRows n hn;have esa:setAll fZ lg.toArray 0=fZ.toArray:=by
  apply Array.ext';rw[dS _ _ _ (by rw[hzl,htl]; omega)];have hz2:lg.toArray.toList.length=144:=by rw[Array.length_toList,hzl]
  rw[List.take_zero,List.nil_append,List.drop_eq_nil_of_le (by rw[hz2,htl]; omega),List.append_nil]
 rw[esa]at hb5;unfold fZ at hb5 htl;generalize opRows.flatMap row16=cs at *;refine fy (cs:=row16 (opRows[n]'hn)) hb5 (by simp[htl]; omega) (by simpa using hfl) (by omega) ?_;refine aQ (vs:=row16 (opRows[n]'hn)) hb2 rfl rfl rfl (by simp) (by simp[row16]) fun w11 h11 hs11 hb11=>?_;have hb11:aX w11 w.heap.size=some (.cells (row16 (opRows[n]'hn)).toArray 122):=hb11;refine fy (cs:=row16 (opRows[n]'hn)) hb11 (by simp[row16]) rfl (by omega) ?_;refine⟨?_,m5.trans' (h11.mono fun k _ e=>.inr (by omega))⟩;rw[iM n hn,decide_eq_true (by omega)]
end
section
attribute [local irreducible] kO kB bG bH kN kG aA ai aw aB bj knew bB aP ay aE bk aD aU bC bD a8 kbool kint kstr keq kun ksl bz cQ kta kmk kmm ksem ksemU bd aI aL ae kL
def cV (wd og:Bool) (n most:Nat) (fr who:Int):WM LS where
 get s c:=if wd=true then ge s.1 who c else none
 res s i:=if wd=true then iX s.2.R i else none
 fr _:=if wd=true then fr else 0
 set s c i v:=if wd=true then(gf plainC fr s.1 who c i v,s.2) else s
 asg s i v:=if wd=true then(s.1,{ s.2 with R:=gO s.2.R i v }) else s
 dr s v:=if wd=true then((s.1,{ s.2 with seed:=(d9 s.2.seed v).1 }),(d9 s.2.seed v).2) else(s,0)
 add s x:=(s.1,cJ og n most s.2 x)
theorem CA (hW:WI (So og n most) h w0 cI I):WI (cV false og n most fr h.who) h w0 (fun s:LS=>cI s.2) (fun X w s=>I X w s.2) where
 base h:=hW.base h
 lt h:=hW.lt h
 loc h m:=hW.loc h m
 less h hs:=hW.less h hs
 grow h m hf:=hW.grow h m hf
 get c h hc:=hW.get c h hc
 res i h:=hW.res i h
 fr h:=hW.fr h
 set c i n h hc h1 h2:=hW.set c i n h hc h1 h2
 asg i n h h1 h2:=hW.asg i n h h1 h2
 dr n h h1 h2:=hW.dr n h h1 h2
 add x h hx hc:=hW.add x h hx hc
 get64 {X w s c q} h hq:=hW.get64 (c:=c) h hq
 res64 {X w s i v} h hv:=hW.res64 (i:=i) h hv
 fr64 h:=hW.fr64 h
 dr64 s n:=hW.dr64 s.2 n
 in64:=hW.in64
 cset s c i n:=Nat.le_succ _
 casg s i n:=Nat.le_succ _
 cdr s n:=Nat.le_succ _
 cadd s x:=kb _ _ _ _ _
def nI (V:d8):Prop:=∀y∈V,∀q∈y.2,d7 plainC q
theorem nI.laid (M:List Nat) (i:Nat):nI (fb M i):=by
 intro y hy q hq;obtain⟨j,hj,rfl⟩:=List.mem_map.1 hy;exact gx q hq
theorem SB (h:c<4):1≤wdF plainC c∧wdF plainC c≤4:=by
 have:c=0∨c=1∨c=2∨c=3:=by omega
 rcases this with rfl | rfl | rfl | rfl<;>decide
theorem nI.set (h:nI V) (fr x c i n:Int):nI (gf plainC fr V x c i n):=by
 unfold gf;cases hf:gt V x with
 | none=>exact h
 | some y =>
  show nI (if _ then _ else _);split
  ·rename_i hc;obtain⟨_,hc0,hc1⟩:=hc;intro z hz q hq;obtain⟨u,hu,rfl⟩:=List.mem_map.1 hz;split at hq
   ·have hq:q∈jz y.2 c i.toNat n fr:=hq;obtain⟨r,hr,rfl⟩:=List.mem_map.1 hq;obtain⟨k,hk,hkl,hcl⟩:=h y (fS hf).1 r hr;split
    ·rename_i he;have hck:c.toNat=k:=by omega
     rw[hck]at hc1;refine⟨k,by rw[e7]; exact hk,hkl,ji hcl (by omega) (SB hkl).2 _ _⟩
    ·exact⟨k,hk,hkl,hcl⟩
   ·exact h u hu q hq
  ·exact h
theorem rH {q:Part} (hk:k<4) (h:q.clean (wdF plainC k)) {i:Int} (h0:¬i<0) (h1:(wdF plainC k:Int)≤i):(if i<0∨4≤i then 0 else jl q i)=0:=by
 by_cases h4:4≤i
 ·rw[if_pos (.inr h4)]
 ·rw[if_neg (by omega)];have hw:=SB hk;generalize wdF plainC k=wd at *;unfold Part.clean Part.vals at h;have hw':wd=1∨wd=2∨wd=3∨wd=4:=by omega
  have hi:i=1∨i=2∨i=3:=by omega
  unfold jl;rcases hw' with rfl | rfl | rfl | rfl<;>rcases hi with rfl | rfl | rfl<;>first | omega | (simp at h; simp[h])
structure fJ (og:Bool) (many:Nat) (fr nx:Int) (bv bu:Nat) (U Uu:Nat→Prop) (w:World) (s:LS):Prop where
 v:dp plainC bv U w ⟨s.1,s.2.R,fr,nx,s.2.seed⟩
 u:gP plainC many bu Uu w s.2.l s.2.gv s.2.dr
 dj:∀k,U k→¬Uu k
 lv:∀k,U k→k<w.heap.size
 lu:∀k,Uu k→k<w.heap.size
 ty:lf plainC s.1
 ft:nI s.1
 rl:s.2.R.length≤1000
 few:s.2.l.length≤s.2.gv
section
variable {og:Bool} {many:Nat} {fr nx:Int} {bv bu:Nat} {U Uu fp:Nat→Prop} {w w':World} {s:LS}
theorem fJ.mod (h:fJ og many fr nx bv bu U Uu w s) (m:aH fp w w') (h1:∀k,U k→¬fp k) (h2:∀k,Uu k→¬fp k):fJ og many fr nx bv bu U Uu w' s :=
 ⟨h.v.mod m h1,h.u.mod m h2,h.dj,fun k hk=>Nat.lt_of_lt_of_le (h.lv k hk) m.size,fun k hk=>Nat.lt_of_lt_of_le (h.lu k hk) m.size,h.ty,h.ft,h.rl,h.few⟩
theorem fJ.same (h:fJ og many fr nx bv bu U Uu w s) (m:Same w w'):fJ og many fr nx bv bu U Uu w' s:=h.mod m (fun _ _ h=>h) (fun _ _ h=>h)
theorem uT (hU:∀k,U k→k<w.heap.size) (m:w.heap.size≤w'.heap.size):∀k,cX w w' U k→k<w'.heap.size:=by
 rintro k (hk | hk)
 ·exact Nat.lt_of_lt_of_le (hU k hk) m
 ·exact hk.2
theorem fJ.world (h:fJ og many fr nx bv bu U Uu w s) {s':LS} (e:s'.2.l=s.2.l∧s'.2.gv=s.2.gv∧s'.2.dr=s.2.dr) (hv:dp plainC bv (cX w w' U) w' ⟨s'.1,s'.2.R,fr,nx,s'.2.seed⟩) (m:aH (fun k=>k=bv) w w') (ty:lf plainC s'.1) (ft:nI s'.1) (rl:s'.2.R.length≤1000):fJ og many fr nx bv bu (cX w w' U) Uu w' s':=by
 obtain⟨e1,e2,e3⟩:=e;refine⟨hv,by rw[e1,e2,e3]; exact h.u.mod m (fun k hk e=>by subst e; exact h.dj _ h.v.own hk),fun k hk hu=>?_,uT h.lv m.size,fun k hk=>Nat.lt_of_lt_of_le (h.lu k hk) m.size,ty,ft,rl,by rw[e1,e2]; exact h.few⟩;rcases hk with hk | hk
 ·exact h.dj k hk hu
 ·have:=h.lu k hu; omega
theorem QY (h:fJ og many fr nx bv bu U Uu w s) (x c i n:Int):af Tryz.prog 92 #[.pointer (some ⟨bv,0,none⟩),.int .i64 x,.int .i64 c,.int .i64 i,.int .i64 n] w fun v w'=>fJ og many fr nx bv bu (cX w w' U) Uu w' (gf plainC fr s.1 x c i n,s.2)∧aH (fun k=>k=bv) w w':=by
 refine(QR ed h.v h.lv h.ty x c i n).mono ?_;rintro v w' ⟨hv,hm⟩;exact⟨h.world ⟨rfl,rfl,rfl⟩ hv hm (h.ty.set _ _ _ _ _ _) (h.ft.set _ _ _ _ _) h.rl,hm⟩
theorem QZ (h:fJ og many fr nx bv bu U Uu w s) (i n:Int):af Tryz.prog 93 #[.pointer (some ⟨bv,0,none⟩),nV i,nV n] w fun v w'=>fJ og many fr nx bv bu (cX w w' U) Uu w' (s.1,{ s.2 with R:=gO s.2.R i n })∧aH (fun k=>k=bv) w w':=by
 refine(Fi h.v h.lv h.rl i n).mono ?_;rintro v w' ⟨hv,hm⟩;exact⟨h.world (s':=(s.1,{ s.2 with R:=gO s.2.R i n })) ⟨rfl,rfl,rfl⟩ hv hm h.ty h.ft (by show(gO s.2.R i n).length≤1000; rw[rx]; exact h.rl),hm⟩
theorem PX (h:fJ og many fr nx bv bu U Uu w s) (n:Int) (hn:bZ n):af Tryz.prog 94 #[.pointer (some ⟨bv,0,none⟩),nV n] w fun v w'=>v=nV (d9 s.2.seed n).2∧fJ og many fr nx bv bu (cX w w' U) Uu w' (s.1,{ s.2 with seed:=(d9 s.2.seed n).1 })∧aH (fun k=>k=bv) w w':=by
 refine(PP h.v n hn).mono ?_;rintro v w' ⟨rfl,hv,hm⟩;exact⟨rfl,h.world (s':=(s.1,{ s.2 with seed:=(d9 s.2.seed n).1 })) ⟨rfl,rfl,rfl⟩ (hv.weak fun k hk=>.inl hk) hm h.ty h.ft h.rl,hm⟩
structure RC where
 bn:Nat
 bv:Nat
 bu:Nat
 wd:Bool
 og:Bool
 i0:Int
 i1:Int
 who:Int
def RC.wp (c:RC):Value:=.pointer (if c.wd=true then some ⟨c.bv,0,none⟩ else none)
def RC.op (c:RC):Value:=.pointer (if c.og=true then some ⟨c.bu,0,none⟩ else none)
def RC.cells (c:RC) (lv pl sv fu ov:Value):Array Value:=#[c.wp,c.op,.int .i64 c.i0,.int .i64 c.i1,.int .i64 c.who,lv,pl,sv,fu,ov]
def Mv (c:RC) (w:World):Prop:=∃lv pl sv fu ov,aX w c.bn=some (.cells (c.cells lv pl sv fu ov) 58)
theorem Mv.same (h:Mv c w) (m:Same w w'):Mv c w':=by
 obtain⟨lv,pl,sv,fu,ov,h⟩:=h;exact⟨lv,pl,sv,fu,ov,m.get h fun h=>h⟩
theorem nk:dM Tryz.prog 30=true:=by kernel_rfl
theorem PY:dM Tryz.prog 31=true:=by kernel_rfl
theorem Q0 (hr:Mv c w) (h:fJ c.og many fr nx bv c.bu U Uu w s) (hc:cI s.2≤5000) {x:OrdM} (hx:x.ok):af Tryz.prog 95 #[.pointer (some ⟨c.bn,0,none⟩),x.val] w fun v w'=>fJ c.og many fr nx bv c.bu U (cX w w' Uu) w' (s.1,cJ c.og plainC.length many s.2 x)∧aH (fun k=>k=c.bu) w w':=by
 have hc':s.2.dr+s.2.gv≤5000:=hc;unfold OrdM.val;refine LR ?_;unfold St;refine ar fun w2 h2 hs2 hb2=>?_;have hb2:aX w2 w.heap.size=some (.cells x.cells.toArray 130):=hb2;obtain⟨lv,pl,sv,fu,ov,hb⟩:=hr.same h2;refine aq ?_;refine aa ?_;refine aj (v:=c.op) hb rfl ?_;unfold RC.op;rw[eU PY];refine ac ?_;have hI2:=h.same h2;by_cases ho:c.og=true
 ·refine aN (by rw[ho]; rfl) ?_;have md:Same w2 w2.drew:=(aH.refl (fun _=>False) _).drew;have m2:=h2.trans md;have hb:=md.get hb (fun h=>h);have hb2:=md.get hb2 (fun h=>h);generalize w2.drew=wd at *;have hId:=h.same m2;refine aq ?_;refine aa ?_;refine aj (v:=.pointer (some ⟨c.bu,0,none⟩)) hb (by show some c.op=_; unfold RC.op; rw[ho]; rfl) ?_;refine ah rfl ?_;refine au hb2 rfl (by omega) ?_;refine ah rfl ?_;refine ab (PT hId.u hId.lu (by rw[s6]; omega) (by have:=h.few; omega) (by omega) (by omega) hx (s:=s.2) rfl rfl rfl) ?_;rintro v w8 ⟨hu,hm⟩;have hz2:=m2.size;have hz:=hm.size;have ef:(cJ true plainC.length many s.2 x).l.length≤(cJ true plainC.length many s.2 x).gv:=by
   have:=h.few;unfold cJ;rw[if_pos rfl];refine aG (P:=fun z:NB=>z.l.length≤z.gv) (fun _=>aG (P:=fun z:NB=>z.l.length≤z.gv) (fun _=>this) (fun _=>?_)) (fun _=>this);show(s.2.l++[x]).length≤s.2.gv+1;rw[List.length_append,List.length_singleton]; omega
  obtain⟨en1,en2⟩:=pS (og:=true) (n:=plainC.length) (most:=many) (s:=s.2) (x:=x);refine⟨⟨?_,(by rw[ho]; exact hu.weak fun k hk=>hk.imp id fun hk=>⟨by omega,hk.2⟩),?_,fun k hk=>Nat.lt_of_lt_of_le (hId.lv k hk) hz,fun k hk=>?_,h.ty,h.ft,?_,?_⟩,(aH.of_same m2).trans hm⟩
  ·show dp _ _ _ _ ⟨s.1,(cJ c.og plainC.length many s.2 x).R,fr,nx,(cJ c.og plainC.length many s.2 x).seed⟩;rw[ho,en1,en2];exact hId.v.mod hm (fun k hk e=>by subst e; exact h.dj _ hk h.u.own)
  ·rintro k hk (hu | hu)
   ·exact h.dj k hk hu
   ·have:=h.lv k hk; omega
  ·rcases hk with hk | hk
   ·exact Nat.lt_of_lt_of_le (hId.lu k hk) hz
   ·exact hk.2
  ·show(cJ c.og plainC.length many s.2 x).R.length≤1000;rw[ho,en1]; exact h.rl
  ·rw[ho]; exact ef
 ·have ho:c.og=false:=by simpa using ho
  refine az (by rw[ho]; rfl) ?_;have en:cJ c.og plainC.length many s.2 x=s.2:=by rw[ho]; exact if_neg (by simp)
  rw[en];exact⟨⟨hI2.v,hI2.u.weak (fun k hk=>.inl hk),fun k hk hu=>by
   rcases hu with hu | hu
   ·exact h.dj k hk hu
   ·have:=h.lv k hk; omega,hI2.lv,uT h.lu h2.size,h.ty,h.ft,h.rl,h.few⟩,aH.of_same h2⟩
def zP:Part:=⟨0,0,0,0,0,0⟩
theorem It (hr:Mv c w) (h:fJ og many fr nx c.bv bu U Uu w s) (cm:Int) {n most:Nat}:af Tryz.prog 91 #[.pointer (some ⟨c.bn,0,none⟩),.int .i64 cm] w fun v w'=>(∃q,v=.tuple #[.agg q.cells.toArray,.bool ((cV c.wd c.og n most fr c.who).get s cm).isSome]∧((cV c.wd c.og n most fr c.who).get s cm=some q∨(cV c.wd c.og n most fr c.who).get s cm=none))∧Same w w':=by
 refine LQ ?_;unfold Ss;refine ar fun w2 h2 hs2 hb2=>?_;have hb2:aX w2 w.heap.size=some (.cells zP.cells.toArray 95):=hb2;obtain⟨lv,pl,sv,fu,ov,hb⟩:=hr.same h2;refine aq ?_;refine aa ?_;refine aj (v:=c.wp) hb rfl ?_;unfold RC.wp;rw[aJ nk];refine ac ?_;by_cases hw:c.wd=true
 ·have eg:(cV c.wd c.og n most fr c.who).get s cm=ge s.1 c.who cm:=if_pos hw;rw[eg,hw];refine az rfl ?_;have md:Same w2 w2.drew:=(aH.refl (fun _=>False) _).drew;have m2:=h2.trans md;have hz2:=aC hb2;have hbd:=md.get hb (fun h=>h);have hb2d:=md.get hb2 (fun h=>h);unfold H3;generalize w2.drew=wd at *;have hz2:=aC hb2d;have hI:=h.same m2;have hx0:(c.cells lv pl sv fu ov)[0]?=some (.pointer (some ⟨c.bv,0,none⟩)):=by show some c.wp=_; unfold RC.wp; rw[hw]; rfl
  have hPl:=fun y hy=>Nat.le_trans (h.ty.parts y hy).1 (show 32≤100 by omega);have tail:∀(w1:World) (bp:Nat) (q:Part) (e:Int),Same wd w1→bp≠w.heap.size→aX w1 bp=some (.cells q.cells.toArray 95)→(ge s.1 c.who cm=some q∧e=0∨ge s.1 c.who cm=none∧e≠0)→uI (.pointer (some ⟨w.heap.size,0,none⟩)) (.pointer (some ⟨bp,0,none⟩)) (.int .i64 e) (fun v w'=>(∃q,v=.tuple #[.agg q.cells.toArray,.bool (ge s.1 c.who cm).isSome]∧(ge s.1 c.who cm=some q∨ge s.1 c.who cm=none))∧Same w w') w1:=by
   intro w1 bp q e m hne hbp he;have hb2:=m.get hb2d (fun h=>h);unfold uI;refine au hbp rfl (by omega) ?_;refine aF ?_;refine aQ (vs:=q.cells) hb2 rfl rfl rfl (by simp[zP,Part.cells]) (by simp[Part.cells]) fun w33 h33 hs33 hb33=>?_;have hb33:aX w33 w.heap.size=some (.cells q.cells.toArray 95):=hb33;refine au hb33 rfl (by omega) ?_;refine⟨⟨q,?_,he.imp (fun h=>h.1) (fun h=>h.1)⟩,(m2.trans m).trans' (h33.mono fun k _ e=>.inr (by omega))⟩;rcases he with⟨hg,he⟩ | ⟨hg,he⟩
   ·rw[hg,decide_eq_true he]; rfl
   ·rw[hg,decide_eq_false he]; rfl
  refine⟨?_,?_⟩
  ·refine aq ?_;refine aa ?_;refine aj hbd hx0 ?_;refine ah rfl ?_;refine aq ?_;refine aa ?_;refine aj (v:=.int .i64 c.who) hbd rfl ?_;refine ah rfl ?_;refine ab (L2 hI.v h.ty.few hPl c.who cm) ?_;rintro v w8 ⟨⟨q,e,rfl,he⟩,h8⟩;refine ar fun w10 h10 hs10 hb10=>?_;have hb10':=(h8.trans h10).get hbd (fun h=>h);refine ah (aj (v:=.int .i64 c.who) hb10' rfl ⟨rfl,rfl⟩) ?_;refine ah (aj hb10' hx0 ⟨rfl,rfl⟩) ?_;refine ak rfl ?_;refine aQ (vs:=q.cells) hb10 rfl rfl rfl (by simp) (by simp[Part.cells]) fun w12 h12 hs12 hb12=>?_;have hb12:aX w12 w8.heap.size=some (.cells q.cells.toArray 95):=hb12;refine ak rfl ?_;have hz8:=h8.size;exact tail _ _ q e (h8.trans (h10.trans' (h12.mono fun k _ e=>.inr (by omega)))) (by omega) hb12 he
  ·refine ar fun w24 h24 hs24 hb24=>?_;have hb24':=h24.get hbd (fun h=>h);refine aq ?_;refine aa ?_;refine aj hb24' hx0 ?_;refine ah rfl ?_;refine ah (aj hbd hx0 ⟨rfl,rfl⟩) ?_;refine aq ?_;refine aa ?_;refine aj (v:=.int .i64 c.who) hb24' rfl ?_;refine ah rfl ?_;refine ah (aj (v:=.int .i64 c.who) hbd rfl ⟨rfl,rfl⟩) ?_;refine ab (L2 (hI.v.same h24) h.ty.few hPl c.who cm) ?_;rintro v w30 ⟨⟨q,e,rfl,he⟩,h30⟩;refine ak rfl ?_;refine aQ (vs:=q.cells) (h30.get hb24 (fun h=>h)) rfl rfl rfl (by simp) (by simp[Part.cells]) fun w12 h12 hs12 hb12=>?_;have hb12:aX w12 wd.heap.size=some (.cells q.cells.toArray 95):=hb12;refine ak rfl ?_;exact tail _ _ q e ((h24.trans h30).trans' (h12.mono fun k _ e=>.inr (by omega))) (by omega) hb12 he
 ·have eg:(cV c.wd c.og n most fr c.who).get s cm=none:=if_neg hw;have hw:c.wd=false:=by simpa using hw
  rw[eg,hw];refine aN rfl ?_;refine aW (cs:=zP.cells) rfl ?_;refine aQ (vs:=zP.cells) hb2 rfl rfl rfl (by simp[zP,Part.cells]) (by simp[zP,Part.cells]) fun w33 h33 hs33 hb33=>?_;have hb33:aX w33 w.heap.size=some (.cells zP.cells.toArray 95):=hb33;refine au hb33 rfl (by omega) ?_;exact⟨⟨zP,rfl,.inr rfl⟩,h2.trans' (h33.mono fun k _ e=>.inr (by omega))⟩
end
end
end Go.Proofs.YtcmijampbjcbgaaGreatDoor
