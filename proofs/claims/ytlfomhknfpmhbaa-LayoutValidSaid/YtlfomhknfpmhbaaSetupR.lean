/- Chapter 12's generator: two regions of the bodies' loop, over a frame of letters (written by gensetup3.py). -/
import Derived.Deep.DeepCutAuto
import Derived.Test.YtlfomhknfpmhbaaReg
import Derived.Test.YtlfomhknfpmhbaaRound
import Derived.Test.YtlfomhknfpmhbaaStore
namespace Go.Proofs.Ytlfomhknfpmhbaa
open Go.RowKit

set_option maxRecDepth 1000000 in
set_option maxHeartbeats 8000000 in
theorem r20_any (c : Code) (hc : Try.f11.body.bind (regOf 20) = some c) (Q : Exit → Act → World → Prop) (w9 : World) (s6 s10 : Nat) (s : St) (bo : Option Addr) (bc i : Nat) (bodies : List Bd) (rad : Int) (po : Option Addr) (pn pc : Nat) (px py vx vy im av bv : Int)
    (hs6 : w9.heap[s6]? = some (.cells (stCells (sw s bo i bc)) 31 (0, 0))) (hs10 : w9.heap[s10]? = some (.cells #[.int .i64 rad, .slice po pn pc, .int .i64 px, .int .i64 py, .int .i64 vx, .int .i64 vy, .int .i64 im, .int .i64 av, .int .i64 bv] 52 (0, 0)))
    (hseg : Seg w9 52 9 bo i bc (bodies.flatMap Bd.cells)) (hsb : s6 ∉ blk bo) (hi : i ≤ 24) (u0 u1 u2 u3 u4 u5 u7 u8 u9 u11 u12 u13 u14 u15 u16 u17 u18 u19 u20 u21 u22 u23 u24 u25 u26 u27 u28 u29 u30 u31 u32 u33 u34 u35 u36 u37 u38 u39 u40 u41 u42 u43 u44 u45 u46 u47 u48 u49 u50 u51 u52 u53 u54 u55 u56 u57 u58 u59 u60 u61 u62 u63 u64 u65 u66 u67 u68 u69 u70 u71 u72 u73 u74 u75 u76 u77 u78 u79 u80 u81 u82 u83 u84 u85 u86 u87 u88 u89 u90 u91 u92 u93 u94 u95 u96 u97 u98 u99 u100 u101 u102 u103 u104 u105 u106 u107 u108 u109 u110 u111 u112 u113 u114 u115 u116 u117 u118 u119 u120 u121 u122 u123 u124 u125 u126 u127 u128 u129 u130 u131 u132 u133 u134 u135 u136 u137 u138 u139 u140 u141 u142 u143 u144 u145 u146 u147 u148 u149 u150 u151 u152 u153 u154 u155 u156 u157 u158 u159 : Value)
    (h : ∀ (ao' : Option Addr) (cap' : Nat) (w11 : World) (v153 v154 v155 v156 v157 v158 : Value), w11.heap[s6]? = some (.cells (stCells (sw s ao' (i + 1) cap')) 31 (0, 0)) → Seg w11 52 9 ao' (i + 1) cap' ((bodies ++ [(⟨rad, po, pn, pc, px, py, vx, vy, im, av, bv⟩ : Bd)]).flatMap Bd.cells) →
      Fr (s6 :: blk bo) w9 w11 → Ext (blk bo) w9 (blk ao') → Q .normal { tmps := #[u0, u1, u2, u3, u4, u5, .pointer (some ⟨s6, 0, none⟩), u7, u8, u9, .pointer (some ⟨s10, 0, none⟩), u11, u12, u13, u14, u15, u16, u17, u18, u19, u20, u21, u22, u23, u24, u25, u26, u27, u28, u29, u30, u31, u32, u33, u34, u35, u36, u37, u38, u39, u40, u41, u42, u43, u44, u45, u46, u47, u48, u49, u50, u51, u52, u53, u54, u55, u56, u57, u58, u59, u60, u61, u62, u63, u64, u65, u66, u67, u68, u69, u70, u71, u72, u73, u74, u75, u76, u77, u78, u79, u80, u81, u82, u83, u84, u85, u86, u87, u88, u89, u90, u91, u92, u93, u94, u95, u96, u97, u98, u99, u100, u101, u102, u103, u104, u105, u106, u107, u108, u109, u110, u111, u112, u113, u114, u115, u116, u117, u118, u119, u120, u121, u122, u123, u124, u125, u126, u127, u128, u129, u130, u131, u132, u133, u134, u135, u136, u137, u138, u139, u140, u141, u142, u143, u144, u145, u146, u147, u148, u149, u150, u151, u152, v153, v154, v155, v156, v157, v158, u159], defers := [] } w11) :
    Code.wp Try.prog c Q { tmps := #[u0, u1, u2, u3, u4, u5, .pointer (some ⟨s6, 0, none⟩), u7, u8, u9, .pointer (some ⟨s10, 0, none⟩), u11, u12, u13, u14, u15, u16, u17, u18, u19, u20, u21, u22, u23, u24, u25, u26, u27, u28, u29, u30, u31, u32, u33, u34, u35, u36, u37, u38, u39, u40, u41, u42, u43, u44, u45, u46, u47, u48, u49, u50, u51, u52, u53, u54, u55, u56, u57, u58, u59, u60, u61, u62, u63, u64, u65, u66, u67, u68, u69, u70, u71, u72, u73, u74, u75, u76, u77, u78, u79, u80, u81, u82, u83, u84, u85, u86, u87, u88, u89, u90, u91, u92, u93, u94, u95, u96, u97, u98, u99, u100, u101, u102, u103, u104, u105, u106, u107, u108, u109, u110, u111, u112, u113, u114, u115, u116, u117, u118, u119, u120, u121, u122, u123, u124, u125, u126, u127, u128, u129, u130, u131, u132, u133, u134, u135, u136, u137, u138, u139, u140, u141, u142, u143, u144, u145, u146, u147, u148, u149, u150, u151, u152, u153, u154, u155, u156, u157, u158, u159], defers := [] } w9 := by
  obtain ⟨ib, hib, hbz0, hbz1, hbz2⟩ := info_parts infoBodyZ
  conv at hc => lhs; whnf
  injection hc with hc
  subst hc
  have c1s : w9.cell? ⟨s6, 1, none⟩ = some (.slice bo i bc) := cell_blk hs6 1
  have HS6 := Lib.hid hs6
  have HS10 := Lib.hid hs10
  have HSB := Lib.hid hsb
  have HSG := Lib.hid (fun (o : Obj) => hseg.alloc o)
  have HQ := Lib.hid h
  have h6l := lt_of_blk hs6
  clear hs6 hs10 hseg h hsb
  go_wp2_with (first | (at_builtin; refine wpList_append_seg rfl _ _ 23 rfl 52 ib _ 9 88 Try.underlying23 hib hbz0 hbz1 hbz2 rfl (by decide) bo i bc (bodies.flatMap Bd.cells) rfl (HSG.out _) ⟨_, 0, none⟩ 1 1 [.int .i64 rad, .slice po pn pc, .int .i64 px, .int .i64 py, .int .i64 vx, .int .i64 vy, .int .i64 im, .int .i64 av, .int .i64 bv] rfl rfl (fun j u hu => by rw [Addr.add_mid, Nat.zero_add, World.cell?_alloc_new]; simpa using hu) (by simp [Value.oneCell']) (by unfold maxLen; omega) (by omega) ?_; intro ao' cap' w10 hs10 hf10 hx10; have HS10 := Lib.hid hs10; have HF10 := Lib.hid (((Fr.refl (blk bo) w9).alloc _).trans hf10 (Ext.refl _ _)); have HX10 := Lib.hid hx10; have hsb := HF10.out.blk HS6.out HSB.out; have c1t : w10.cell? ⟨s6, 1, none⟩ = some (.slice bo i bc) := cell_blk hsb 1; have g1t : w10.frozen? ⟨s6, 1, none⟩ = false := frozen_blk hsb 1; have HSBB := Lib.hid hsb; clear hs10 hf10 hx10 hsb c1s) | (refine wpList_loadB rfl 52 (Operand.tmp 10) rfl s10 9 rfl #[.int .i64 rad, .slice po pn pc, .int .i64 px, .int .i64 py, .int .i64 vx, .int .i64 vy, .int .i64 im, .int .i64 av, .int .i64 bv] 52 (0, 0) HS10.out _ Try.underlying52 rfl rfl infoBody ?_))
  have hsao : s6 ∉ blk ao' := fun hm => by
    rcases HX10.out _ hm with h | h
    · exact HSB.out h
    · simp at h; omega
  refine HQ.out ao' cap' _ _ _ _ _ _ _ ?_ ?_ ?_ ?_
  · exact setCell_blk HSBB.out 1 _
  · rw [List.flatMap_append]
    have h := HS10.out.setCell_other (p := ⟨s6, 1, none⟩) (v := .slice ao' (i + 1) cap') hsao
    simpa [Bd.cells] using h
  · exact (HF10.out.mono (fun k hk => by simp [hk])).setCell (p := ⟨s6, 1, none⟩) (.inl (by simp)) _
  · intro k hk
    rcases HX10.out k hk with h | h
    · exact .inl h
    · simp at h; exact .inr (by omega)

set_option maxRecDepth 1000000 in
set_option maxHeartbeats 8000000 in
theorem r19_any (c : Code) (hc : Try.f11.body.bind (regOf 19) = some c) (Q : Exit → Act → World → Prop) (w8 : World) (s10 n m q : Nat) (rad : Int) (po : Option Addr) (pn pc : Nat) (px py vx vy im av bv : Int) (bn : n < 1000000) (bm : m < 1000000)
    (hpx : ((n : Int) / 1000 % 13 - 6) * 900 = px) (hpy : ((m : Int) / 50 % 11 - 5) * 800 = py) (hvx : ((m : Int) / 550 % 9 - 4) * 300 = vx) (hvy : ((n : Int) / 13000 % 9 - 4) * 300 = vy) (hq : (m : Int) / 5000 % 5 = (q : Int)) (hq5 : (q : Int) < 5)
    (him : (#[Value.int .i64 1024, .int .i64 1024, .int .i64 512, .int .i64 2048, .int .i64 0] : Array Value)[q]? = some (.int .i64 im))
    (hb8 : w8.heap[s10]? = some (.cells #[.int .i64 rad, .slice po pn pc, .int .i64 0, .int .i64 0, .int .i64 0, .int .i64 0, .int .i64 0, .int .i64 av, .int .i64 bv] 52 (0, 0))) (u0 u1 u2 u3 u4 u5 u6 u7 u11 u12 u13 u14 u15 u16 u17 u18 u19 u20 u21 u22 u23 u24 u25 u26 u27 u28 u29 u30 u31 u32 u33 u34 u35 u36 u37 u38 u39 u40 u41 u42 u43 u44 u45 u46 u47 u48 u49 u50 u51 u52 u53 u54 u55 u56 u57 u58 u59 u60 u61 u62 u63 u64 u65 u66 u67 u68 u69 u70 u71 u72 u73 u74 u75 u76 u77 u78 u79 u80 u81 u82 u83 u84 u85 u86 u87 u88 u89 u90 u91 u92 u93 u94 u95 u96 u97 u98 u99 u100 u101 u102 u103 u104 u105 u106 u107 u108 u109 u110 u111 u112 u113 u114 u115 u116 u117 u118 u119 u120 u121 u122 u123 u124 u125 u126 u127 u128 u129 u130 u131 u132 u133 u134 u135 u136 u137 u138 u139 u140 u141 u142 u143 u144 u145 u146 u147 u148 u149 u150 u151 u152 u153 u154 u155 u156 u157 u158 u159 : Value)
    (h : ∀ (w9 : World) (v123 v124 v125 v126 v127 v128 v129 v130 v131 v132 v133 v134 v135 v136 v137 v138 v139 v140 v141 v142 v143 v144 v145 v146 v147 v148 v149 v150 v151 v152 : Value), w9.heap[s10]? = some (.cells (⟨rad, po, pn, pc, px, py, vx, vy, im, av, bv⟩ : Bd).cells.toArray 52 (0, 0)) → Fr [s10] w8 w9 → Q .normal { tmps := #[u0, u1, u2, u3, u4, u5, u6, u7, .int .i64 (n : Int), .int .i64 (m : Int), .pointer (some ⟨s10, 0, none⟩), u11, u12, u13, u14, u15, u16, u17, u18, u19, u20, u21, u22, u23, u24, u25, u26, u27, u28, u29, u30, u31, u32, u33, u34, u35, u36, u37, u38, u39, u40, u41, u42, u43, u44, u45, u46, u47, u48, u49, u50, u51, u52, u53, u54, u55, u56, u57, u58, u59, u60, u61, u62, u63, u64, u65, u66, u67, u68, u69, u70, u71, u72, u73, u74, u75, u76, u77, u78, u79, u80, u81, u82, u83, u84, u85, u86, u87, u88, u89, u90, u91, u92, u93, u94, u95, u96, u97, u98, u99, u100, u101, u102, u103, u104, u105, u106, u107, u108, u109, u110, u111, u112, u113, u114, u115, u116, u117, u118, u119, u120, u121, u122, v123, v124, v125, v126, v127, v128, v129, v130, v131, v132, v133, v134, v135, v136, v137, v138, v139, v140, v141, v142, v143, v144, v145, v146, v147, v148, v149, v150, v151, v152, u153, u154, u155, u156, u157, u158, u159], defers := [] } w9) :
    Code.wp Try.prog c Q { tmps := #[u0, u1, u2, u3, u4, u5, u6, u7, .int .i64 (n : Int), .int .i64 (m : Int), .pointer (some ⟨s10, 0, none⟩), u11, u12, u13, u14, u15, u16, u17, u18, u19, u20, u21, u22, u23, u24, u25, u26, u27, u28, u29, u30, u31, u32, u33, u34, u35, u36, u37, u38, u39, u40, u41, u42, u43, u44, u45, u46, u47, u48, u49, u50, u51, u52, u53, u54, u55, u56, u57, u58, u59, u60, u61, u62, u63, u64, u65, u66, u67, u68, u69, u70, u71, u72, u73, u74, u75, u76, u77, u78, u79, u80, u81, u82, u83, u84, u85, u86, u87, u88, u89, u90, u91, u92, u93, u94, u95, u96, u97, u98, u99, u100, u101, u102, u103, u104, u105, u106, u107, u108, u109, u110, u111, u112, u113, u114, u115, u116, u117, u118, u119, u120, u121, u122, u123, u124, u125, u126, u127, u128, u129, u130, u131, u132, u133, u134, u135, u136, u137, u138, u139, u140, u141, u142, u143, u144, u145, u146, u147, u148, u149, u150, u151, u152, u153, u154, u155, u156, u157, u158, u159], defers := [] } w8 := by
  conv at hc => lhs; whnf
  injection hc with hc
  subst hc
  have HX8 := Lib.hid (alloc_old (o' := .cells #[.int .i64 1024, .int .i64 1024, .int .i64 512, .int .i64 2048, .int .i64 0] 3) hb8)
  have cq : (w8.alloc (.cells #[.int .i64 1024, .int .i64 1024, .int .i64 512, .int .i64 2048, .int .i64 0] 3)).cell? ⟨w8.heap.size, q, none⟩ = some (.int .i64 im) := (cell_blk (alloc_new w8 _) q).trans him
  have HQ := Lib.hid h
  clear hb8 h him
  go_wp2_with (refine wpList_storeM rfl 50 (Operand.tmp 152) (Operand.tmp 151) rfl s10 2 5 #[.int .i64 px, .int .i64 py, .int .i64 vx, .int .i64 vy, .int .i64 im] rfl rfl _ 52 HX8.out (by exact Nat.le_of_ble_eq_true rfl) rfl infoMotion (by simp [Value.oneCell']) (⟨rad, po, pn, pc, px, py, vx, vy, im, av, bv⟩ : Bd).cells.toArray rfl ?_; intro w9 hb9 hf9; have H9 := Lib.hid hb9; have F9 := Lib.hid (((Fr.refl [s10] w8).alloc _).trans hf9 (Ext.refl _ _)); clear hb9 hf9 cq)
  refine HQ.out w9 _ _ _ _ _ _ _ _ _ _ _ _ _ _ _ _ _ _ _ _ _ _ _ _ _ _ _ _ _ _ ?_ ?_
  · exact H9.out
  · exact F9.out

end Go.Proofs.Ytlfomhknfpmhbaa
