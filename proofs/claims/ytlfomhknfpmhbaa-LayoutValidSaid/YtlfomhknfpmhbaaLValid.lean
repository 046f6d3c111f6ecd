/- LayoutValid returns true. -/
import Derived.Test.YtlfomhknfpmhbaaBentW
namespace Go.Proofs.Ytlfomhknfpmhbaa
open Go.RowKit

theorem SetupAt.valid0 {w w1 : World} {s : St} {bodies : List Bd} {doors : List (Int × Int)} (h : SetupAt w w1 s bodies doors) {polys : List (List (Int × Int))} (hpl : polys.length = bodies.length) (hgood : ∀ (j : Nat) (h1 : j < bodies.length) (h2 : j < polys.length), shB bodies[j].rad polys[j] = true) :
    validB s bodies (codes bodies polys) roomsL doors = 0 := by
  rw [gen_valid h bodies _ (fun d hd => (h.good d hd).1), codes_zero hpl hgood]
  rfl
theorem shB_len {rad : Int} {l : List (Int × Int)} (h : shB rad l = true) : l.length ≤ 6 := by
  unfold shB at h
  split at h
  · omega
  · simp only [Bool.and_eq_true, decide_eq_true_eq] at h
    exact h.1.1.2

/-- both validations of one setup -/
theorem SK.both {w : World} {s : St} {bodies : List Bd} {polys : List (List (Int × Int))} {rooms : List Bx} {doors : List (Int × Int)} (h : SK w s bodies polys rooms doors) {C : Array Value} (hC : C = stCells s) :
    ∃ v : Int, (∀ u, Fr [] w u → Calls Try.prog 13 #[.agg C] u fun e w' => e = .returned (.int .i64 v) ∧ Fr [] u w') ∧ (∀ u, Fr [] w u → Calls Try.prog 14 #[.agg C] u fun e w' => e = .returned (.int .i64 v) ∧ Fr [] u w') := by
  have hv : s.val = .agg C := by rw [hC]; rfl
  refine ⟨validB s bodies (codes bodies polys) rooms doors, fun u hu => ?_, fun u hu => ?_⟩
  · have hh := (h.old hu).valid
    rw [hv] at hh
    exact hh
  · have hh := rvalidate_any u s bodies polys rooms doors (h.old hu)
    rw [hv] at hh
    exact hh

set_option maxRecDepth 100000 in
set_option maxHeartbeats 16000000 in
theorem valid_walk (w : World) (lo : Option Addr) (lc : Nat) (l : List Int) (how n other m : Int) (hrd : Rd w 1 lo l.length (ints l)) (hb : ∀ x ∈ l, bounded x) (h1 : bounded how) (h2 : bounded n) (h3 : bounded other) (h4 : bounded m) :
    Calls Try.prog 3 #[.slice lo l.length lc, .int .i64 how, .int .i64 n, .int .i64 other, .int .i64 m] w fun e w' => e = .returned (.bool true) ∧ Fr [] w w' := by
  have HSU := Lib.hid (setup_any w lo lc l hrd hb)
  have H1 := Lib.hid h1
  have H2 := Lib.hid h2
  have H3 := Lib.hid h3
  have H4 := Lib.hid h4
  clear hrd hb h1 h2 h3 h4
  go_enter Try.func3, Try.ntmps3
  go_wp2_with fail
  refine HSU.out.mono ?_
  rintro e w1 ⟨s, bodies, doors, rfl, hs⟩
  have hb5 := hs.b5
  have hb1 : 1 ≤ bodies.length := by have := hs.num.1; have := hs.pn; omega
  have hdl : doors.length ≤ 16 := by
    have h := hs.mok
    unfold mapB at h
    simp only [Bool.and_eq_true, decide_eq_true_eq] at h
    exact h.1.1.2
  obtain ⟨polys, hsk, hgood⟩ := hs.sk
  have hp6 : ∀ p ∈ polys, p.length ≤ 6 := by
    intro p hp
    obtain ⟨j, hj, rfl⟩ := List.mem_iff_getElem.1 hp
    exact shB_len (hgood j (by rw [← hsk.pl]; exact hj) hj)
  have hv0 := hs.valid0 hsk.pl hgood
  obtain ⟨SC, hSC⟩ : ∃ SC : List Value, SC = (stCells s).toList := ⟨_, rfl⟩
  have hC : SC.toArray = stCells s := by rw [hSC]
  have hval : s.val = .agg SC.toArray := by rw [hC]; rfl
  have hCl : (Try.prog.info? 31).map (·.size) = some SC.length := by rw [hSC]; exact infoSetup
  have HCL := Lib.hid hCl
  have HCS := Lib.hid (by rw [hC]; rfl : SC.toArray.size = 16)
  have HC1 := Lib.hid (by rw [hC]; simp [stCells, Value.oneCell'] : SC.toArray.all (·.oneCell') = true)
  have HLV := Lib.hid (fun (u : World) (hu : Fr [] w1 u) => (by have h := (hsk.old hu).valid; rw [hv0, hval] at h; exact h : Calls Try.prog 13 #[.agg SC.toArray] u fun e w' => e = .returned (.int .i64 0) ∧ Fr [] u w'))
  have HBE := Lib.hid (fun (u : World) (hu : Fr [] w1 u) => (by have h := bent_any u s bodies polys roomsL doors 6 (hsk.old hu) hp6 (by omega) hb1 (by omega) (by simp [roomsL]) (by simp [roomsL]) (by omega) how n H1.out H2.out; rw [hval] at h; exact h : Calls Try.prog 12 #[.agg SC.toArray, .int .i64 how, .int .i64 n] u (BentTo u 6 bodies.length roomsL.length doors.length)))
  have F1 := Lib.hid hs.fr
  rw [hval]
  clear hs hsk hgood hp6 hv0 hC hval hSC hCl
  obtain ⟨b3, hb3⟩ : ∃ b3, b3 = w1.heap.size := ⟨_, rfl⟩
  go_upto_region 2 with (refine wpList_storeB rfl 31 (Operand.tmp 11) (Operand.tmp 15) rfl w1.heap.size 16 SC.toArray rfl rfl _ 31 (by exact alloc_new _ _) rfl HCS.out infoSetup HC1.out ?_; intro w2 hb hf; have FW := Lib.hid (((Fr.refl [] w1).alloc _).trans hf (fun k hk => .inr (by simp at hk; omega))); have BW := Lib.hid hb; clear hb hf)
  have F2 := Lib.hid (F1.out.trans FW.out (by simp [Ext]))
  have G2 := Lib.hid FW.out
  have B2 := Lib.hid BW.out
  obtain ⟨b3, hb3⟩ : ∃ b3, b3 = w1.heap.size := ⟨_, rfl⟩
  rw [← hb3] at B2 ⊢
  clear hb3 FW BW F1
  go_wp2_with (refine wpList_loadB rfl 31 (Operand.tmp 11) rfl b3 16 rfl SC.toArray 31 (0, 0) B2.out _ Try.underlying31 rfl HCS.out infoSetup ?_)
  refine (HBE.out _ G2.out).mono ?_
  rintro e w3 ⟨s', bodies', polys', rooms', doors', rfl, hk, hp, hbl, hrl, hdl', hf⟩
  have hp7 : ∀ p ∈ polys', p.length ≤ 7 := hp
  have hr3 : rooms'.length = 3 := by rw [hrl]; rfl
  have F3 := Lib.hid (F2.out.trans hf (by simp [Ext]))
  have G3 := Lib.hid (G2.out.trans hf (by simp [Ext]))
  have B3 := Lib.hid (hf.blk B2.out (by simp))
  obtain ⟨nb, hnb⟩ : ∃ nb, nb = bodies'.length := ⟨_, rfl⟩
  have hsnb : s'.nb = nb := by rw [hnb]; exact hk.bod.nb
  obtain ⟨SD, hSD⟩ : ∃ SC : List Value, SC = (stCells s').toList := ⟨_, rfl⟩
  have hC' : SD.toArray = stCells s' := by rw [hSD]
  have hval' : s'.val = .agg SD.toArray := by rw [hC']; rfl
  have HDL := Lib.hid (by rw [hSD]; exact infoSetup : (Try.prog.info? 31).map (·.size) = some SD.length)
  have HCS' := Lib.hid (by rw [hC']; rfl : SD.toArray.size = 16)
  have HC1' := Lib.hid (by rw [hC']; simp [stCells, Value.oneCell'] : SD.toArray.all (·.oneCell') = true)
  obtain ⟨bo', hbo'⟩ : ∃ x, x = s'.bo := ⟨_, rfl⟩
  obtain ⟨bc', hbc'⟩ : ∃ x, x = s'.bc := ⟨_, rfl⟩
  have HCB' := Lib.hid (by rw [hC', hbo', hbc', ← hsnb]; rfl : SD.toArray[1]? = some (.slice bo' nb bc'))
  obtain ⟨va, hla, hra⟩ := hk.both hC'
  have HLA := Lib.hid hla
  have HRA := Lib.hid hra
  have HBE2 := Lib.hid (fun (hn : 1 ≤ nb) (u : World) (hu : Fr [] w3 u) => (by have h := bent_any u s' bodies' polys' rooms' doors' 7 (hk.old hu) hp7 (by omega) (by omega) (by omega) (by omega) (by omega) (by omega) other m H3.out H4.out; rw [hval'] at h; exact h : Calls Try.prog 12 #[.agg SD.toArray, .int .i64 other, .int .i64 m] u (BentTo u 7 bodies'.length rooms'.length doors'.length)))
  rw [hval']
  clear hk hp hp7 hbl hrl hdl' hf hr3 hsnb hC' hSD hval' hla hra hnb F2 G2 B2 hb5 hb1 hdl hbo' hbc'
  go_upto_region 3 with (refine wpList_storeB rfl 31 (Operand.tmp 12) (Operand.tmp 19) rfl w3.heap.size 16 SD.toArray rfl rfl _ 31 (by exact alloc_new _ _) rfl HCS'.out infoSetup HC1'.out ?_; intro w4 hb hf; have FW := Lib.hid (((Fr.refl [] w3).alloc _).trans hf (fun k hk => .inr (by simp at hk; omega))); have BW := Lib.hid hb; clear hb hf)
  have F4 := Lib.hid (F3.out.trans FW.out (by simp [Ext]))
  have G4 := Lib.hid (G3.out.trans FW.out (by simp [Ext]))
  have A4 := Lib.hid FW.out
  have B4 := Lib.hid (FW.out.blk B3.out (by simp))
  obtain ⟨b4, hb4⟩ : ∃ b4, b4 = w3.heap.size := ⟨_, rfl⟩
  have D4 := BW
  rw [← hb4] at D4 ⊢
  clear hb4 FW BW F3 G3 B3
  have HSS := Lib.hid (fun (u : World) (hu : Fr [] w4 u) => (⟨hu.blk B4.out (by simp), hu.blk D4.out (by simp), hu⟩ : u.heap[b3]? = some (.cells SC.toArray 31 (0, 0)) ∧ u.heap[b4]? = some (.cells SD.toArray 31 (0, 0)) ∧ Fr [] w4 u))
  have hvv : (va != va) = false := by simp
  refine wp_region_held_drew (S := (fun u => u.heap[b3]? = some (.cells SC.toArray 31 (0, 0)) ∧ u.heap[b4]? = some (.cells SD.toArray 31 (0, 0)) ∧ Fr [] w4 u)) (by kernel_rfl) (HSS.out _ (Fr.refl [] w4).drew) (fun hHeld => ?_)
  refine wpAnyH_takeL (i := 0) (v := (.agg SC.toArray)) rfl (by kernel_rfl) (by kernel_rfl) (by kernel_rfl) (fun _ _ _ h => h) (yieldsIf_load_mid (by rfl) 31 (Operand.tmp 11) rfl b3 0 rfl SC _ (fun w' hw' => range_blk (c := SC.toArray) hw'.1) Try.underlying31 rfl HCL.out) (by assumption) ?_
  try simp only [Act.put, List.setIfInBounds_toArray, List.set_cons_zero, List.set_cons_succ]
  refine wpAnyH_ready (rs := [1]) (by kernel_rfl) (by simp) ?_
  refine AllReadyH.consL (i := 1) rfl (fun K hK => ?_) AllReadyH.nil
  go_simp
  go_at_call 13; refine (HLV.out _ (G4.out.drew)).mono ?_; rintro e w5 ⟨rfl, fq⟩; have A5 := Lib.hid (((Fr.refl [] w4).drew).trans fq (by simp [Ext])); clear fq
  refine hK.out _ _ (HSS.out _ A5.out) (fun hHeld => ?_)
  clear hK K
  try simp only [Act.put, List.setIfInBounds_toArray, List.set_cons_zero, List.set_cons_succ]
  refine wpAnyH_takeL (i := 2) (v := _) rfl (by kernel_rfl) (by kernel_rfl) (by kernel_rfl) (fun _ _ _ h => h) (Or.inl ⟨by rfl, (by intro w' hSw; (try dsimp only at hSw); skip; go_simp; try with_reducible rfl)⟩) (by assumption) ?_
  try simp only [Act.put, List.setIfInBounds_toArray, List.set_cons_zero, List.set_cons_succ]
  refine wpAnyH_takeL (i := 3) (v := _) rfl (by kernel_rfl) (by kernel_rfl) (by kernel_rfl) (fun _ _ _ h => h) (Or.inl ⟨by rfl, (by intro w' hSw; (try dsimp only at hSw); skip; go_simp; try with_reducible rfl)⟩) (by assumption) ?_
  try simp only [Act.put, List.setIfInBounds_toArray, List.set_cons_zero, List.set_cons_succ]
  refine wpAnyH_takeL (i := 4) (v := (.agg SD.toArray)) rfl (by kernel_rfl) (by kernel_rfl) (by kernel_rfl) (fun _ _ _ h => h) (yieldsIf_load_mid (by rfl) 31 (Operand.tmp 12) rfl b4 0 rfl SD _ (fun w' hw' => range_blk (c := SD.toArray) hw'.2.1) Try.underlying31 rfl HDL.out) (by assumption) ?_
  try simp only [Act.put, List.setIfInBounds_toArray, List.set_cons_zero, List.set_cons_succ]
  refine wpAnyH_takeL (i := 6) (v := (.agg SD.toArray)) rfl (by kernel_rfl) (by kernel_rfl) (by kernel_rfl) (fun _ _ _ h => h) (yieldsIf_load_mid (by rfl) 31 (Operand.tmp 12) rfl b4 0 rfl SD _ (fun w' hw' => range_blk (c := SD.toArray) hw'.2.1) Try.underlying31 rfl HDL.out) (by assumption) ?_
  try simp only [Act.put, List.setIfInBounds_toArray, List.set_cons_zero, List.set_cons_succ]
  refine wpAnyH_ready (rs := [5]) (by kernel_rfl) (by simp) ?_
  refine AllReadyH.consL (i := 5) rfl (fun K hK => ?_) AllReadyH.nil
  go_simp
  go_at_call 13; refine (HLA.out _ ((A4.out.trans A5.out (by simp [Ext])))).mono ?_; rintro e w6 ⟨rfl, fq⟩; have A6 := Lib.hid ((A5.out).trans fq (by simp [Ext])); clear fq
  refine hK.out _ _ (HSS.out _ A6.out) (fun hHeld => ?_)
  clear hK K
  try simp only [Act.put, List.setIfInBounds_toArray, List.set_cons_zero, List.set_cons_succ]
  refine wpAnyH_ready (rs := [7]) (by kernel_rfl) (by simp) ?_
  refine AllReadyH.consL (i := 7) rfl (fun K hK => ?_) AllReadyH.nil
  go_simp
  go_at_call 14; refine (HRA.out _ ((A4.out.trans A6.out (by simp [Ext])))).mono ?_; rintro e w7 ⟨rfl, fq⟩; have A7 := Lib.hid ((A6.out).trans fq (by simp [Ext])); clear fq
  refine hK.out _ _ (HSS.out _ A7.out) (fun hHeld => ?_)
  clear hK K
  try simp only [Act.put, List.setIfInBounds_toArray, List.set_cons_zero, List.set_cons_succ]
  refine wpAnyH_takeL (i := 8) (v := _) rfl (by kernel_rfl) (by kernel_rfl) (by kernel_rfl) (fun _ _ _ h => h) (Or.inl ⟨by rfl, (by intro w' hSw; (try dsimp only at hSw); skip; go_simp; try with_reducible rfl)⟩) (by assumption) ?_
  try simp only [Act.put, List.setIfInBounds_toArray, List.set_cons_zero, List.set_cons_succ]
  refine wpAnyH_takeL (i := 9) (v := _) rfl (by kernel_rfl) (by kernel_rfl) (by kernel_rfl) (fun _ _ _ h => h) (Or.inl ⟨by rfl, (by intro w' hSw; (try dsimp only at hSw); skip; go_simp; try with_reducible rfl)⟩) (by assumption) ?_
  try simp only [Act.put, List.setIfInBounds_toArray, List.set_cons_zero, List.set_cons_succ]
  refine wpAnyH_done (by kernel_rfl) ?_ _
  have F7 := Lib.hid (F4.out.trans A7.out (by simp [Ext]))
  have G7 := Lib.hid (A4.out.trans A7.out (by simp [Ext]))
  have D7 := Lib.hid (A7.out.blk D4.out (by simp))
  have c1 : w7.cell? ⟨b4, 1, none⟩ = some (.slice bo' nb bc') := (cell_blk D7.out 1).trans HCB'.out
  clear hHeld
  by_cases hn0 : nb = 0
  · have hne : ((nb : Int) == 0) = true := by rw [hn0]; rfl
    go_wp2_with fail
    refine (lives_any _).mono ?_
    rintro e w9 ⟨rfl, f9⟩
    have HF9 := Lib.hid (F7.out.trans f9 (by simp [Ext]))
    clear f9
    go_wp2_with fail
    go_ret
    exact ⟨rfl, HF9.out⟩
  · have hne : ((nb : Int) == 0) = false := beq_eq_false_iff_ne.2 (by omega)
    have HB2 := Lib.hid (HBE2.out (by omega) _ G7.out)
    clear hn0
    go_wp2_with (refine wpList_loadB rfl 31 (Operand.tmp 12) rfl b4 16 rfl SD.toArray 31 (0, 0) D7.out _ Try.underlying31 rfl HCS'.out infoSetup ?_)
    refine HB2.out.mono ?_
    rintro e w8 ⟨s8, bodies8, polys8, rooms8, doors8, rfl, hk, -, -, -, -, hf⟩
    have F8 := Lib.hid (F7.out.trans hf (by simp [Ext]))
    obtain ⟨SE, hSE⟩ : ∃ SC : List Value, SC = (stCells s8).toList := ⟨_, rfl⟩
    have hC8 : SE.toArray = stCells s8 := by rw [hSE]
    have hval8 : s8.val = .agg SE.toArray := by rw [hC8]; rfl
    have HEL := Lib.hid (by rw [hSE]; exact infoSetup : (Try.prog.info? 31).map (·.size) = some SE.length)
    have HCS8 := Lib.hid (by rw [hC8]; rfl : SE.toArray.size = 16)
    have HC18 := Lib.hid (by rw [hC8]; simp [stCells, Value.oneCell'] : SE.toArray.all (·.oneCell') = true)
    obtain ⟨vb, hlb, hrb⟩ := hk.both hC8
    have HLB := Lib.hid hlb
    have HRB := Lib.hid hrb
    rw [hval8]
    clear hk hf hSE hC8 hval8 hlb hrb c1
    go_upto_region 8 with (refine wpList_storeB rfl 31 (Operand.tmp 13) (Operand.tmp 38) rfl w8.heap.size 16 SE.toArray rfl rfl _ 31 (by exact alloc_new _ _) rfl HCS8.out infoSetup HC18.out ?_; intro w9 hb hf; have FW := Lib.hid (((Fr.refl [] w8).alloc _).trans hf (fun k hk => .inr (by simp at hk; omega))); have BW := Lib.hid hb; clear hb hf)
    have F9 := Lib.hid (F8.out.trans FW.out (by simp [Ext]))
    have A9 := Lib.hid FW.out
    obtain ⟨b5, hb5⟩ : ∃ b5, b5 = w8.heap.size := ⟨_, rfl⟩
    have D9 := BW
    rw [← hb5] at D9 ⊢
    clear hb5 FW BW
    have HST := Lib.hid (fun (u : World) (hu : Fr [] w9 u) => (⟨hu.blk D9.out (by simp), hu⟩ : u.heap[b5]? = some (.cells SE.toArray 31 (0, 0)) ∧ Fr [] w9 u))
    have hvb : (vb == vb) = true := by simp
    refine wp_region_held_drew (S := (fun u => u.heap[b5]? = some (.cells SE.toArray 31 (0, 0)) ∧ Fr [] w9 u)) (by kernel_rfl) (HST.out _ (Fr.refl [] w9).drew) (fun hHeld => ?_)
    refine wpAnyH_takeL (i := 0) (v := (.agg SE.toArray)) rfl (by kernel_rfl) (by kernel_rfl) (by kernel_rfl) (fun _ _ _ h => h) (yieldsIf_load_mid (by rfl) 31 (Operand.tmp 13) rfl b5 0 rfl SE _ (fun w' hw' => range_blk (c := SE.toArray) hw'.1) Try.underlying31 rfl HEL.out) (by assumption) ?_
    try simp only [Act.put, List.setIfInBounds_toArray, List.set_cons_zero, List.set_cons_succ]
    refine wpAnyH_takeL (i := 2) (v := (.agg SE.toArray)) rfl (by kernel_rfl) (by kernel_rfl) (by kernel_rfl) (fun _ _ _ h => h) (yieldsIf_load_mid (by rfl) 31 (Operand.tmp 13) rfl b5 0 rfl SE _ (fun w' hw' => range_blk (c := SE.toArray) hw'.1) Try.underlying31 rfl HEL.out) (by assumption) ?_
    try simp only [Act.put, List.setIfInBounds_toArray, List.set_cons_zero, List.set_cons_succ]
    refine wpAnyH_ready (rs := [1]) (by kernel_rfl) (by simp) ?_
    refine AllReadyH.consL (i := 1) rfl (fun K hK => ?_) AllReadyH.nil
    go_simp
    go_at_call 13; refine (HLB.out _ (A9.out.drew)).mono ?_; rintro e wa ⟨rfl, fq⟩; have AA := Lib.hid (((Fr.refl [] w9).drew).trans fq (by simp [Ext])); clear fq
    refine hK.out _ _ (HST.out _ AA.out) (fun hHeld => ?_)
    clear hK K
    try simp only [Act.put, List.setIfInBounds_toArray, List.set_cons_zero, List.set_cons_succ]
    refine wpAnyH_ready (rs := [3]) (by kernel_rfl) (by simp) ?_
    refine AllReadyH.consL (i := 3) rfl (fun K hK => ?_) AllReadyH.nil
    go_simp
    go_at_call 14; refine (HRB.out _ ((A9.out.trans AA.out (by simp [Ext])))).mono ?_; rintro e wb ⟨rfl, fq⟩; have AB := Lib.hid ((AA.out).trans fq (by simp [Ext])); clear fq
    refine hK.out _ _ (HST.out _ AB.out) (fun hHeld => ?_)
    clear hK K
    try simp only [Act.put, List.setIfInBounds_toArray, List.set_cons_zero, List.set_cons_succ]
    refine wpAnyH_takeL (i := 4) (v := _) rfl (by kernel_rfl) (by kernel_rfl) (by kernel_rfl) (fun _ _ _ h => h) (Or.inl ⟨by rfl, (by intro w' hSw; (try dsimp only at hSw); skip; go_simp; try with_reducible rfl)⟩) (by assumption) ?_
    try simp only [Act.put, List.setIfInBounds_toArray, List.set_cons_zero, List.set_cons_succ]
    refine wpAnyH_takeL (i := 5) (v := _) rfl (by kernel_rfl) (by kernel_rfl) (by kernel_rfl) (fun _ _ _ h => h) (Or.inl ⟨by rfl, (by intro w' hSw; (try dsimp only at hSw); skip; go_simp; try with_reducible rfl)⟩) (by assumption) ?_
    try simp only [Act.put, List.setIfInBounds_toArray, List.set_cons_zero, List.set_cons_succ]
    refine wpAnyH_ready (rs := [6]) (by kernel_rfl) (by simp) ?_
    refine AllReadyH.consL (i := 6) rfl (fun K hK => ?_) AllReadyH.nil
    go_simp
    go_at_call 15; refine (lives_any _).mono ?_; rintro e wc ⟨rfl, fq⟩; have AC := Lib.hid (AB.out.trans fq (by simp [Ext])); clear fq
    refine hK.out _ _ (HST.out _ AC.out) (fun hHeld => ?_)
    clear hK K
    try simp only [Act.put, List.setIfInBounds_toArray, List.set_cons_zero, List.set_cons_succ]
    refine wpAnyH_takeL (i := 7) (v := _) rfl (by kernel_rfl) (by kernel_rfl) (by kernel_rfl) (fun _ _ _ h => h) (Or.inl ⟨by rfl, (by intro w' hSw; (try dsimp only at hSw); skip; go_simp; try with_reducible rfl)⟩) (by assumption) ?_
    try simp only [Act.put, List.setIfInBounds_toArray, List.set_cons_zero, List.set_cons_succ]
    refine wpAnyH_takeL (i := 8) (v := _) rfl (by kernel_rfl) (by kernel_rfl) (by kernel_rfl) (fun _ _ _ h => h) (Or.inl ⟨by rfl, (by intro w' hSw; (try dsimp only at hSw); skip; go_simp; try with_reducible rfl)⟩) (by assumption) ?_
    try simp only [Act.put, List.setIfInBounds_toArray, List.set_cons_zero, List.set_cons_succ]
    refine wpAnyH_done (by kernel_rfl) ?_ _
    have HFE := Lib.hid (F9.out.trans AC.out (by simp [Ext]))
    clear hHeld
    go_wp2_with fail
    go_ret
    exact ⟨rfl, HFE.out⟩
end Go.Proofs.Ytlfomhknfpmhbaa
