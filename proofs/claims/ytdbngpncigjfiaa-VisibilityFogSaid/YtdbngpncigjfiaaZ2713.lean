/- Has, Law27, Law27b, Place27, Law27c, VMono (merged by merge.py). -/
import Derived.Test.YtdbngpncigjfiaaZ271
import Derived.Test.YtdbngpncigjfiaaZ2710
import Derived.Test.YtdbngpncigjfiaaZ2712
import Derived.Deep.CutBlock
import Derived.Deep.DeepCutAuto
/- arenanetref01.Has. -/
namespace Go.Proofs.Ytdbngpncigjfiaa
open Go.RowKit

set_option maxRecDepth 100000 in
set_option maxHeartbeats 1000000 in
theorem hasn_any (w : World) (ao : Option Addr) (cap : Nat) (l : List Int) (n : Int) (h : Rd w 1 ao l.length (ints l)) :
    Calls Try.prog 23 #[.slice ao l.length cap, .int .i64 n] w fun e w' => e = .returned (.bool (decide (n ∈ l))) ∧ w = w' := by
  have hlen : l.length ≤ 9223372036854775807 := by have := h.2.1; unfold maxLen at this; omega
  have H := Lib.hid h
  clear h
  go_enter Try.func23, Try.ntmps23
  go_wp2
  go_loop [5] (fun iv => ∃ i : Nat, i ≤ l.length ∧ iv = .int .i64 (i : Int) ∧ n ∉ l.take i) (fun iv => l.length - (intOf iv).toNat)
  case atStart => exact ⟨0, by omega, rfl, by simp⟩
  case round =>
    obtain ⟨i, hi, rfl, hni⟩ := hrel
    have HNI := Lib.hid hni
    clear hni
    by_cases hlt : i < l.length
    · obtain ⟨g, off, rfl, hg, hc⟩ := H.out.at (by omega)
      have cx : w.cell? ⟨g, off + i, none⟩ = some (.int .i64 l[i]) := by rw [hc i (by omega), ints_get, List.getElem?_eq_getElem hlt]; rfl
      obtain ⟨x, hx⟩ : ∃ x, x = l[i] := ⟨_, rfl⟩
      rw [← hx] at cx
      have HX := Lib.hid hx
      clear hc hx
      by_cases hxn : x = n
      · have hb : (x == n) = true := by simpa using hxn
        have HXN := Lib.hid hxn
        clear hxn
        go_wp2
        go_ret
        exact ⟨ret_bool (by have h : n ∈ l := by rw [← HXN.out, HX.out]; exact List.getElem_mem hlt
                            simp [h]), rfl⟩
      · have hb : (x == n) = false := by simpa using hxn
        have HXN := Lib.hid hxn
        clear hxn
        go_wp2
        go_round
        case rel =>
          refine ⟨i + 1, by omega, by go_num, ?_⟩
          rw [List.take_succ_eq_append_getElem hlt, List.mem_append, List.mem_singleton, ← HX.out]
          rintro (h | h)
          · exact HNI.out h
          · exact HXN.out h.symm
        case measure => simp [intOf]; omega
    · go_wp2
      go_ret
      exact ⟨ret_bool (by have h := HNI.out; rw [List.take_of_length_le (by omega)] at h; simp [h]), rfl⟩
end Go.Proofs.Ytdbngpncigjfiaa
/- What chapter 27's laws share: a setup made from numbers, its cells. -/
namespace Go.Proofs.Ytdbngpncigjfiaa
open Go.RowKit

theorem drewFr {w w' : World} (h : ∃ k, w' = w.drewN k) : Fr [] w w' := by obtain ⟨k, rfl⟩ := h; exact (Fr.refl [] _).drewN k
theorem infoVec : (Try.prog.info? 29).map (·.size) = some 2 := by kernel_rfl

section
variable {w w1 : World} {s : St} {bodies : List Bd} {rooms : List Bx} {doors : List (Int × Int)}
theorem Set27.ok (h : Set27 w w1 s bodies rooms doors) : s.Ok := by
  have h1 := h.pl
  have h2 := h.nb
  have h3 := h.b5
  exact ⟨by omega, by omega, by omega, by omega⟩
theorem Set27.few (h : Set27 w w1 s bodies rooms doors) : Few rooms doors := by
  refine ⟨by have := h.r5; omega, fun d hd => ?_⟩
  have h1 := h.dok d hd
  have h2 := h.r5
  unfold doorOk at h1
  omega
theorem Set27.bd (h : Set27 w w1 s bodies rooms doors) {u : World} (hu : Fr [] w1 u) : BodiesAt u s bodies := ⟨h.nb, h.rd.fr hu (by simp)⟩
theorem Set27.mapu (h : Set27 w w1 s bodies rooms doors) {u : World} (hu : Fr [] w1 u) : MapAt u s rooms doors := h.map.old hu
theorem Set27.vpre (h : Set27 w w1 s bodies rooms doors) {u : World} (hu : Fr [] w1 u) {pl n : Nat} (hpl : s.players = (pl : Int)) (hn : n = 48 + 4 * pl + 8 * bodies.length) {b : Nat} {cells : List Int}
    (hr : u.heap[b]? = some (row cells)) (hl : cells.length = n) (hp : PosOk pl bodies.length cells) : VPre u s bodies rooms doors (some ⟨b, 0, none⟩) n cells := by
  have h1 := h.pl
  have h2 := h.nb
  have h3 := h.b5
  have hm : cells.length ≤ maxLen := by rw [hl, hn]; unfold maxLen; omega
  refine ⟨⟨h.ok, by omega, h.bd hu, (row_seg hr hm).rd, by omega, by omega⟩, h.mapu hu, h.few, by rw [h2]; exact h.pn, by omega, fun i h0 h1 => ?_, h.fog.1, h.fog.2⟩
  have := hp i.toNat (by omega)
  unfold posX posY
  rw [show (48 + 4 * s.players + 8 * i).toNat = 48 + 4 * pl + 8 * i.toNat by omega]
  exact this
end
end Go.Proofs.Ytdbngpncigjfiaa
/- More that chapter 27's laws share: Clamp; a copy of the cells. -/
namespace Go.Proofs.Ytdbngpncigjfiaa
open Go.RowKit

def clampI (n lo hi : Int) : Int := if n < lo then lo else if hi < n then hi else n
set_option maxHeartbeats 1000000 in
theorem clamp_any (w : World) (n lo hi : Int) : Calls Try.prog 26 #[.int .i64 n, .int .i64 lo, .int .i64 hi] w fun e w' => e = .returned (.int .i64 (clampI n lo hi)) ∧ w = w' := by
  by_cases h1 : n < lo
  · have e : clampI n lo hi = lo := by unfold clampI; rw [if_pos h1]
    rw [e]
    clear e
    go_enter Try.func26, Try.ntmps26
    go_wp2
    go_ret
    exact ⟨rfl, rfl⟩
  · by_cases h2 : hi < n
    · have e : clampI n lo hi = hi := by unfold clampI; rw [if_neg h1, if_pos h2]
      rw [e]
      clear e
      go_enter Try.func26, Try.ntmps26
      go_wp2
      go_ret
      exact ⟨rfl, rfl⟩
    · have e : clampI n lo hi = n := by unfold clampI; rw [if_neg h1, if_neg h2]
      rw [e]
      clear e
      go_enter Try.func26, Try.ntmps26
      go_wp2
      go_ret
      exact ⟨rfl, rfl⟩
theorem clampI_inC (n : Int) : inC (clampI n (-1048576) 1048576) := by unfold clampI inC; split <;> (try split) <;> omega

theorem Set27.vpreR {w w1 : World} {s : St} {bodies : List Bd} {rooms : List Bx} {doors : List (Int × Int)} (h : Set27 w w1 s bodies rooms doors) {u : World} (hu : Fr [] w1 u) {pl n : Nat} (hpl : s.players = (pl : Int)) (hn : n = 48 + 4 * pl + 8 * bodies.length)
    {co : Option Addr} {cc : Nat} {cells : List Int} (hr : Seg u 3 1 co n cc (ints cells)) (hl : cells.length = n) (hp : PosOk pl bodies.length cells) : VPre u s bodies rooms doors co cc cells := by
  have h1 := h.pl
  have h2 := h.nb
  have h3 := h.b5
  refine ⟨⟨h.ok, by omega, h.bd hu, by rw [hl]; exact hr.rd, by rw [hl]; exact hr.2.2.1, hr.2.1⟩, h.mapu hu, h.few, by rw [h2]; exact h.pn, by omega, fun i h0 h1 => ?_, h.fog.1, h.fog.2⟩
  have := hp i.toNat (by omega)
  unfold posX posY
  rw [show (48 + 4 * s.players + 8 * i).toNat = 48 + 4 * pl + 8 * i.toNat by omega]
  exact this
theorem PosOk.set1 {pl nb : Nat} {cells : List Int} (h : PosOk pl nb cells) {k : Nat} (hk : k < cells.length) {v : Int} (hv : inC v) : PosOk pl nb (cells.set k v) := by
  have key : ∀ j, inC (cells.getD j 0) → inC ((cells.set k v).getD j 0) := fun j hj => by
    by_cases e : k = j
    · subst e; rw [getD_set_eq hk]; exact hv
    · rw [getD_set_ne e]; exact hj
  intro i hi
  exact ⟨key _ (h i hi).1, key _ (h i hi).2⟩
theorem sees_same {s : St} {rooms : List Bx} {doors : List (Int × Int)} {c d : List Int} {p i : Int} (h1 : posX s c p = posX s d p) (h2 : posY s c p = posY s d p) (h3 : posX s c i = posX s d i) (h4 : posY s c i = posY s d i) :
    seesB s rooms doors c p i = seesB s rooms doors d p i := by
  unfold seesB; rw [h1, h2, h3, h4]
end Go.Proofs.Ytdbngpncigjfiaa
/- The laws' place: the position of a body. -/
namespace Go.Proofs.Ytdbngpncigjfiaa
open Go.RowKit

set_option maxRecDepth 100000 in
set_option maxHeartbeats 8000000 in
theorem place_any {w : World} {s : St} {bodies : List Bd} {rooms : List Bx} {doors : List (Int × Int)} {co : Option Addr} {cc : Nat} {cells : List Int} (h : VPre w s bodies rooms doors co cc cells) (i : Int) (h0 : 0 ≤ i) (h1 : i < (s.nb : Int)) :
    Calls Try.prog 27 #[s.val, .slice co cells.length cc, .int .i64 i] w fun e w' => e = .returned (.agg #[.int .i64 (posX s cells i), .int .i64 (posY s cells i)]) ∧ Fr [] w w' := by
  obtain ⟨C, hC⟩ := cAt s
  obtain ⟨vx, vy, im, hm⟩ := h.motion i h0 h1
  obtain ⟨X, hX⟩ : ∃ X, X = posX s cells i := ⟨_, rfl⟩
  obtain ⟨Y, hY⟩ : ∃ Y, Y = posY s cells i := ⟨_, rfl⟩
  have HM := Lib.hid (fun u (hu : Fr [] w u) => (by have h := hm u hu; rw [hC.val, ← hX, ← hY] at h; exact h : Calls Try.prog 41 #[.agg C, .slice co cells.length cc, .int .i64 i] u fun e w' => e = .returned (.agg #[.int .i64 X, .int .i64 Y, .int .i64 vx, .int .i64 vy, .int .i64 im]) ∧ Fr [] u w'))
  have HCS := Lib.hid hC.size
  obtain ⟨bx, hbx⟩ : ∃ bx, bx = w.heap.size := ⟨_, rfl⟩
  obtain ⟨wb, hwb⟩ : ∃ wb, wb = w.alloc (.cells C 31) := ⟨_, rfl⟩
  have HB := Lib.hid (by rw [hwb, hbx]; exact alloc_new w _ : wb.heap[bx]? = some (.cells C 31 (0, 0)))
  have HWB := Lib.hid (by rw [hwb]; exact (Fr.refl [] w).alloc _ : Fr [] w wb)
  have HBX := Lib.hid hbx
  have HWE := Lib.hid hwb
  rw [hC.val, ← hX, ← hY]
  clear h hm hC hX hY hbx hwb
  go_enter Try.func27, Try.ntmps27
  go_upto_region 1 with (fail)
  rw [← HBX.out, ← HWE.out]
  have HBA := Lib.hid (alloc_old (o' := .cells #[.int .i64 0, .int .i64 0] 29) HB.out)
  go_wp2_with (refine wpList_loadB rfl 31 (Operand.tmp 3) rfl bx 16 rfl C 31 (0, 0) HBA.out _ Try.underlying31 rfl HCS.out infoSetup ?_)
  refine (HM.out _ (by exact HWB.out.alloc _)).mono ?_
  rintro e w1 ⟨rfl, f1⟩
  have F1 := Lib.hid ((HWB.out.alloc (.cells #[.int .i64 0, .int .i64 0] 29)).trans f1 (by simp [Ext]))
  have hb := f1.blk (alloc_new wb _) (by simp)
  have HB1 := Lib.hid hb
  obtain ⟨bz, hbz⟩ : ∃ bz, bz = wb.heap.size := ⟨_, rfl⟩
  have HBZ := Lib.hid (by rw [hbz, HWE.out, World.size_alloc, HBX.out] : bz = bx + 1)
  have hwz : w.heap.size ≤ bz := by rw [hbz]; exact HWB.out.size
  rw [← hbz] at hb
  have z0 : w1.cell? ⟨bz, 0, none⟩ = some (.int .i64 0) := cell_blk hb 0
  have z1 : w1.cell? ⟨bz, 1, none⟩ = some (.int .i64 0) := cell_blk hb 1
  have y0 : w1.frozen? ⟨bz, 0, none⟩ = false := frozen_blk hb 0
  have y1 : w1.frozen? ⟨bz, 1, none⟩ = false := frozen_blk hb 1
  have HB2 := Lib.hid hb
  rw [← HBZ.out]
  have hfp : ∀ u, (Instr.field 66 (.agg #[.int .i64 X, .int .i64 Y, .int .i64 vx, .int .i64 vy, .int .i64 im]) 0).run Try.prog u = .ok (.agg #[.int .i64 X, .int .i64 Y]) u := fun _ => by kernel_rfl
  clear f1 hb hbz
  go_wp2_with fail
  obtain ⟨wf, hwf⟩ : ∃ wf, wf = (w1.setCell ⟨bz, 0, none⟩ (.int .i64 X)).setCell ⟨bz, 1, none⟩ (.int .i64 Y) := ⟨_, rfl⟩
  have hbf : wf.heap[bz]? = some (.cells #[.int .i64 X, .int .i64 Y] 29 (0, 0)) := by rw [hwf]; exact setCell_blk (setCell_blk HB2.out 0 _) 1 _
  have FF := Lib.hid (by rw [hwf]; exact (F1.out.setCell (p := ⟨bz, 0, none⟩) (.inr hwz) _).setCell (p := ⟨bz, 1, none⟩) (.inr hwz) _ : Fr [] w wf)
  have t0 : wf.cell? ⟨bz, 0, none⟩ = some (.int .i64 X) := cell_blk hbf 0
  have t1 : wf.cell? ⟨bz, 1, none⟩ = some (.int .i64 Y) := cell_blk hbf 1
  rw [← hwf]
  clear hwf hbf z0 z1 y0 y1
  refine bodyPost_ret (v := .agg #[.int .i64 X, .int .i64 Y]) (by simp [results, Try.results27, go_sem, t0, t1]) rfl ⟨rfl, FF.out⟩
end Go.Proofs.Ytdbngpncigjfiaa
/- Append of a slice that may be nil; more doors and more fog never hide a body. -/
namespace Go.Proofs.Ytdbngpncigjfiaa
open Go.RowKit

/-- nothing is appended -/
theorem run_append_zero {P : Program} (w : World) (t ty e : TypeId) (i : TypeInfo) (ht : P.underlying t = some (.slice e)) (hi : P.info? e = some i) (ao : Option Addr) (n cap c : Nat) (hn : n ≤ cap) :
    (Builtin.append_ #[t, t] ty #[.slice ao n cap, .slice none 0 c]).run P w = .ok (.slice ao n cap) w := by
  cases ao with
  | none => simp [Builtin.append_, run_underlying ht, sizeOf, typeInfo, hi, Builtin.lenOf, Builtin.firstCells, loadCells, loadCellsFrom, hn]
  | some a => simp [Builtin.append_, run_underlying ht, sizeOf, typeInfo, hi, Builtin.lenOf, Builtin.firstCells, loadCells, loadCellsFrom, hn, storeCells]

theorem wpList_append_segX {P : Program} {ops : Array Oper} {rest : List Oper} {o : Oper} {a : Act} {w : World} {Q : Exit → Act → World → Prop} (hgd : o.guard = none) (s x : Operand) (t : TypeId)
    (ho : o.op = .call { callee := .builtin .append, args := #[s, x], argTypes := #[t, t] })
    (e : TypeId) (i : TypeInfo) (z : Value) (size bytes : Nat) (ht : P.underlying t = some (.slice e)) (hi : P.info? e = some i) (hz : i.zero = some z)
    (hsize : i.size = size) (hby : i.bytes = bytes) (hzs : z.cells.size = size) (hsz : 0 < size)
    (ao : Option Addr) (n cap : Nat) (xs : List Value) (hs : a.eval s = .slice ao n cap) (hseg : Seg w e size ao n cap xs)
    (xo : Option Addr) (m c : Nat) (news : List Value) (hx : a.eval x = .slice xo m c) (hrd : Rd w size xo m news) (h1 : ∀ u ∈ news, u.oneCell' = true)
    (h63 : n + m ≤ maxLen) (hbytes : (n + m) * bytes ≤ 140737488355328)
    (h : ∀ ao' cap' w', Seg w' e size ao' (n + m) cap' (xs ++ news) → Fr (blk ao) w w' → Ext (blk ao) w (blk ao') → wpList P ops Q rest (a.put o.dst (.slice ao' (n + m) cap')) w') :
    wpList P ops Q (o :: rest) a w := by
  cases xo with
  | some ad =>
    refine wpList_append_seg hgd s x t ho e i z size bytes ht hi hz hsize hby hzs hsz ao n cap xs hs hseg ad m c news hx hrd.1 (fun j u hu => ?_) h1 h63 hbytes h
    have hm : 0 < m := by
      rcases Nat.eq_zero_or_pos m with h0 | h0
      · have := (List.getElem?_eq_some_iff.1 hu).1; rw [hrd.1, h0] at this; omega
      · exact h0
    exact hrd.news hm j u hu
  | none =>
    have hm : m = 0 := by
      rcases hrd.2.2 with h0 | ⟨g, off, hg, _⟩
      · exact h0
      · cases hg
    subst hm
    have hnw : news = [] := List.eq_nil_of_length_eq_zero (by rw [hrd.1]; omega)
    subst hnw
    have hr := run_append_zero (P := P) w t o.type e i ht hi ao n cap c hseg.2.2.1
    refine wpList_plain hgd fun K hK => ?_
    have hk := hK _ _ (h ao cap w (by rw [List.append_nil]; exact hseg) (Fr.refl _ _) (Ext.refl _ _))
    unfold Oper.wp execOp
    simp only [ho, resolve, invoke, builtin, Sem.run_bind, Sem.run_pure, Result.andThen_ok, List.map_toArray, List.map_cons, List.map_nil, hs, hx, hr]
    exact hk

theorem drCells_one (l : List (Int × Int)) : ∀ u ∈ l.flatMap drCells, u.oneCell' = true := by
  intro u hu
  simp only [List.mem_flatMap, drCells] at hu
  obtain ⟨d, -, hd⟩ := hu
  simp at hd
  rcases hd with rfl | rfl <;> rfl

theorem connB_mono {d d' : List (Int × Int)} (h : ∀ x ∈ d, x ∈ d') (a b : Int) (hc : connB d a b = true) : connB d' a b = true := by
  unfold connB at hc ⊢
  rw [Bool.or_eq_true] at hc ⊢
  rcases hc with h1 | h1
  · left
    rw [List.any_eq_true] at h1 ⊢
    obtain ⟨x, hx, hp⟩ := h1
    exact ⟨x, h x hx, hp⟩
  · exact .inr h1
theorem sees_mono {s s' : St} {rooms : List Bx} {d d' : List (Int × Int)} {cells : List Int} (hp : s'.players = s.players) (hn : s'.nb = s.nb) (hd : ∀ x ∈ d, x ∈ d') (hf0 : 0 ≤ s.fog) (hf : s.fog ≤ s'.fog) {p b : Int} (h : seesB s rooms d cells p b = true) : seesB s' rooms d' cells p b = true := by
  have ex : ∀ i, posX s' cells i = posX s cells i := fun i => by unfold posX; rw [hp]
  have ey : ∀ i, posY s' cells i = posY s cells i := fun i => by unfold posY; rw [hp]
  unfold seesB at h ⊢
  rw [hp, hn, ex, ey, ex, ey]
  split at h
  · cases h
  · rename_i h0
    rw [if_neg h0]
    split at h
    · rename_i h1; rw [if_pos h1]
    · rename_i h1
      rw [if_neg h1]
      unfold farB roomsSee at h ⊢
      simp only [Bool.and_eq_true, decide_eq_true_eq] at h ⊢
      refine ⟨⟨h.1.1, connB_mono hd _ _ h.1.2⟩, ?_⟩
      have h2 := h.2
      have h3 : (s.fog + 1) * (s.fog + 1) ≤ (s'.fog + 1) * (s'.fog + 1) := Int.mul_le_mul (by omega) (by omega) (by omega) (by omega)
      omega
theorem seenL_mono {s s' : St} {rooms : List Bx} {d d' : List (Int × Int)} {cells : List Int} (hp : s'.players = s.players) (hn : s'.nb = s.nb) (hd : ∀ x ∈ d, x ∈ d') (hf0 : 0 ≤ s.fog) (hf : s.fog ≤ s'.fog) {p : Int} {x : Int} (h : x ∈ seenL s rooms d cells p) : x ∈ seenL s' rooms d' cells p := by
  unfold seenL accL at h ⊢
  rw [hn]
  simp only [List.mem_map, List.mem_filter, List.mem_range] at h ⊢
  obtain ⟨j, ⟨h1, h2⟩, h3⟩ := h
  exact ⟨j, ⟨h1, sees_mono hp hn hd hf0 hf h2⟩, h3⟩

/-- every two rooms are joined -/
def AllIn (R : Nat) (d : List (Int × Int)) : Prop := ∀ a b : Nat, a < R → b < a → ((a : Int), (b : Int)) ∈ d
theorem AllIn.conn {R : Nat} {d : List (Int × Int)} (h : AllIn R d) {a b : Int} (ha0 : 0 ≤ a) (ha : a < (R : Int)) (hb0 : 0 ≤ b) (hb : b < (R : Int)) : connB d a b = true := by
  obtain ⟨x, rfl⟩ := Int.eq_ofNat_of_zero_le ha0
  obtain ⟨y, rfl⟩ := Int.eq_ofNat_of_zero_le hb0
  unfold connB
  rw [Bool.or_eq_true]
  rcases Nat.lt_trichotomy x y with h1 | h1 | h1
  · left
    rw [List.any_eq_true]
    exact ⟨_, h y x (by omega) h1, by simp [drHas]⟩
  · right; rw [h1]; simp
  · left
    rw [List.any_eq_true]
    exact ⟨_, h x y (by omega) h1, by simp [drHas]⟩
theorem all_sees {s : St} {rooms : List Bx} {d : List (Int × Int)} {cells : List Int} (pl : Nat) (hpl : s.players = (pl : Int)) (hall : AllIn rooms.length d) (hf : s.fog = 4194304) (p i : Nat) (hp : p < pl) (hi : i < s.nb) (hpn : pl ≤ s.nb)
    (hps : inC (posX s cells p) ∧ inC (posY s cells p)) (his : inC (posX s cells i) ∧ inC (posY s cells i)) {rp ri : Int} (hrp : rp = roomOf rooms (posX s cells p) (posY s cells p)) (hri : ri = roomOf rooms (posX s cells i) (posY s cells i)) :
    seesB s rooms d cells (p : Int) (i : Int) = (decide (i = p) || (decide (0 ≤ rp) && decide (0 ≤ ri))) := by
  unfold seesB
  rw [if_neg (show ¬ ((p : Int) < 0 ∨ s.players ≤ (p : Int) ∨ (i : Int) < 0 ∨ (s.nb : Int) ≤ (i : Int)) by omega)]
  by_cases e : i = p
  · rw [if_pos (by omega), decide_eq_true e]; rfl
  · rw [if_neg (by omega), decide_eq_false e, Bool.false_or]
    unfold farB roomsSee
    rw [← hrp, ← hri]
    have b1 := roomOf_lt rooms (posX s cells p) (posY s cells p)
    have b2 := roomOf_lt rooms (posX s cells i) (posY s cells i)
    rw [← hrp] at b1
    rw [← hri] at b2
    have hd : decide ((posX s cells i - posX s cells p) * (posX s cells i - posX s cells p) + (posY s cells i - posY s cells p) * (posY s cells i - posY s cells p) < (s.fog + 1) * (s.fog + 1)) = true := by
      have h1 := (sq_bound (dd_bound his.1 hps.1)).2
      have h2 := (sq_bound (dd_bound his.2 hps.2)).2
      rw [hf]
      exact decide_eq_true (by omega)
    rw [hd, Bool.and_true]
    by_cases h1 : 0 ≤ rp
    · by_cases h2 : 0 ≤ ri
      · rw [hall.conn h1 b1.2 h2 b2.2, Bool.and_true]
      · rw [decide_eq_false h2]; simp
    · rw [decide_eq_false h1]; simp
theorem VPre.turn {w : World} {s s' : St} {bodies : List Bd} {rooms : List Bx} {doors doors' : List (Int × Int)} {co : Option Addr} {cc : Nat} {cells : List Int} (h : VPre w s bodies rooms doors co cc cells)
    (hs : s' = { s with dO := s'.dO, dn := s'.dn, dc := s'.dc, fog := s'.fog }) (hd : s'.dn = doors'.length) (hr : Rd w 2 s'.dO doors'.length (doors'.flatMap drCells)) (hfew : ∀ d ∈ doors', (0 ≤ d.1 ∧ d.1 < 8) ∧ (0 ≤ d.2 ∧ d.2 < 8)) (hf0 : 0 ≤ s'.fog) (hf1 : s'.fog ≤ 4194304) :
    VPre w s' bodies rooms doors' co cc cells := by
  have e1 : s'.players = s.players := by rw [hs]
  have e2 : s'.nb = s.nb := by rw [hs]
  have ex : ∀ i, posX s' cells i = posX s cells i := fun i => by unfold posX; rw [e1]
  have ey : ∀ i, posY s' cells i = posY s cells i := fun i => by unfold posY; rw [e1]
  refine ⟨⟨?_, by rw [e1]; exact h.mp.p0, ⟨by rw [e2]; exact h.mp.bd.nb, by rw [hs]; exact h.mp.bd.rd⟩, h.mp.rd, h.mp.fit, h.mp.cap⟩, ⟨by rw [hs]; exact h.map.rn, hd, by rw [hs]; exact h.map.rr, hr⟩, ⟨h.few.1, hfew⟩, by rw [e1, e2]; exact h.pn, by rw [e1, e2]; exact h.len, fun i h0 h1 => ?_, hf0, hf1⟩
  · have := h.mp.ok
    exact ⟨by rw [e1]; exact this.p0, by rw [e1]; exact this.p1, by rw [e2]; exact this.b1, by rw [e1]; exact this.p2⟩
  · rw [ex, ey]; exact h.pos i h0 (by rw [← e2]; exact h1)
end Go.Proofs.Ytdbngpncigjfiaa
/- VisibilityMonotone returns true (written by genlaw27.py). -/
namespace Go.Proofs.Ytdbngpncigjfiaa
open Go.RowKit

/-- the loop that makes all doors -/
def AInv (wc : World) (b3 : Nat) (sa : St) (R a b : Nat) (wr : World) : Prop :=
  ∃ (d : List (Int × Int)) (dO : Option Addr) (dn dc : Nat), d.length = dn ∧ dn ≤ 8 * a + b ∧ wr.heap[b3]? = some (.cells (stCells (sd sa dO dn dc)) 31 (0, 0)) ∧ Fr [b3] wc wr ∧ Seg wr 50 2 dO dn dc (d.flatMap drCells) ∧ (∀ k ∈ blk dO, wc.heap.size ≤ k) ∧
    (∀ x ∈ d, doorOk R x) ∧ (∀ x y : Nat, x < a → y < x → ((x : Int), (y : Int)) ∈ d) ∧ ∀ y : Nat, y < b → ((a : Int), (y : Int)) ∈ d
theorem AInv.next {wc : World} {b3 : Nat} {sa : St} {R a : Nat} {wr : World} (h : AInv wc b3 sa R a a wr) (ha : a ≤ 8) : AInv wc b3 sa R (a + 1) 0 wr := by
  obtain ⟨d, dO, dn, dc, h1, h2, h3, h4, h5, h6, h7, h8, h9⟩ := h
  refine ⟨d, dO, dn, dc, h1, by omega, h3, h4, h5, h6, h7, fun x y hx hy => ?_, fun y hy => by omega⟩
  by_cases e : x = a
  · subst e; exact h9 y hy
  · exact h8 x y (by omega) hy
theorem sd_self (s : St) : sd s s.dO s.dn s.dc = s := rfl
theorem Seg.rdX {w : World} {e : TypeId} {size : Nat} {ao : Option Addr} {n cap : Nat} {xs : List Value} (h : Seg w e size ao n cap xs) : Rd w size ao n xs := h.rd

set_option maxRecDepth 100000 in
set_option maxHeartbeats 32000000 in
theorem vmono_walk (w : World) (lo : Option Addr) (lc : Nat) (l : List Int) (hl : Srci w lo lc l) (mo : Option Addr) (mc : Nat) (m : List Int) (hm : Srci w mo mc m) (ao : Option Addr) (ac : Nat) (a : List Int) (hat : Srci w ao ac a) (from' to' fog : Int) (hfr : bounded from') (hto : bounded to') (hfo : bounded fog) :
    Calls Try.prog 7 #[.slice lo l.length lc, .slice mo m.length mc, .slice ao a.length ac, .int .i64 from', .int .i64 to', .int .i64 fog] w fun e w' => e = .returned (.bool true) ∧ Fr [] w w' := by
  obtain ⟨id, hid, hdz0, hdz1, hdz2⟩ := info_parts infoDoorZ
  have HSU := Lib.hid (set27_any w lo lc l hl.rd hl.bnd mo mc m hm.rd hm.bnd)
  have HAT := Lib.hid hat
  clear hl hm hat
  obtain ⟨f, hf1, -, hAF⟩ := around_nat fog 100000 hfo (by omega) (by omega)
  have HAF := Lib.hid hAF
  clear hAF hfo
  go_enter Try.func7, Try.ntmps7
  go_wp2_with fail
  refine HSU.out.mono ?_
  rintro e w1 ⟨s, bodies, rooms, doors, rfl, hs⟩
  have HS := Lib.hid hs
  have F1 := Lib.hid hs.fr
  have hr5 := hs.r5
  obtain ⟨C, hC⟩ := cAt s
  have HCS := Lib.hid hC.size
  have HV := Lib.hid hC.val
  have HC := Lib.hid hC
  have hCl : (Try.prog.info? 31).map (·.size) = some C.toList.length := by rw [Array.length_toList, hC.size]; exact infoSetup
  have HO := Lib.hid (by have h := hC.val; unfold St.val at h; injection h with h; rw [← h]; simp [Value.oneCell'] : C.all (·.oneCell') = true)
  obtain ⟨b1, hb1⟩ : ∃ b1, b1 = w1.heap.size := ⟨_, rfl⟩
  have HB1 := Lib.hid hb1
  rw [HV.out]
  have HCL0 := Lib.hid hCl
  clear hs hb1 hC HSU hCl
  go_upto_region 2 with (refine wpList_storeB rfl 31 (Operand.tmp 13) (Operand.tmp 30) rfl w1.heap.size 16 C rfl rfl _ 31 (by exact alloc_new _ _) rfl HCS.out infoSetup HO.out ?_; intro w2 hb2 hf2; have F2 := Lib.hid (((Fr.refl [] w1).alloc _).trans hf2 (fun k hk => .inr (by simp at hk; omega))); have B2 := Lib.hid (by rw [HB1.out]; exact hb2 : w2.heap[b1]? = some (.cells C 31 (0, 0))); clear hb2 hf2)
  rw [← HB1.out]
  obtain ⟨pl, hpl⟩ : ∃ pl : Nat, s.players = (pl : Int) := ⟨s.players.toNat, by have := HS.out.pl; omega⟩
  have hpl3 : 1 ≤ pl ∧ pl ≤ 3 := by have := HS.out.pl; omega
  have hpn : pl ≤ bodies.length := by have := HS.out.pn; omega
  have hb5 := HS.out.b5
  have HPL := Lib.hid hpl
  obtain ⟨nb, hnb⟩ : ∃ nb, nb = bodies.length := ⟨_, rfl⟩
  have HNB := Lib.hid hnb
  have HSN := Lib.hid (HS.out.nb.trans hnb.symm)
  obtain ⟨n, hn⟩ : ∃ n, n = 48 + 4 * pl + 8 * bodies.length := ⟨_, rfl⟩
  have HN := Lib.hid hn
  have HCE := Lib.hid (fun u (hu : Fr [] w1 u) => (by
    rw [← HV.out]
    exact cells27_any u s bodies HS.out.ok pl hpl hpl3.2 (HS.out.bd hu) hb5 HS.out.good ao ac a ((HAT.out.old F1.out).old hu).rd HAT.out.bnd n hn : Calls Try.prog 18 #[.agg C, .slice ao a.length ac] u (Cells27To u pl bodies.length n)))
  rw [← hnb] at hpn hb5
  clear hpl hn hnb
  go_wp2_with (refine wpList_loadB rfl 31 (Operand.tmp 13) rfl b1 16 rfl C 31 (0, 0) B2.out _ Try.underlying31 rfl HCS.out infoSetup ?_)
  refine (HCE.out w2 F2.out).mono ?_
  rintro e w5 ⟨bc, cells, rfl, hcl, hrow, hbc, f5, hsm, hpo⟩
  have HCL := Lib.hid hcl
  have HROW := Lib.hid hrow
  have F5 := Lib.hid (F2.out.trans f5 (by simp [Ext]))
  have B5 := Lib.hid (f5.blk B2.out (by simp))
  have HSM := Lib.hid hsm
  have HPO := Lib.hid hpo
  have hb1c : b1 < bc := by have := lt_of_blk B2.out; omega
  have VP := Lib.hid (fun u (hu : Fr [] w5 u) => HS.out.vpre (F5.out.trans hu (by simp [Ext])) HPL.out HN.out (hu.blk HROW.out (by simp)) HCL.out HPO.out)
  have KEEP := Lib.hid (fun u (hu : Fr [] w5 u) => (hu.blk B5.out (by simp) : u.heap[b1]? = some (.cells C 31 (0, 0))))
  clear hcl hrow hsm hpo f5 HCE hbc
  have QSeen := Lib.hid (fun u (hu : Fr [] w5 u) (k : Int) => (by have h := seen_any (VP.out u hu) k; rw [HV.out, HCL.out] at h; exact h : Calls Try.prog 19 #[.agg C, .slice (some ⟨bc, 0, none⟩) n n, .int .i64 k] u (IntsTo u (seenL s rooms doors cells k))))
  have QHas := Lib.hid (fun (u : World) (ao : Option Addr) (ac : Nat) (L : List Int) (x : Int) (hs : Seg u 3 1 ao L.length ac (ints L)) (hx : x ∈ L) => (by have h := hasn_any u ao ac L x hs.rd; rw [decide_eq_true hx] at h; exact h : Calls Try.prog 23 #[.slice ao L.length ac, .int .i64 x] u fun e w' => e = .returned (.bool true) ∧ u = w'))
  have K0 := Lib.hid (fun u (hu : Fr [] w5 u) => (by have h := cell_blk (KEEP.out u hu) 0; rw [h, HC.out.c0, HPL.out] : u.cell? ⟨b1, 0, none⟩ = some (.int .i64 (pl : Int))))
  have K1 := Lib.hid (fun u (hu : Fr [] w5 u) => (by have h := cell_blk (KEEP.out u hu) 1; rw [h, HC.out.c1, HSN.out] : u.cell? ⟨b1, 1, none⟩ = some (.slice s.bo nb s.bc)))
  have hCs := (by have h := HV.out; unfold St.val at h; injection h with h; exact h.symm : C = stCells s)
  have HCE := Lib.hid hCs
  have hfg := HS.out.fog
  obtain ⟨fg, hfge⟩ : ∃ fg, s.fog = fg := ⟨_, rfl⟩
  have HFG := Lib.hid hfge
  rw [hfge] at hfg
  obtain ⟨hfg0, hfg1⟩ := hfg
  obtain ⟨G, hG⟩ : ∃ G : Int, min (4194304 : Int) (fg + (f : Int)) = G := ⟨_, rfl⟩
  have hG0 : fg ≤ G ∧ G ≤ 4194304 := by omega
  obtain ⟨b2, hb2⟩ : ∃ b2, b2 = w5.heap.size := ⟨_, rfl⟩
  have HB2 := Lib.hid hb2
  clear hCs hfge hb2
  go_upto_region 4 with (first | (refine wpList_loadB rfl 31 (Operand.tmp 13) rfl b1 16 rfl C 31 (0, 0) B5.out _ Try.underlying31 rfl HCS.out infoSetup ?_) | (refine wpList_storeB rfl 31 (Operand.tmp 15) (Operand.tmp 34) rfl w5.heap.size 16 C rfl rfl _ 31 (by exact alloc_new _ _) rfl HCS.out infoSetup HO.out ?_; intro w6 hb6 hf6; have F6 := Lib.hid (((Fr.refl [] w5).alloc _).trans hf6 (fun k hk => .inr (by simp at hk; omega))); have B6 := Lib.hid (by rw [HB2.out]; exact hb6 : w6.heap[b2]? = some (.cells C 31 (0, 0))); clear hb6 hf6))
  rw [← HB2.out]
  have x8 : w6.cell? ⟨b1, 8, none⟩ = some (.int .i64 fg) := (cell_blk (KEEP.out w6 F6.out) 8).trans (by rw [HC.out.c8, HFG.out])
  have z8 : w6.cell? ⟨b2, 8, none⟩ = some (.int .i64 fg) := (cell_blk B6.out 8).trans (by rw [HC.out.c8, HFG.out])
  have y8 : w6.frozen? ⟨b2, 8, none⟩ = false := frozen_blk B6.out 8
  have hmw : IntKind.i64.wrap (fg + (f : Int)) = fg + (f : Int) := IntWalk.i64_in _ (by omega)
  have hb12 : b1 < w5.heap.size := lt_of_blk B5.out
  have KX := Lib.hid (fun v => (by rw [World.cell?_of_block (a := ⟨b1, 8, none⟩) (setCell_ne (a := ⟨b2, 8, none⟩) (v := v) (w := w6.drew) (by simp only; rw [HB2.out]; omega))]; exact x8 : (w6.drew.setCell ⟨b2, 8, none⟩ v).cell? ⟨b1, 8, none⟩ = some (.int .i64 fg)))
  go_region_held3 (fun u => u.cell? ⟨b1, 8, none⟩ = some (.int .i64 fg)) (first | exact x8 | exact KX.out _) (first | (go_at_call 24; refine (HAF.out _).mono ?_; rintro e wx ⟨rfl, rfl⟩))
  obtain ⟨w7, hw7⟩ : ∃ w7, w7 = (w6.setCell ⟨b2, 8, none⟩ (.int .i64 G)).drew := ⟨_, rfl⟩
  have B7 := Lib.hid (by
    rw [hw7]
    refine Eq.trans (show _ = (w6.setCell ⟨b2, 8, none⟩ (.int .i64 G)).heap[b2]? from rfl) ?_
    rw [setCell_blk B6.out 8 _, HCE.out]; rfl : w7.heap[b2]? = some (.cells (stCells { s with fog := G }) 31 (0, 0)))
  have F7 := Lib.hid (by rw [hw7]; exact (F6.out.setCell (p := ⟨b2, 8, none⟩) (.inr (by rw [HB2.out]; exact Nat.le_refl _)) _).drew : Fr [] w5 w7)
  rw [← hw7]
  clear hw7 x8 z8 y8 hmw hG KX
  have c6 : w7.cell? ⟨b1, 6, none⟩ = some (.slice s.ro rooms.length s.rc) := (cell_blk (KEEP.out w7 F7.out) 6).trans (by rw [HC.out.c6, HS.out.map.rn])
  go_upto_region 6 with fail
  clear c6
  go_upto_if 46 with fail
  go_cut [] (fun wc => ∃ (d' : List (Int × Int)) (dO' : Option Addr) (dn' dc' : Nat), d'.length = dn' ∧ wc.heap[b2]? = some (.cells (stCells (sd { s with fog := G } dO' dn' dc')) 31 (0, 0)) ∧ Rd wc 2 dO' dn' (d'.flatMap drCells) ∧ (∀ x ∈ doors, x ∈ d') ∧ (∀ x ∈ d', doorOk rooms.length x) ∧ Fr [] w5 wc)
  case first =>
    by_cases hR : 1 < rooms.length
    · have hRi : (1 : Int) < (rooms.length : Int) := by omega
      have hR5 : rooms.length ≤ 5 := by omega
      obtain ⟨p, hp1, -, hAP⟩ := around_nat from' rooms.length hfr (by omega) (by omega)
      obtain ⟨q, hq1, -, hAQ⟩ := around_nat to' (rooms.length - 1) hto (by omega) (by omega)
      have HAP := Lib.hid hAP
      have HAQ := Lib.hid (fun u => (by have h := hAQ u; rw [show (((rooms.length - 1 : Nat) : Nat) : Int) = (rooms.length : Int) - 1 by omega] at h; exact h : Calls Try.prog 24 #[.int .i64 to', .int .i64 ((rooms.length : Int) - 1)] u fun e w' => e = .returned (.int .i64 (q : Int)) ∧ u = w'))
      obtain ⟨z, hz⟩ : ∃ z : Nat, (p + 1 + q) % rooms.length = z := ⟨_, rfl⟩
      have hzR : z < rooms.length := by rw [← hz]; exact Nat.mod_lt _ (by omega)
      have hzi : ((p : Int) + 1 + (q : Int)) % (rooms.length : Int) = (z : Int) := by rw [← hz, show (p : Int) + 1 + (q : Int) = ((p + 1 + q : Nat) : Int) by omega]; exact (Int.natCast_emod _ _).symm
      have HPZ := Lib.hid (⟨hp1, hzR⟩ : p < rooms.length ∧ z < rooms.length)
      have hpi : (p : Int) < 5 := by omega
      have hqi : (q : Int) < 5 := by omega
      obtain ⟨dn, hdn⟩ : ∃ dn, dn = doors.length := ⟨_, rfl⟩
      have HDN := Lib.hid hdn
      have hd5 : dn ≤ 5 := by rw [hdn]; exact HS.out.d5
      have e7 : ∀ o, (w7.alloc o).cell? ⟨b1, 7, none⟩ = some (.slice s.dO dn s.dc) := fun o => (cell_blk (KEEP.out _ (F7.out.alloc o)) 7).trans (by rw [HC.out.c7, HS.out.map.dn, hdn])
      have HDR := Lib.hid (fun u (hu : Fr [] w5 u) => (by rw [hdn]; exact (HS.out.mapu (F5.out.trans hu (by simp [Ext]))).dr : Rd u 2 s.dO dn (doors.flatMap drCells)))
      have HE0 := Lib.hid (Seg.one (w := w7.alloc (.cells #[] 50)) w7.heap.size _ 50 2 0 (alloc_new w7 _) rfl (by simp))
      clear hAP hAQ hz hdn hR hp1 hq1 hzR
      go_wp2_with fail
      refine (HAP.out _).mono ?_
      rintro e wx ⟨rfl, hwx⟩
      rw [← hwx]
      clear hwx
      go_wp2_with (at_builtin; refine wpList_append_segX rfl _ _ 27 rfl 50 id _ 2 16 Try.underlying27 hid hdz0 hdz1 hdz2 rfl (by decide) (some ⟨w7.heap.size, 0, none⟩) 0 0 [] rfl HE0.out s.dO dn s.dc (doors.flatMap drCells) rfl (HDR.out _ (by exact F7.out.alloc _)) (drCells_one _) (by unfold maxLen; omega) (by omega) ?_; intro ao1 cap1 w8 hs8 hf8 hx8; have HS8 := Lib.hid hs8; have HF8 := Lib.hid hf8; have HX8 := Lib.hid hx8; clear hs8 hf8 hx8)
      refine (HAQ.out _).mono ?_
      rintro e wx ⟨rfl, hwx⟩
      rw [← hwx]
      clear hwx
      have hs8 : Seg w8 50 2 ao1 dn cap1 (doors.flatMap drCells) := by have h := HS8.out; rw [List.nil_append] at h; exact (Nat.zero_add dn) ▸ h
      have HS8' := Lib.hid hs8
      have HN8 := Lib.hid (fun k (hk : k ∈ blk ao1) => (by
        rcases HX8.out k hk with h | h
        · simp [blk] at h; omega
        · simp at h; omega : w7.heap.size ≤ k))
      have F8 := Lib.hid ((F7.out.trans (((Fr.refl [] w7).alloc _).trans HF8.out (fun k hk => .inr (by simp [blk] at hk; omega))) (by simp [Ext])) : Fr [] w5 w8)
      have F78 := Lib.hid (((Fr.refl [] w7).alloc _).trans HF8.out (fun k hk => .inr (by simp [blk] at hk; omega)) : Fr [] w7 w8)
      have HSA8 := Lib.hid (fun o => hs8.alloc o)
      have B8 := Lib.hid (F78.out.blk B7.out (by simp))
      have hb27 : b2 < w7.heap.size := lt_of_blk B7.out
      clear hs8 e7 HF8 HX8 HE0 HS8
      simp only [Nat.zero_add]
      go_wp2_with (at_builtin; refine wpList_append_seg rfl _ _ 27 rfl 50 id _ 2 16 Try.underlying27 hid hdz0 hdz1 hdz2 rfl (by decide) ao1 dn cap1 (doors.flatMap drCells) rfl (HSA8.out _) ⟨_, 0, none⟩ 1 1 [.int .i64 (p : Int), .int .i64 (z : Int)] rfl rfl (fun j u hu => by rw [Addr.add_mid, Nat.zero_add, World.cell?_alloc_new]; simpa using hu) (by simp [Value.oneCell']) (by unfold maxLen; omega) (by omega) ?_; intro ao9 cap9 w9 hs9 hf9 hx9; have HS9 := Lib.hid hs9; have hff := ((Fr.refl (blk ao1) w8).alloc _).trans hf9 (Ext.refl _ _); have HX9 := Lib.hid hx9; have h9b := hff.blk B8.out (fun h => by have := HN8.out _ h; omega); have q7 : w9.cell? ⟨b2, 7, none⟩ = some (.slice s.dO s.dn s.dc) := cell_blk h9b 7; have y7 : w9.frozen? ⟨b2, 7, none⟩ = false := frozen_blk h9b 7; have HF9 := Lib.hid hff; have B9 := Lib.hid h9b; clear hs9 hf9 hx9 hff h9b)
      go_meet
      have hN9 : b2 ∉ blk ao9 := fun hm => by
        rcases HX9.out _ hm with h | h
        · have := HN8.out _ h; omega
        · have := F78.out.size; simp at h; omega
      refine ⟨doors ++ [((p : Int), (z : Int))], ao9, dn + 1, cap9, by rw [List.length_append, ← HDN.out]; rfl, setCell_blk B9.out 7 _, ?_, fun x hx => List.mem_append.2 (.inl hx), fun x hx => ?_, ?_⟩
      · have h := HS9.out.setCell_other (p := ⟨b2, 7, none⟩) (v := .slice ao9 (dn + 1) cap9) hN9
        rw [List.flatMap_append]
        exact Seg.rd (by simpa [drCells] using h)
      · rcases List.mem_append.1 hx with h | h
        · exact HS.out.dok x h
        · simp at h; subst h
          have := HPZ.out
          exact ⟨⟨by simp only; omega, by simp only; omega⟩, by simp only; omega, by simp only; omega⟩
      · exact (F8.out.trans HF9.out (fun k hk => .inr (by have := HN8.out k hk; have := F7.out.size; omega))).setCell (p := ⟨b2, 7, none⟩) (.inr (by rw [HB2.out]; exact Nat.le_refl _)) _
    · have hRi : (rooms.length : Int) ≤ 1 := by omega
      clear hR
      go_wp2_with fail
      go_meet
      exact ⟨doors, s.dO, s.dn, s.dc, HS.out.map.dn.symm, B7.out, by rw [HS.out.map.dn]; exact (HS.out.mapu (F5.out.trans F7.out (by simp [Ext]))).dr, fun x hx => hx, HS.out.dok, F7.out⟩
  case rest =>
    obtain ⟨d2, dO2, dn2, dc2, hd2, hb2, hr2, hin2, hok2, hf2⟩ := hcut
    have B2m := Lib.hid hb2
    have HR2 := Lib.hid hr2
    have HD2 := Lib.hid hd2
    have HIN2 := Lib.hid hin2
    have HOK2 := Lib.hid hok2
    have HW := Lib.hid hf2
    have HBW := Lib.hid (KEEP.out wc hf2)
    obtain ⟨b3, hb3⟩ : ∃ b3, b3 = wc.heap.size := ⟨_, rfl⟩
    have HB3 := Lib.hid hb3
    clear hb2 hr2 hd2 hin2 hok2 hf2 hb3
    go_upto_region 10 with (first | (refine wpList_loadB rfl 31 (Operand.tmp 13) rfl b1 16 rfl C 31 (0, 0) HBW.out _ Try.underlying31 rfl HCS.out infoSetup ?_) | (refine wpList_storeB rfl 31 (Operand.tmp 18) (Operand.tmp 68) rfl wc.heap.size 16 C rfl rfl _ 31 (by exact alloc_new _ _) rfl HCS.out infoSetup HO.out ?_; intro wa hba hfa; have Fa := Lib.hid (((Fr.refl [] wc).alloc _).trans hfa (fun k hk => .inr (by simp at hk; omega))); have Ba := Lib.hid (by rw [HB3.out]; exact hba : wa.heap[b3]? = some (.cells C 31 (0, 0))); clear hba hfa))
    rw [← HB3.out]
    have q8 : wa.cell? ⟨b3, 8, none⟩ = some (.int .i64 s.fog) := (cell_blk Ba.out 8).trans HC.out.c8
    have y8 : wa.frozen? ⟨b3, 8, none⟩ = false := frozen_blk Ba.out 8
    have q7 : wa.cell? ⟨b3, 7, none⟩ = some (.slice s.dO s.dn s.dc) := (cell_blk Ba.out 7).trans HC.out.c7
    have y7 : wa.frozen? ⟨b3, 7, none⟩ = false := frozen_blk Ba.out 7
    go_upto_region 12 with fail
    obtain ⟨wz, hwz⟩ : ∃ wz, wz = (wa.setCell ⟨b3, 8, none⟩ (.int .i64 4194304)).setCell ⟨b3, 7, none⟩ (.slice none 0 0) := ⟨_, rfl⟩
    obtain ⟨sa, hsa⟩ : ∃ sa : St, sa = sd { s with fog := 4194304 } none 0 0 := ⟨_, rfl⟩
    have Bz := Lib.hid (by rw [hwz, setCell_blk (setCell_blk Ba.out 8 _) 7 _, HCE.out, hsa]; rfl : wz.heap[b3]? = some (.cells (stCells (sd sa none 0 0)) 31 (0, 0)))
    have Fz := Lib.hid (by rw [hwz]; exact (Fa.out.setCell (p := ⟨b3, 8, none⟩) (.inr (by rw [HB3.out]; exact Nat.le_refl _)) _).setCell (p := ⟨b3, 7, none⟩) (.inr (by rw [HB3.out]; exact Nat.le_refl _)) _ : Fr [] wc wz)
    have HSA := Lib.hid hsa
    have hb3z : b3 < wz.heap.size := lt_of_blk Bz.out
    have hb3c : wc.heap.size ≤ b3 := by rw [HB3.out]; exact Nat.le_refl _
    rw [← hwz]
    clear hwz hsa q8 y8 q7 y7
    go_wp2_with fail
    go_loopw [19] (fun iv wr => ∃ A : Nat, A ≤ rooms.length ∧ iv = .int .i64 (A : Int) ∧ AInv wz b3 sa rooms.length A 0 wr) (fun iv _ => rooms.length - (intOf iv).toNat)
    case atStart => exact ⟨0, by omega, rfl, [], none, 0, 0, rfl, by omega, Bz.out, Fr.refl _ _, by simpa using Seg.nil wz _ 2, by simp [blk], by simp, fun x y hx _ => by omega, fun y hy => by omega⟩
    case round =>
      obtain ⟨A, hA, rfl, hinv⟩ := hrel
      have HI := Lib.hid hinv
      clear hinv
      by_cases hAl : A < rooms.length
      · have hAli : (A : Int) < (rooms.length : Int) := by omega
        go_wp2_with fail
        obtain ⟨wo, rfl⟩ : ∃ wo : World, wo = wr := ⟨_, rfl⟩
        go_loopw [20] (fun iv wr => ∃ B : Nat, B ≤ A ∧ iv = .int .i64 (B : Int) ∧ AInv wz b3 sa rooms.length A B wr) (fun iv _ => A - (intOf iv).toNat)
        case atStart => exact ⟨0, by omega, rfl, HI.out⟩
        case round =>
          obtain ⟨B, hB, rfl, hinv⟩ := hrel
          by_cases hBA : B < A
          · have hBAi : (B : Int) < (A : Int) := by omega
            obtain ⟨d, dO, dn, dc, h1, h2, h3, h4, h5, h6, h7, h8, h9⟩ := hinv
            have H1 := Lib.hid h1
            have H3 := Lib.hid h3
            have H4 := Lib.hid h4
            have H6 := Lib.hid h6
            have H7 := Lib.hid h7
            have H8 := Lib.hid h8
            have H9 := Lib.hid h9
            have HSG := Lib.hid (fun o => h5.alloc o)
            have q7 : wr.cell? ⟨b3, 7, none⟩ = some (.slice dO dn dc) := cell_blk h3 7
            have HNB3 := Lib.hid (fun h => by have := h6 b3 h; omega : b3 ∉ blk dO)
            clear h1 h3 h4 h5 h6 h7 h8 h9
            go_wp2_with (at_builtin; refine wpList_append_seg rfl _ _ 27 rfl 50 id _ 2 16 Try.underlying27 hid hdz0 hdz1 hdz2 rfl (by decide) dO dn dc (d.flatMap drCells) rfl (HSG.out _) ⟨_, 0, none⟩ 1 1 [.int .i64 (A : Int), .int .i64 (B : Int)] rfl rfl (fun j u hu => by rw [Addr.add_mid, Nat.zero_add, World.cell?_alloc_new]; simpa using hu) (by simp [Value.oneCell']) (by unfold maxLen; omega) (by omega) ?_; intro ao9 cap9 w9 hs9 hf9 hx9; have HS9 := Lib.hid hs9; have hff := ((Fr.refl (blk dO) wr).alloc _).trans hf9 (Ext.refl _ _); have HX9 := Lib.hid hx9; have h9b := hff.blk H3.out HNB3.out; have q9 : w9.cell? ⟨b3, 7, none⟩ = some (.slice dO dn dc) := cell_blk h9b 7; have y9 : w9.frozen? ⟨b3, 7, none⟩ = false := frozen_blk h9b 7; have HF9 := Lib.hid hff; have B9 := Lib.hid h9b; clear hs9 hf9 hx9 hff h9b)
            go_roundw
            case rel =>
              have hsz := H4.out.size
              have hN9 : b3 ∉ blk ao9 := fun hm => by
                rcases HX9.out _ hm with h | h
                · exact HNB3.out h
                · simp at h; omega
              refine ⟨B + 1, by omega, by go_num, d ++ [((A : Int), (B : Int))], ao9, dn + 1, cap9, by rw [List.length_append, H1.out]; rfl, by omega, setCell_blk B9.out 7 _, ?_, ?_, ?_, ?_, ?_, ?_⟩
              · exact (H4.out.trans HF9.out (fun k hk => .inr (by have := H6.out k hk; omega))).setCell (p := ⟨b3, 7, none⟩) (.inl (by simp)) _
              · rw [List.flatMap_append]
                have h := HS9.out.setCell_other (p := ⟨b3, 7, none⟩) (v := .slice ao9 (dn + 1) cap9) hN9
                simpa [drCells] using h
              · intro k hk
                rcases HX9.out k hk with h | h
                · exact H6.out k h
                · simp at h; omega
              · intro x hx
                rcases List.mem_append.1 hx with h | h
                · exact H7.out x h
                · simp at h; subst h
                  exact ⟨⟨by simp only; omega, by simp only; omega⟩, by simp only; omega, by simp only; omega⟩
              · intro x y hx hy
                exact List.mem_append.2 (.inl (H8.out x y hx hy))
              · intro y hy
                by_cases e : y = B
                · subst e; exact List.mem_append.2 (.inr (by simp))
                · exact List.mem_append.2 (.inl (H9.out y (by omega)))
            case measure => simp [intOf]; omega
          · have hBE : B = A := by omega
            have HI2 := Lib.hid (by rw [hBE] at hinv; exact hinv.next (by omega))
            clear hinv hBE
            go_wp2_with fail
            go_roundw
            case rel => exact ⟨A + 1, by omega, by go_num, HI2.out⟩
            case measure => simp [intOf]; omega
      · have hAE : A = rooms.length := by omega
        obtain ⟨d3, dO3, dn3, dc3, h1, -, h3, h4, h5, h6, h7, h8, -⟩ := HI.out
        obtain ⟨s2, hs2⟩ : ∃ s2, s2 = sd { s with fog := G } dO2 dn2 dc2 := ⟨_, rfl⟩
        obtain ⟨s3, hs3⟩ : ∃ s3, s3 = sd sa dO3 dn3 dc3 := ⟨_, rfl⟩
        obtain ⟨C2, hC2⟩ : ∃ C2, C2 = stCells s2 := ⟨_, rfl⟩
        obtain ⟨C3, hC3⟩ : ∃ C3, C3 = stCells s3 := ⟨_, rfl⟩
        have HV2 := Lib.hid (by rw [hC2]; rfl : s2.val = .agg C2)
        have HV3 := Lib.hid (by rw [hC3]; rfl : s3.val = .agg C3)
        have HCS2 := Lib.hid (by rw [hC2]; rfl : C2.size = 16)
        have HCS3 := Lib.hid (by rw [hC3]; rfl : C3.size = 16)
        have HCL3 := Lib.hid (by rw [Array.length_toList, HCS3.out]; exact infoSetup : (Try.prog.info? 31).map (·.size) = some C3.toList.length)
        have FWR := Lib.hid (Fz.out.trans h4 (fun k hk => .inr (by simp at hk; omega)) : Fr [] wc wr)
        have F5R := Lib.hid (HW.out.trans FWR.out (by simp [Ext]) : Fr [] w5 wr)
        have KEEP2 := Lib.hid (fun u (hu : Fr [] wr u) => (by rw [hC2, hs2]; exact (FWR.out.trans hu (by simp [Ext])).blk B2m.out (by simp) : u.heap[b2]? = some (.cells C2 31 (0, 0))))
        have KEEP3 := Lib.hid (fun u (hu : Fr [] wr u) => (by rw [hC3, hs3]; exact hu.blk h3 (by simp) : u.heap[b3]? = some (.cells C3 31 (0, 0))))
        have hr8 : rooms.length ≤ 8 := by omega
        have VP2 := Lib.hid (fun u (hu : Fr [] wr u) => (by
          refine (VP.out u (F5R.out.trans hu (by simp [Ext]))).turn (s' := s2) (doors' := d2) (by rw [hs2]; rfl) (by rw [hs2]; exact HD2.out.symm) ?_ (fun x hx => ?_) (by rw [hs2]; show 0 ≤ G; omega) (by rw [hs2]; exact hG0.2)
          · rw [hs2, HD2.out]; exact HR2.out.fr (FWR.out.trans hu (by simp [Ext])) (by simp)
          · have := HOK2.out x hx; unfold doorOk at this; omega : VPre u s2 bodies rooms d2 (some ⟨bc, 0, none⟩) n cells))
        have VP3 := Lib.hid (fun u (hu : Fr [] wr u) => (by
          refine (VP.out u (F5R.out.trans hu (by simp [Ext]))).turn (s' := s3) (doors' := d3) (by rw [hs3, HSA.out]; rfl) (by rw [hs3]; exact h1.symm) ?_ (fun x hx => ?_) (by rw [hs3, HSA.out]; show (0 : Int) ≤ 4194304; omega) (by rw [hs3, HSA.out]; exact Int.le_refl _)
          · rw [hs3, h1]; exact h5.rd.fr hu (by simp)
          · have := h7 x hx; unfold doorOk at this; omega : VPre u s3 bodies rooms d3 (some ⟨bc, 0, none⟩) n cells))
        have QSeen2 := Lib.hid (fun u (hu : Fr [] wr u) (k : Int) => (by have h := seen_any (VP2.out u hu) k; rw [HV2.out, HCL.out] at h; exact h : Calls Try.prog 19 #[.agg C2, .slice (some ⟨bc, 0, none⟩) n n, .int .i64 k] u (IntsTo u (seenL s2 rooms d2 cells k))))
        have QP3 := Lib.hid (fun u (hu : Fr [] wr u) (i : Nat) (hi : i < nb) => (by have h := place_any (VP3.out u hu) (i : Int) (by omega) (by rw [(VP3.out u hu).mp.bd.nb, ← HNB.out]; omega); rw [HV3.out, HCL.out] at h; exact h : Calls Try.prog 27 #[.agg C3, .slice (some ⟨bc, 0, none⟩) n n, .int .i64 (i : Int)] u (fun e w' => e = .returned (.agg #[.int .i64 (posX s3 cells i), .int .i64 (posY s3 cells i)]) ∧ Fr [] u w')))
        obtain ⟨rm, hrm⟩ : ∃ rm : Nat → Int, rm = fun i : Nat => roomOf rooms (posX s3 cells i) (posY s3 cells i) := ⟨_, rfl⟩
        have HRM := Lib.hid (fun i : Nat => (by rw [hrm] : rm i = roomOf rooms (posX s3 cells i) (posY s3 cells i)))
        have QR3 := Lib.hid (fun u (hu : Fr [] wr u) (i : Nat) (_ : i < nb) => (by have h := room_any u s3 rooms d3 (VP3.out u hu).map (posX s3 cells i) (posY s3 cells i); rw [HV3.out, ← HRM.out i] at h; exact h : Calls Try.prog 12 #[.agg C3, .agg #[.int .i64 (posX s3 cells i), .int .i64 (posY s3 cells i)]] u fun e w' => e = .returned (.int .i64 (rm i)) ∧ Fr [] u w'))
        have HALLS := Lib.hid (fun (p i : Nat) (hp : p < pl) (hi : i < nb) => (by
          have hv := VP3.out wr (Fr.refl _ _)
          have hn3 : s3.nb = nb := by rw [hv.mp.bd.nb, ← HNB.out]
          have hp3 : s3.players = (pl : Int) := by rw [hs3, HSA.out]; exact HPL.out
          exact all_sees pl hp3 (fun x y hx hy => h8 x y (by omega) hy) (by rw [hs3, HSA.out]; rfl) p i hp (by rw [hn3]; exact hi) (by rw [hn3]; exact hpn) (hv.pos (p : Int) (by omega) (by rw [hn3]; omega)) (hv.pos (i : Int) (by omega) (by rw [hn3]; omega)) (HRM.out p) (HRM.out i) : seesB s3 rooms d3 cells (p : Int) (i : Int) = (decide (i = p) || (decide (0 ≤ rm p) && decide (0 ≤ rm i)))))
        have QS3 := Lib.hid (fun u (hu : Fr [] wr u) (p i : Nat) (hp : p < pl) (hi : i < nb) => (by have h := sees_any (VP3.out u hu) (p : Int) (i : Int); rw [HV3.out, HCL.out, HALLS.out p i hp hi] at h; exact h : Calls Try.prog 21 #[.agg C3, .slice (some ⟨bc, 0, none⟩) n n, .int .i64 (p : Int), .int .i64 (i : Int)] u fun e w' => e = .returned (.bool (decide (i = p) || (decide (0 ≤ rm p) && decide (0 ≤ rm i)))) ∧ Fr [] u w'))
        have HSUB := Lib.hid (fun (p x : Int) (hx : x ∈ seenL s rooms doors cells p) => (by
          refine seenL_mono (s := s) (s' := s2) (by rw [hs2]; rfl) (by rw [hs2]; rfl) HIN2.out HS.out.fog.1 ?_ hx
          rw [hs2, HFG.out]; exact hG0.1 : x ∈ seenL s2 rooms d2 cells p))
        clear h1 h3 h4 h5 h6 h7 h8 hs2 hs3 hC2 hC3 hAE hrm
        obtain ⟨wo, rfl⟩ : ∃ wo : World, wo = wr := ⟨_, rfl⟩
        go_wp2_with fail
        go_loopw [21] (fun iv wr => ∃ p : Nat, p ≤ pl ∧ iv = .int .i64 (p : Int) ∧ Fr [] wo wr) (fun iv _ => pl - (intOf iv).toNat)
        case atStart => exact ⟨0, by omega, rfl, Fr.refl _ _⟩
        case round =>
          obtain ⟨p, hp, rfl, hf⟩ := hrel
          have HF1 := Lib.hid hf
          have c0 := K0.out wr (F5R.out.trans hf (by simp [Ext]))
          clear hf
          by_cases hpp : p < pl
          · have hppi : (p : Int) < (pl : Int) := by omega
            have hpn2 : p < nb := by omega
            have HBR := Lib.hid (KEEP.out wr (F5R.out.trans HF1.out (by simp [Ext])))
            go_wp2_with (refine wpList_loadB rfl 31 (Operand.tmp 13) rfl b1 16 rfl C 31 (0, 0) HBR.out _ Try.underlying31 rfl HCS.out infoSetup ?_)
            refine (QSeen.out wr (F5R.out.trans HF1.out (by simp [Ext])) (p : Int)).mono ?_
            rintro e wA ⟨oA, cA, rfl, hsA, fA, -⟩
            have HA := Lib.hid (HF1.out.trans fA (by simp [Ext]))
            have SA := Lib.hid hsA
            have HBA := Lib.hid (KEEP2.out wA HA.out)
            clear fA hsA c0
            go_wp2_with (refine wpList_loadB rfl 31 (Operand.tmp 15) rfl b2 16 rfl C2 31 (0, 0) HBA.out _ Try.underlying31 rfl HCS2.out infoSetup ?_)
            refine (QSeen2.out wA HA.out (p : Int)).mono ?_
            rintro e wB ⟨oB, cB, rfl, hsB, fB, -⟩
            have HB := Lib.hid (HA.out.trans fB (by simp [Ext]))
            have SB := Lib.hid hsB
            have SA2 := Lib.hid (SA.out.fr fB (by simp))
            clear fB hsB
            obtain ⟨L1, hL1⟩ : ∃ L1, L1 = seenL s rooms doors cells (p : Int) := ⟨_, rfl⟩
            obtain ⟨L2, hL2⟩ : ∃ L2, L2 = seenL s2 rooms d2 cells (p : Int) := ⟨_, rfl⟩
            have HSU := Lib.hid (fun x (hx : x ∈ L1) => (by rw [hL2]; rw [hL1] at hx; exact HSUB.out p x hx : x ∈ L2))
            rw [← hL1] at SA2 ⊢
            rw [← hL2] at SB ⊢
            have hl1 : L1.length ≤ 9223372036854775807 := by have := SA2.out.rd.2.1; unfold maxLen at this; omega
            clear hL1 hL2
            go_wp2_with fail
            obtain ⟨wi, rfl⟩ : ∃ wi : World, wi = wr := ⟨_, rfl⟩
            go_loopw [24] (fun iv wr => ∃ k : Nat, k ≤ L1.length ∧ iv = .int .i64 (k : Int) ∧ Fr [] wB wr) (fun iv _ => L1.length - (intOf iv).toNat)
            case atStart => exact ⟨0, by omega, rfl, Fr.refl _ _⟩
            case round =>
              obtain ⟨k, hk, rfl, hf⟩ := hrel
              have HF2 := Lib.hid hf
              clear hf
              by_cases hkl : k < L1.length
              · have hkli : (k : Int) < (L1.length : Int) := by omega
                obtain ⟨x, hx⟩ : ∃ x, x = L1[k] := ⟨_, rfl⟩
                obtain ⟨g, off, hg0, hck⟩ : ∃ g off, oA = some ⟨g, off, none⟩ ∧ wr.cell? ⟨g, off + k, none⟩ = some (.int .i64 x) := by
                  obtain ⟨g, off, cur, e', -, -, hc, -⟩ := (SA2.out.fr HF2.out (by simp)).at (by have := SA2.out.2.2.1; omega)
                  exact ⟨g, off, e', by rw [hc k (by omega), ints_get, List.getElem?_eq_getElem hkl, hx]; rfl⟩
                have HX := Lib.hid (HSU.out x (by rw [hx]; exact List.getElem_mem hkl))
                have SB2 := Lib.hid (SB.out.fr HF2.out (by simp))
                have HG0 := Lib.hid hg0
                subst hg0
                clear hx
                go_wp2_with fail
                refine (QHas.out _ _ _ _ _ SB2.out HX.out).mono ?_
                rintro e wE ⟨rfl, hwE⟩
                rw [← hwE]
                clear hwE
                go_wp2_with fail
                go_roundw
                case rel => exact ⟨k + 1, by omega, by go_num, HF2.out⟩
                case measure => simp [intOf]; omega
              · have HFB := Lib.hid (HB.out.trans HF2.out (by simp [Ext]))
                have HDr := Lib.hid (HFB.out.drew)
                go_upto_region 29 with fail
                refine wp_region_held_drew (S := fun u => u.heap[b3]? = some (.cells C3 31 (0, 0))) (by kernel_rfl) (KEEP3.out _ HDr.out) (fun hHeld => ?_)
                refine wpAnyH_takeL (i := 0) (v := (.agg C3)) rfl (by kernel_rfl) (by kernel_rfl) (by kernel_rfl) (fun _ _ _ h => h) (yieldsIf_load_mid (by rfl) 31 (Operand.tmp 18) rfl b3 0 rfl C3.toList _ (fun w' hw' => range_blk (c := C3) hw') Try.underlying31 rfl HCL3.out) (by assumption) ?_
                try simp only [Act.put, List.setIfInBounds_toArray, List.set_cons_zero, List.set_cons_succ]
                refine wpAnyH_takeL (i := 1) (v := (.agg C3)) rfl (by kernel_rfl) (by kernel_rfl) (by kernel_rfl) (fun _ _ _ h => h) (yieldsIf_load_mid (by rfl) 31 (Operand.tmp 18) rfl b3 0 rfl C3.toList _ (fun w' hw' => range_blk (c := C3) hw') Try.underlying31 rfl HCL3.out) (by assumption) ?_
                try simp only [Act.put, List.setIfInBounds_toArray, List.set_cons_zero, List.set_cons_succ]
                refine wpAnyH_takeL (i := 2) (v := _) rfl (by kernel_rfl) (by kernel_rfl) (by kernel_rfl) (fun _ _ _ h => h) (Or.inl ⟨by rfl, (by intro w' hSw; (try dsimp only at hSw); skip; go_simp; try with_reducible rfl)⟩) (by assumption) ?_
                try simp only [Act.put, List.setIfInBounds_toArray, List.set_cons_zero, List.set_cons_succ]
                refine wpAnyH_takeL (i := 3) (v := _) rfl (by kernel_rfl) (by kernel_rfl) (by kernel_rfl) (fun _ _ _ h => h) (Or.inl ⟨by rfl, (by intro w' hSw; (try dsimp only at hSw); skip; go_simp; try with_reducible rfl)⟩) (by assumption) ?_
                try simp only [Act.put, List.setIfInBounds_toArray, List.set_cons_zero, List.set_cons_succ]
                refine wpAnyH_ready (rs := [4]) (by kernel_rfl) (by simp) ?_
                refine AllReadyH.consL (i := 4) rfl (fun K hK => ?_) AllReadyH.nil
                go_simp
                (refine (QP3.out _ HDr.out p hpn2).mono ?_; rintro e wG ⟨rfl, fG⟩; have HG := Lib.hid (HDr.out.trans fG (by simp [Ext])); clear fG)
                refine hK.out _ _ (KEEP3.out _ HG.out) (fun hHeld => ?_)
                clear hK K
                try simp only [Act.put, List.setIfInBounds_toArray, List.set_cons_zero, List.set_cons_succ]
                refine wpAnyH_ready (rs := [5]) (by kernel_rfl) (by simp) ?_
                refine AllReadyH.consL (i := 5) rfl (fun K hK => ?_) AllReadyH.nil
                go_simp
                (refine (QR3.out _ HG.out p hpn2).mono ?_; rintro e wH ⟨rfl, fH⟩; have HH := Lib.hid (HG.out.trans fH (by simp [Ext])); clear fH)
                refine hK.out _ _ (KEEP3.out _ HH.out) (fun hHeld => ?_)
                clear hK K
                try simp only [Act.put, List.setIfInBounds_toArray, List.set_cons_zero, List.set_cons_succ]
                refine wpAnyH_takeL (i := 6) (v := _) rfl (by kernel_rfl) (by kernel_rfl) (by kernel_rfl) (fun _ _ _ h => h) (Or.inl ⟨by rfl, (by intro w' hSw; (try dsimp only at hSw); skip; go_simp; try with_reducible rfl)⟩) (by assumption) ?_
                try simp only [Act.put, List.setIfInBounds_toArray, List.set_cons_zero, List.set_cons_succ]
                refine wpAnyH_done (by kernel_rfl) ?_ _
                clear hHeld
                obtain ⟨me, hme⟩ : ∃ me, me = rm p := ⟨_, rfl⟩
                rw [← hme]
                have HME := Lib.hid hme
                clear hme
                go_wp2_with fail
                obtain ⟨wi2, rfl⟩ : ∃ wi : World, wi = wr := ⟨_, rfl⟩
                go_loopw [26] (fun iv wr => ∃ i : Nat, i ≤ nb ∧ iv = .int .i64 (i : Int) ∧ Fr [] wo wr) (fun iv _ => nb - (intOf iv).toNat)
                case atStart => exact ⟨0, by omega, rfl, HH.out⟩
                case round =>
                  obtain ⟨i, hi, rfl, hf⟩ := hrel
                  have HF3 := Lib.hid hf
                  have c1 := K1.out wr (F5R.out.trans hf (by simp [Ext]))
                  clear hf
                  by_cases hii : i < nb
                  · have hiii : (i : Int) < (nb : Int) := by omega
                    obtain ⟨ri, hri⟩ : ∃ ri, ri = rm i := ⟨_, rfl⟩
                    obtain ⟨t, ht⟩ : ∃ t, t = (decide (i = p) || (decide (0 ≤ me) && decide (0 ≤ ri))) := ⟨_, rfl⟩
                    have QS := Lib.hid (fun u (hu : Fr [] wo u) => (by rw [ht, hri, HME.out]; exact QS3.out u hu p i hpp hii : Calls Try.prog 21 #[.agg C3, .slice (some ⟨bc, 0, none⟩) n n, .int .i64 (p : Int), .int .i64 (i : Int)] u fun e w' => e = .returned (.bool t) ∧ Fr [] u w'))
                    have QR3i := Lib.hid (fun u (hu : Fr [] wo u) => (by rw [hri]; exact QR3.out u hu i hii : Calls Try.prog 12 #[.agg C3, .agg #[.int .i64 (posX s3 cells i), .int .i64 (posY s3 cells i)]] u fun e w' => e = .returned (.int .i64 ri) ∧ Fr [] u w'))
                    have HT := Lib.hid ht
                    have HDr2 := Lib.hid (HF3.out.drew)
                    clear hri ht
                    go_upto_region 33 with fail
                    clear c1
                    go_cut [27] (fun s27 wd => s27 = .bool t ∧ Fr [] wo wd)
                    case first =>
                      by_cases hip : i = p
                      · have e1 : ((i : Int) == (p : Int)) = true := beq_iff_eq.2 (by omega)
                        have e2 : (i == p) = true := beq_iff_eq.2 hip
                        have HR := Lib.hid (by rw [HT.out, decide_eq_true hip]; rfl : t = true)
                        clear hip
                        refine wp_region_held_drew (S := fun u => u.heap[b3]? = some (.cells C3 31 (0, 0))) (by kernel_rfl) (KEEP3.out _ HDr2.out) (fun hHeld => ?_)
                        refine wpAnyH_takeL (i := 0) (v := _) rfl (by kernel_rfl) (by kernel_rfl) (by kernel_rfl) (fun _ _ _ h => h) (Or.inl ⟨by rfl, (by intro w' hSw; (try dsimp only at hSw); skip; go_simp; try with_reducible rfl)⟩) (by assumption) ?_
                        try simp only [Act.put, List.setIfInBounds_toArray, List.set_cons_zero, List.set_cons_succ]
                        refine wpAnyH_takeL (i := 1) (v := _) rfl (by kernel_rfl) (by kernel_rfl) (by kernel_rfl) (fun _ _ _ h => h) (Or.inl ⟨by rfl, (by intro w' hSw; (try dsimp only at hSw); skip; go_simp; try with_reducible rfl)⟩) (by assumption) ?_
                        try simp only [Act.put, List.setIfInBounds_toArray, List.set_cons_zero, List.set_cons_succ]
                        refine wpAnyH_takeL (i := 2) (v := _) rfl (by kernel_rfl) (by kernel_rfl) (by kernel_rfl) (fun _ _ _ h => h) (Or.inl ⟨by rfl, (by intro w' hSw; (try dsimp only at hSw); skip; go_simp; try with_reducible rfl)⟩) (by assumption) ?_
                        try simp only [Act.put, List.setIfInBounds_toArray, List.set_cons_zero, List.set_cons_succ]
                        refine wpAnyH_takeL (i := 3) (v := _) rfl (by kernel_rfl) (by kernel_rfl) (by kernel_rfl) (fun _ _ _ h => h) (Or.inl ⟨by rfl, (by intro w' hSw; (try dsimp only at hSw); skip; go_simp; try with_reducible rfl)⟩) (by assumption) ?_
                        try simp only [Act.put, List.setIfInBounds_toArray, List.set_cons_zero, List.set_cons_succ]
                        refine wpAnyH_takeL (i := 4) (v := undef) rfl (by kernel_rfl) (by kernel_rfl) (by kernel_rfl) (fun _ _ _ h => h) (Or.inr ⟨by rfl, rfl⟩) (by assumption) ?_
                        try simp only [Act.put, List.setIfInBounds_toArray, List.set_cons_zero, List.set_cons_succ]
                        refine wpAnyH_takeL (i := 5) (v := undef) rfl (by kernel_rfl) (by kernel_rfl) (by kernel_rfl) (fun _ _ _ h => h) (Or.inr ⟨by rfl, rfl⟩) (by assumption) ?_
                        try simp only [Act.put, List.setIfInBounds_toArray, List.set_cons_zero, List.set_cons_succ]
                        refine wpAnyH_takeL (i := 6) (v := undef) rfl (by kernel_rfl) (by kernel_rfl) (by kernel_rfl) (fun _ _ _ h => h) (Or.inr ⟨by rfl, rfl⟩) (by assumption) ?_
                        try simp only [Act.put, List.setIfInBounds_toArray, List.set_cons_zero, List.set_cons_succ]
                        refine wpAnyH_takeL (i := 7) (v := undef) rfl (by kernel_rfl) (by kernel_rfl) (by kernel_rfl) (fun _ _ _ h => h) (Or.inr ⟨by rfl, rfl⟩) (by assumption) ?_
                        try simp only [Act.put, List.setIfInBounds_toArray, List.set_cons_zero, List.set_cons_succ]
                        refine wpAnyH_takeL (i := 8) (v := undef) rfl (by kernel_rfl) (by kernel_rfl) (by kernel_rfl) (fun _ _ _ h => h) (Or.inr ⟨by rfl, rfl⟩) (by assumption) ?_
                        try simp only [Act.put, List.setIfInBounds_toArray, List.set_cons_zero, List.set_cons_succ]
                        refine wpAnyH_takeL (i := 9) (v := undef) rfl (by kernel_rfl) (by kernel_rfl) (by kernel_rfl) (fun _ _ _ h => h) (Or.inr ⟨by rfl, rfl⟩) (by assumption) ?_
                        try simp only [Act.put, List.setIfInBounds_toArray, List.set_cons_zero, List.set_cons_succ]
                        refine wpAnyH_takeL (i := 10) (v := undef) rfl (by kernel_rfl) (by kernel_rfl) (by kernel_rfl) (fun _ _ _ h => h) (Or.inr ⟨by rfl, rfl⟩) (by assumption) ?_
                        try simp only [Act.put, List.setIfInBounds_toArray, List.set_cons_zero, List.set_cons_succ]
                        refine wpAnyH_takeL (i := 11) (v := undef) rfl (by kernel_rfl) (by kernel_rfl) (by kernel_rfl) (fun _ _ _ h => h) (Or.inr ⟨by rfl, rfl⟩) (by assumption) ?_
                        try simp only [Act.put, List.setIfInBounds_toArray, List.set_cons_zero, List.set_cons_succ]
                        refine wpAnyH_takeL (i := 12) (v := undef) rfl (by kernel_rfl) (by kernel_rfl) (by kernel_rfl) (fun _ _ _ h => h) (Or.inr ⟨by rfl, rfl⟩) (by assumption) ?_
                        try simp only [Act.put, List.setIfInBounds_toArray, List.set_cons_zero, List.set_cons_succ]
                        refine wpAnyH_takeL (i := 13) (v := undef) rfl (by kernel_rfl) (by kernel_rfl) (by kernel_rfl) (fun _ _ _ h => h) (Or.inr ⟨by rfl, rfl⟩) (by assumption) ?_
                        try simp only [Act.put, List.setIfInBounds_toArray, List.set_cons_zero, List.set_cons_succ]
                        refine wpAnyH_takeL (i := 14) (v := undef) rfl (by kernel_rfl) (by kernel_rfl) (by kernel_rfl) (fun _ _ _ h => h) (Or.inr ⟨by rfl, rfl⟩) (by assumption) ?_
                        try simp only [Act.put, List.setIfInBounds_toArray, List.set_cons_zero, List.set_cons_succ]
                        refine wpAnyH_takeL (i := 15) (v := _) rfl (by kernel_rfl) (by kernel_rfl) (by kernel_rfl) (fun _ _ _ h => h) (Or.inl ⟨by rfl, (by intro w' hSw; (try dsimp only at hSw); skip; go_simp; try with_reducible rfl)⟩) (by assumption) ?_
                        try simp only [Act.put, List.setIfInBounds_toArray, List.set_cons_zero, List.set_cons_succ]
                        refine wpAnyH_takeL (i := 16) (v := _) rfl (by kernel_rfl) (by kernel_rfl) (by kernel_rfl) (fun _ _ _ h => h) (Or.inl ⟨by rfl, (by intro w' hSw; (try dsimp only at hSw); skip; go_simp; try with_reducible rfl)⟩) (by assumption) ?_
                        try simp only [Act.put, List.setIfInBounds_toArray, List.set_cons_zero, List.set_cons_succ]
                        refine wpAnyH_done (by kernel_rfl) ?_ _
                        clear hHeld
                        go_wp2_with fail
                        go_meet
                        exact ⟨by rw [HR.out], HDr2.out⟩
                      · have e1 : ((i : Int) == (p : Int)) = false := beq_eq_false_iff_ne.2 (by omega)
                        have e2 : (i == p) = false := beq_eq_false_iff_ne.2 hip
                        by_cases hm0 : 0 ≤ me
                        · have e3 : decide (0 ≤ me) = true := decide_eq_true hm0
                          have HR := Lib.hid (by rw [HT.out, decide_eq_false hip, decide_eq_true hm0]; rfl : t = decide (0 ≤ ri))
                          clear hip hm0
                          cases e4 : decide (0 ≤ ri)
                          all_goals
                            refine wp_region_held_drew (S := fun u => u.heap[b3]? = some (.cells C3 31 (0, 0))) (by kernel_rfl) (KEEP3.out _ HDr2.out) (fun hHeld => ?_)
                            refine wpAnyH_takeL (i := 0) (v := _) rfl (by kernel_rfl) (by kernel_rfl) (by kernel_rfl) (fun _ _ _ h => h) (Or.inl ⟨by rfl, (by intro w' hSw; (try dsimp only at hSw); skip; go_simp; try with_reducible rfl)⟩) (by assumption) ?_
                            try simp only [Act.put, List.setIfInBounds_toArray, List.set_cons_zero, List.set_cons_succ]
                            refine wpAnyH_takeL (i := 1) (v := _) rfl (by kernel_rfl) (by kernel_rfl) (by kernel_rfl) (fun _ _ _ h => h) (Or.inl ⟨by rfl, (by intro w' hSw; (try dsimp only at hSw); skip; go_simp; try with_reducible rfl)⟩) (by assumption) ?_
                            try simp only [Act.put, List.setIfInBounds_toArray, List.set_cons_zero, List.set_cons_succ]
                            refine wpAnyH_takeL (i := 2) (v := _) rfl (by kernel_rfl) (by kernel_rfl) (by kernel_rfl) (fun _ _ _ h => h) (Or.inl ⟨by rfl, (by intro w' hSw; (try dsimp only at hSw); skip; go_simp; try with_reducible rfl)⟩) (by assumption) ?_
                            try simp only [Act.put, List.setIfInBounds_toArray, List.set_cons_zero, List.set_cons_succ]
                            refine wpAnyH_takeL (i := 3) (v := _) rfl (by kernel_rfl) (by kernel_rfl) (by kernel_rfl) (fun _ _ _ h => h) (Or.inl ⟨by rfl, (by intro w' hSw; (try dsimp only at hSw); skip; go_simp; try with_reducible rfl)⟩) (by assumption) ?_
                            try simp only [Act.put, List.setIfInBounds_toArray, List.set_cons_zero, List.set_cons_succ]
                            refine wpAnyH_takeL (i := 4) (v := _) rfl (by kernel_rfl) (by kernel_rfl) (by kernel_rfl) (fun _ _ _ h => h) (Or.inl ⟨by rfl, (by intro w' hSw; (try dsimp only at hSw); skip; go_simp; try with_reducible rfl)⟩) (by assumption) ?_
                            try simp only [Act.put, List.setIfInBounds_toArray, List.set_cons_zero, List.set_cons_succ]
                            refine wpAnyH_takeL (i := 5) (v := _) rfl (by kernel_rfl) (by kernel_rfl) (by kernel_rfl) (fun _ _ _ h => h) (Or.inl ⟨by rfl, (by intro w' hSw; (try dsimp only at hSw); skip; go_simp; try with_reducible rfl)⟩) (by assumption) ?_
                            try simp only [Act.put, List.setIfInBounds_toArray, List.set_cons_zero, List.set_cons_succ]
                            refine wpAnyH_takeL (i := 6) (v := _) rfl (by kernel_rfl) (by kernel_rfl) (by kernel_rfl) (fun _ _ _ h => h) (Or.inl ⟨by rfl, (by intro w' hSw; (try dsimp only at hSw); skip; go_simp; try with_reducible rfl)⟩) (by assumption) ?_
                            try simp only [Act.put, List.setIfInBounds_toArray, List.set_cons_zero, List.set_cons_succ]
                            refine wpAnyH_takeL (i := 7) (v := (.agg C3)) rfl (by kernel_rfl) (by kernel_rfl) (by kernel_rfl) (fun _ _ _ h => h) (yieldsIf_load_mid (by rfl) 31 (Operand.tmp 18) rfl b3 0 rfl C3.toList _ (fun w' hw' => range_blk (c := C3) hw') Try.underlying31 rfl HCL3.out) (by assumption) ?_
                            try simp only [Act.put, List.setIfInBounds_toArray, List.set_cons_zero, List.set_cons_succ]
                            refine wpAnyH_takeL (i := 8) (v := (.agg C3)) rfl (by kernel_rfl) (by kernel_rfl) (by kernel_rfl) (fun _ _ _ h => h) (yieldsIf_load_mid (by rfl) 31 (Operand.tmp 18) rfl b3 0 rfl C3.toList _ (fun w' hw' => range_blk (c := C3) hw') Try.underlying31 rfl HCL3.out) (by assumption) ?_
                            try simp only [Act.put, List.setIfInBounds_toArray, List.set_cons_zero, List.set_cons_succ]
                            refine wpAnyH_takeL (i := 9) (v := _) rfl (by kernel_rfl) (by kernel_rfl) (by kernel_rfl) (fun _ _ _ h => h) (Or.inl ⟨by rfl, (by intro w' hSw; (try dsimp only at hSw); skip; go_simp; try with_reducible rfl)⟩) (by assumption) ?_
                            try simp only [Act.put, List.setIfInBounds_toArray, List.set_cons_zero, List.set_cons_succ]
                            refine wpAnyH_takeL (i := 10) (v := _) rfl (by kernel_rfl) (by kernel_rfl) (by kernel_rfl) (fun _ _ _ h => h) (Or.inl ⟨by rfl, (by intro w' hSw; (try dsimp only at hSw); skip; go_simp; try with_reducible rfl)⟩) (by assumption) ?_
                            try simp only [Act.put, List.setIfInBounds_toArray, List.set_cons_zero, List.set_cons_succ]
                            refine wpAnyH_ready (rs := [11]) (by kernel_rfl) (by simp) ?_
                            refine AllReadyH.consL (i := 11) rfl (fun K hK => ?_) AllReadyH.nil
                            go_simp
                            (refine (QP3.out _ HDr2.out i hii).mono ?_; rintro e wI ⟨rfl, fI⟩; have HI := Lib.hid (HDr2.out.trans fI (by simp [Ext])); clear fI)
                            refine hK.out _ _ (KEEP3.out _ HI.out) (fun hHeld => ?_)
                            clear hK K
                            try simp only [Act.put, List.setIfInBounds_toArray, List.set_cons_zero, List.set_cons_succ]
                            refine wpAnyH_ready (rs := [12]) (by kernel_rfl) (by simp) ?_
                            refine AllReadyH.consL (i := 12) rfl (fun K hK => ?_) AllReadyH.nil
                            go_simp
                            (refine (QR3i.out _ HI.out).mono ?_; rintro e wJ ⟨rfl, fJ⟩; have HJ := Lib.hid (HI.out.trans fJ (by simp [Ext])); clear fJ)
                            refine hK.out _ _ (KEEP3.out _ HJ.out) (fun hHeld => ?_)
                            clear hK K
                            try simp only [Act.put, List.setIfInBounds_toArray, List.set_cons_zero, List.set_cons_succ]
                            refine wpAnyH_takeL (i := 13) (v := _) rfl (by kernel_rfl) (by kernel_rfl) (by kernel_rfl) (fun _ _ _ h => h) (Or.inl ⟨by rfl, (by intro w' hSw; (try dsimp only at hSw); skip; go_simp; try with_reducible rfl)⟩) (by assumption) ?_
                            try simp only [Act.put, List.setIfInBounds_toArray, List.set_cons_zero, List.set_cons_succ]
                            refine wpAnyH_takeL (i := 14) (v := _) rfl (by kernel_rfl) (by kernel_rfl) (by kernel_rfl) (fun _ _ _ h => h) (Or.inl ⟨by rfl, (by intro w' hSw; (try dsimp only at hSw); skip; go_simp; try with_reducible rfl)⟩) (by assumption) ?_
                            try simp only [Act.put, List.setIfInBounds_toArray, List.set_cons_zero, List.set_cons_succ]
                            refine wpAnyH_takeL (i := 15) (v := _) rfl (by kernel_rfl) (by kernel_rfl) (by kernel_rfl) (fun _ _ _ h => h) (Or.inl ⟨by rfl, (by intro w' hSw; (try dsimp only at hSw); skip; go_simp; try with_reducible rfl)⟩) (by assumption) ?_
                            try simp only [Act.put, List.setIfInBounds_toArray, List.set_cons_zero, List.set_cons_succ]
                            refine wpAnyH_takeL (i := 16) (v := _) rfl (by kernel_rfl) (by kernel_rfl) (by kernel_rfl) (fun _ _ _ h => h) (Or.inl ⟨by rfl, (by intro w' hSw; (try dsimp only at hSw); skip; go_simp; try with_reducible rfl)⟩) (by assumption) ?_
                            try simp only [Act.put, List.setIfInBounds_toArray, List.set_cons_zero, List.set_cons_succ]
                            refine wpAnyH_done (by kernel_rfl) ?_ _
                            clear hHeld
                            go_wp2_with fail
                            go_meet
                            exact ⟨by rw [HR.out, e4], HJ.out⟩
                        · have e3 : decide (0 ≤ me) = false := decide_eq_false hm0
                          have HR := Lib.hid (by rw [HT.out, decide_eq_false hip, decide_eq_false hm0]; rfl : t = false)
                          clear hip hm0
                          refine wp_region_held_drew (S := fun u => u.heap[b3]? = some (.cells C3 31 (0, 0))) (by kernel_rfl) (KEEP3.out _ HDr2.out) (fun hHeld => ?_)
                          refine wpAnyH_takeL (i := 0) (v := _) rfl (by kernel_rfl) (by kernel_rfl) (by kernel_rfl) (fun _ _ _ h => h) (Or.inl ⟨by rfl, (by intro w' hSw; (try dsimp only at hSw); skip; go_simp; try with_reducible rfl)⟩) (by assumption) ?_
                          try simp only [Act.put, List.setIfInBounds_toArray, List.set_cons_zero, List.set_cons_succ]
                          refine wpAnyH_takeL (i := 1) (v := _) rfl (by kernel_rfl) (by kernel_rfl) (by kernel_rfl) (fun _ _ _ h => h) (Or.inl ⟨by rfl, (by intro w' hSw; (try dsimp only at hSw); skip; go_simp; try with_reducible rfl)⟩) (by assumption) ?_
                          try simp only [Act.put, List.setIfInBounds_toArray, List.set_cons_zero, List.set_cons_succ]
                          refine wpAnyH_takeL (i := 2) (v := _) rfl (by kernel_rfl) (by kernel_rfl) (by kernel_rfl) (fun _ _ _ h => h) (Or.inl ⟨by rfl, (by intro w' hSw; (try dsimp only at hSw); skip; go_simp; try with_reducible rfl)⟩) (by assumption) ?_
                          try simp only [Act.put, List.setIfInBounds_toArray, List.set_cons_zero, List.set_cons_succ]
                          refine wpAnyH_takeL (i := 3) (v := _) rfl (by kernel_rfl) (by kernel_rfl) (by kernel_rfl) (fun _ _ _ h => h) (Or.inl ⟨by rfl, (by intro w' hSw; (try dsimp only at hSw); skip; go_simp; try with_reducible rfl)⟩) (by assumption) ?_
                          try simp only [Act.put, List.setIfInBounds_toArray, List.set_cons_zero, List.set_cons_succ]
                          refine wpAnyH_takeL (i := 4) (v := _) rfl (by kernel_rfl) (by kernel_rfl) (by kernel_rfl) (fun _ _ _ h => h) (Or.inl ⟨by rfl, (by intro w' hSw; (try dsimp only at hSw); skip; go_simp; try with_reducible rfl)⟩) (by assumption) ?_
                          try simp only [Act.put, List.setIfInBounds_toArray, List.set_cons_zero, List.set_cons_succ]
                          refine wpAnyH_takeL (i := 5) (v := _) rfl (by kernel_rfl) (by kernel_rfl) (by kernel_rfl) (fun _ _ _ h => h) (Or.inl ⟨by rfl, (by intro w' hSw; (try dsimp only at hSw); skip; go_simp; try with_reducible rfl)⟩) (by assumption) ?_
                          try simp only [Act.put, List.setIfInBounds_toArray, List.set_cons_zero, List.set_cons_succ]
                          refine wpAnyH_takeL (i := 6) (v := _) rfl (by kernel_rfl) (by kernel_rfl) (by kernel_rfl) (fun _ _ _ h => h) (Or.inl ⟨by rfl, (by intro w' hSw; (try dsimp only at hSw); skip; go_simp; try with_reducible rfl)⟩) (by assumption) ?_
                          try simp only [Act.put, List.setIfInBounds_toArray, List.set_cons_zero, List.set_cons_succ]
                          refine wpAnyH_takeL (i := 7) (v := undef) rfl (by kernel_rfl) (by kernel_rfl) (by kernel_rfl) (fun _ _ _ h => h) (Or.inr ⟨by rfl, rfl⟩) (by assumption) ?_
                          try simp only [Act.put, List.setIfInBounds_toArray, List.set_cons_zero, List.set_cons_succ]
                          refine wpAnyH_takeL (i := 8) (v := undef) rfl (by kernel_rfl) (by kernel_rfl) (by kernel_rfl) (fun _ _ _ h => h) (Or.inr ⟨by rfl, rfl⟩) (by assumption) ?_
                          try simp only [Act.put, List.setIfInBounds_toArray, List.set_cons_zero, List.set_cons_succ]
                          refine wpAnyH_takeL (i := 9) (v := undef) rfl (by kernel_rfl) (by kernel_rfl) (by kernel_rfl) (fun _ _ _ h => h) (Or.inr ⟨by rfl, rfl⟩) (by assumption) ?_
                          try simp only [Act.put, List.setIfInBounds_toArray, List.set_cons_zero, List.set_cons_succ]
                          refine wpAnyH_takeL (i := 10) (v := undef) rfl (by kernel_rfl) (by kernel_rfl) (by kernel_rfl) (fun _ _ _ h => h) (Or.inr ⟨by rfl, rfl⟩) (by assumption) ?_
                          try simp only [Act.put, List.setIfInBounds_toArray, List.set_cons_zero, List.set_cons_succ]
                          refine wpAnyH_takeL (i := 11) (v := undef) rfl (by kernel_rfl) (by kernel_rfl) (by kernel_rfl) (fun _ _ _ h => h) (Or.inr ⟨by rfl, rfl⟩) (by assumption) ?_
                          try simp only [Act.put, List.setIfInBounds_toArray, List.set_cons_zero, List.set_cons_succ]
                          refine wpAnyH_takeL (i := 12) (v := undef) rfl (by kernel_rfl) (by kernel_rfl) (by kernel_rfl) (fun _ _ _ h => h) (Or.inr ⟨by rfl, rfl⟩) (by assumption) ?_
                          try simp only [Act.put, List.setIfInBounds_toArray, List.set_cons_zero, List.set_cons_succ]
                          refine wpAnyH_takeL (i := 13) (v := undef) rfl (by kernel_rfl) (by kernel_rfl) (by kernel_rfl) (fun _ _ _ h => h) (Or.inr ⟨by rfl, rfl⟩) (by assumption) ?_
                          try simp only [Act.put, List.setIfInBounds_toArray, List.set_cons_zero, List.set_cons_succ]
                          refine wpAnyH_takeL (i := 14) (v := _) rfl (by kernel_rfl) (by kernel_rfl) (by kernel_rfl) (fun _ _ _ h => h) (Or.inl ⟨by rfl, (by intro w' hSw; (try dsimp only at hSw); skip; go_simp; try with_reducible rfl)⟩) (by assumption) ?_
                          try simp only [Act.put, List.setIfInBounds_toArray, List.set_cons_zero, List.set_cons_succ]
                          refine wpAnyH_takeL (i := 15) (v := _) rfl (by kernel_rfl) (by kernel_rfl) (by kernel_rfl) (fun _ _ _ h => h) (Or.inl ⟨by rfl, (by intro w' hSw; (try dsimp only at hSw); skip; go_simp; try with_reducible rfl)⟩) (by assumption) ?_
                          try simp only [Act.put, List.setIfInBounds_toArray, List.set_cons_zero, List.set_cons_succ]
                          refine wpAnyH_takeL (i := 16) (v := _) rfl (by kernel_rfl) (by kernel_rfl) (by kernel_rfl) (fun _ _ _ h => h) (Or.inl ⟨by rfl, (by intro w' hSw; (try dsimp only at hSw); skip; go_simp; try with_reducible rfl)⟩) (by assumption) ?_
                          try simp only [Act.put, List.setIfInBounds_toArray, List.set_cons_zero, List.set_cons_succ]
                          refine wpAnyH_done (by kernel_rfl) ?_ _
                          clear hHeld
                          go_wp2_with fail
                          go_meet
                          exact ⟨by rw [HR.out], HDr2.out⟩
                    case rest =>
                      obtain ⟨rfl, hfd⟩ := hcut
                      have HFD := Lib.hid hfd
                      have HBD := Lib.hid (KEEP3.out _ hfd)
                      clear hfd
                      go_wp2_with (refine wpList_loadB rfl 31 (Operand.tmp 18) rfl b3 16 rfl C3 31 (0, 0) HBD.out _ Try.underlying31 rfl HCS3.out infoSetup ?_)
                      refine (QS.out _ HFD.out).mono ?_
                      rintro e we ⟨rfl, fe⟩
                      have FE := Lib.hid (HFD.out.trans fe (by simp [Ext]))
                      clear fe
                      go_wp2_with fail
                      go_roundw
                      case rel => exact ⟨i + 1, by omega, by go_num, FE.out⟩
                      case measure => simp [intOf]; omega
                  · go_wp2_with fail
                    go_roundw
                    case rel => exact ⟨p + 1, by omega, by go_num, HF3.out⟩
                    case measure => simp [intOf]; omega
          · go_wp2_with fail
            refine (lives_any _).mono ?_
            rintro e w9 ⟨rfl, f9⟩
            have F9 := Lib.hid (((F1.out.trans F5.out (by simp [Ext])).trans (F5R.out.trans HF1.out (by simp [Ext])) (by simp [Ext])).trans f9 (by simp [Ext]))
            clear f9
            go_wp2_with fail
            go_ret
            exact ⟨rfl, F9.out⟩
end Go.Proofs.Ytdbngpncigjfiaa
