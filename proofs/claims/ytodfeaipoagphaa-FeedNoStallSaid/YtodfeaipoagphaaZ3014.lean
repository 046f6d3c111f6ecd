/- Rf28, FeedDuo, Lives30, Has, FeedLaw, FExact (merged by merge.py). -/
import Derived.Test.YtodfeaipoagphaaZ307
import Derived.Test.YtodfeaipoagphaaZ3012
import Derived.Deep.DeepCutAuto
import Derived.Test.YtodfeaipoagphaaZ300
import Derived.Test.YtodfeaipoagphaaZ3013
import Derived.Deep.CutBlock
/- arenanetref28: Find, Varint, Zigzag, Equal. -/
namespace Go.Proofs.Ytodfeaipoagphaa
open Go.RowKit




set_option maxHeartbeats 2000000 in
theorem requal_any (w : World) (ao bo : Option Addr) (ca cb : Nat) (a b : List (Int × Int)) (ha : Rd w 2 ao a.length (a.flatMap clV)) (hb : Rd w 2 bo b.length (b.flatMap clV)) :
    Calls Try.prog 18 #[.slice ao a.length ca, .slice bo b.length cb] w fun e w' => e = .returned (.bool (decide (a = b))) ∧ Fr [] w w' := by
  have hla : a.length ≤ 9223372036854775807 := by have := ha.2.1; unfold maxLen at this; omega
  have hlb : b.length ≤ 9223372036854775807 := by have := hb.2.1; unfold maxLen at this; omega
  have HA := Lib.hid ha
  have HB := Lib.hid hb
  clear ha hb
  by_cases hl : a.length = b.length
  · have hne : ((a.length : Int) != (b.length : Int)) = false := by rw [hl]; simp
    have HL := Lib.hid hl
    clear hl
    go_enter Try.func18, Try.ntmps18
    go_wp2_with fail
    go_loopw [5] (fun i wr => ∃ k : Nat, k ≤ a.length ∧ i = .int .i64 k ∧ a.take k = b.take k ∧ Fr [] w wr) (fun i _ => a.length - (intOf i).toNat)
    case atStart => exact ⟨0, Nat.zero_le _, rfl, rfl, Fr.refl _ _⟩
    case round =>
      obtain ⟨k, hk, rfl, ht, hf⟩ := hrel
      have HT := Lib.hid ht
      have HF := Lib.hid hf
      by_cases hkn : k < a.length
      · have hkb : k < b.length := by have := HL.out; omega
        obtain ⟨g, off, rfl, g1, c1, c2⟩ := (HA.out.fr hf (by simp)).cel hkn
        obtain ⟨g2, off2, rfl, g3, c3, c4⟩ := (HB.out.fr hf (by simp)).cel hkb
        obtain ⟨x1, hx1⟩ : ∃ x, x = a[k].1 := ⟨_, rfl⟩
        obtain ⟨x2, hx2⟩ : ∃ x, x = a[k].2 := ⟨_, rfl⟩
        obtain ⟨y1, hy1⟩ : ∃ x, x = b[k].1 := ⟨_, rfl⟩
        obtain ⟨y2, hy2⟩ : ∃ x, x = b[k].2 := ⟨_, rfl⟩
        rw [← hx1] at c1
        rw [← hx2] at c2
        rw [← hy1] at c3
        rw [← hy2] at c4
        have HX1 := Lib.hid hx1
        have HX2 := Lib.hid hx2
        have HY1 := Lib.hid hy1
        have HY2 := Lib.hid hy2
        have wi : IntKind.i64.wrap ((k : Int) + 1) = (k : Int) + 1 := IntWalk.i64_in _ (by omega)
        have hki : (k : Int) < (a.length : Int) := by omega
        have hkj : (k : Int) < (b.length : Int) := by omega
        clear ht hf hx1 hx2 hy1 hy2
        by_cases hxy : x1 = y1 ∧ x2 = y2
        · have hb : ∀ u, (binOp .neq 48 (.agg #[.int .i64 x1, .int .i64 x2]) (.agg #[.int .i64 y1, .int .i64 y2])).run Try.prog u = .ok (.bool false) u := fun u => by rw [ne_cell]; simp [hxy.1, hxy.2]
          have HXY := Lib.hid hxy
          clear hxy
          go_wp2_with fail
          go_quiet (fail)
          go_wp2_with fail
          go_roundw
          case rel =>
            have e : a[k] = b[k] := Prod.ext (by rw [← HX1.out, ← HY1.out]; exact HXY.out.1) (by rw [← HX2.out, ← HY2.out]; exact HXY.out.2)
            exact ⟨k + 1, by omega, by go_num, by rw [List.take_succ_eq_append_getElem hkn, List.take_succ_eq_append_getElem hkb, HT.out, e], HF.out.trans ((Fr.refl [] _).drewN _) (by simp [Ext])⟩
          case measure => simp [intOf]; omega
        · have hb : ∀ u, (binOp .neq 48 (.agg #[.int .i64 x1, .int .i64 x2]) (.agg #[.int .i64 y1, .int .i64 y2])).run Try.prog u = .ok (.bool true) u := fun u => by
            rw [ne_cell]
            have : ((x1 == y1) && (x2 == y2)) = false := by
              rw [Bool.eq_false_iff]
              intro h
              simp only [Bool.and_eq_true, beq_iff_eq] at h
              exact hxy h
            rw [this]; rfl
          have HXY := Lib.hid hxy
          clear hxy
          go_wp2_with fail
          go_quiet (fail)
          go_wp2_with fail
          go_ret
          exact ⟨ret_bool (by
            symm
            refine decide_eq_false fun h => HXY.out ?_
            rw [HX1.out, HX2.out, HY1.out, HY2.out]
            simp only [h]
            constructor <;> trivial), HF.out.trans ((Fr.refl [] _).drewN _) (by simp [Ext])⟩
      · have hke : k = a.length := by omega
        have hab : a = b := by
          have := HT.out
          rw [hke, List.take_of_length_le (Nat.le_refl _), HL.out, List.take_of_length_le (Nat.le_refl _)] at this
          exact this
        have HAB := Lib.hid hab
        clear ht hf hke hab
        go_wp2_with fail
        go_ret
        exact ⟨ret_bool (decide_eq_true HAB.out).symm, HF.out⟩
  · have hne : ((a.length : Int) != (b.length : Int)) = true := bne_iff_ne.2 (by omega)
    have HL := Lib.hid hl
    clear hl
    go_enter Try.func18, Try.ntmps18
    go_wp2_with fail
    go_ret
    exact ⟨ret_bool (decide_eq_false fun h => HL.out (by rw [h])).symm, Fr.refl _ _⟩
end Go.Proofs.Ytodfeaipoagphaa
/- Package feed: two stores side by side, and blocks that they leave alone; lives. -/
namespace Go.Proofs.Ytodfeaipoagphaa
open Go.RowKit

/-- the stores (T1, p, s) and (T2, q, r) lie apart in blocks made since W; the blocks G are of now, made since W, and of neither -/
structure DuoF (T1 T2 : TypeId) (W : World) (G : List Nat) (p q : Nat) (s r : FS) (F1 F2 : List Nat) (w : World) : Prop where
  a : IsSt T1 p s w F1
  b : IsSt T2 q r w F2
  d : ∀ k ∈ F1, k ∉ F2
  g1 : ∀ k ∈ F1, k ∉ G
  g2 : ∀ k ∈ F2, k ∉ G
  n1 : ∀ k ∈ F1, W.heap.size ≤ k
  n2 : ∀ k ∈ F2, W.heap.size ≤ k
  fr : Fr [] W w
  gn : ∀ k ∈ G, W.heap.size ≤ k ∧ k < w.heap.size
def Duo (T1 T2 : TypeId) (W : World) (G : List Nat) (p q : Nat) (s r : FS) (w : World) : Prop := ∃ F1 F2, DuoF T1 T2 W G p q s r F1 F2 w

section
variable {T1 T2 : TypeId} {W w w' : World} {G G' S F1' : List Nat} {p q : Nat} {s s' r r' : FS} {F1 F2 : List Nat}
theorem Duo.swap (h : Duo T1 T2 W G p q s r w) : Duo T2 T1 W G q p r s w := by
  obtain ⟨F1, F2, k⟩ := h
  exact ⟨F2, F1, ⟨k.b, k.a, fun x hx hy => k.d x hy hx, k.g2, k.g1, k.n2, k.n1, k.fr, k.gn⟩⟩
theorem Duo.frame (h : Duo T1 T2 W G p q s r w) : Fr [] W w := by obtain ⟨_, _, k⟩ := h; exact k.fr
theorem Duo.gnew (h : Duo T1 T2 W G p q s r w) : ∀ k ∈ G, W.heap.size ≤ k ∧ k < w.heap.size := by obtain ⟨_, _, k⟩ := h; exact k.gn
theorem Duo.st1 (h : Duo T1 T2 W G p q s r w) : ∃ F, IsSt T1 p s w F := by obtain ⟨F, _, k⟩ := h; exact ⟨F, k.a⟩
/-- the first store turns -/
theorem DuoF.turn (h : DuoF T1 T2 W G p q s r F1 F2 w) (ha : IsSt T1 p s' w' F1') (hf : Fr F1 w w') (hx : Ext F1 w F1') (hG : ∀ k ∈ G', (k ∈ G ∨ (w.heap.size ≤ k ∧ k ∉ F1')) ∧ k < w'.heap.size) : Duo T1 T2 W G' p q s' r w' ∧ Kept G w w' := by
  have hlt := (isSt_frm T2 q r).lt h.b
  refine ⟨⟨F1', F2, ⟨ha, (isSt_frm T2 q r).fr h.b hf (fun k hk hm => h.d k hm hk), fun k hk hm => ?_, fun k hk hm => ?_, fun k hk hm => ?_, fun k hk => ?_, h.n2, h.fr.trans hf (fun k hk => .inr (h.n1 k hk)), fun k hk => ⟨?_, (hG k hk).2⟩⟩⟩, fun k hk => hf.block k (h.gn k hk).2 (fun hm => h.g1 k hm hk)⟩
  · rcases hx k hk with x | x
    · exact h.d k x hm
    · have := hlt k hm; omega
  · rcases (hG k hm).1 with x | x
    · rcases hx k hk with y | y
      · exact h.g1 k y x
      · have := (h.gn k x).2; omega
    · exact x.2 hk
  · rcases (hG k hm).1 with x | x
    · exact h.g2 k hk x
    · have := hlt k hk; omega
  · rcases hx k hk with x | x
    · exact h.n1 k x
    · have := h.fr.size; omega
  · rcases (hG k hk).1 with x | x
    · exact (h.gn k x).1
    · have := h.fr.size; omega
/-- the program's own steps -/
theorem Duo.own (h : Duo T1 T2 W G p q s r w) (hf : Fr S w w') (hS : ∀ k ∈ S, k ∈ G) (hG : ∀ k ∈ G', (k ∈ G ∨ w.heap.size ≤ k) ∧ k < w'.heap.size) : Duo T1 T2 W G' p q s r w' := by
  obtain ⟨F1, F2, h⟩ := h
  have h1 := (isSt_frm T1 p s).lt h.a
  have h2 := (isSt_frm T2 q r).lt h.b
  refine ⟨F1, F2, ⟨(isSt_frm T1 p s).fr h.a hf (fun k hk hm => h.g1 k hk (hS k hm)), (isSt_frm T2 q r).fr h.b hf (fun k hk hm => h.g2 k hk (hS k hm)), h.d, fun k hk hm => ?_, fun k hk hm => ?_, h.n1, h.n2, h.fr.trans hf (fun k hk => .inr (h.gn k (hS k hk)).1), fun k hk => ⟨?_, (hG k hk).2⟩⟩⟩
  · rcases (hG k hm).1 with x | x
    · exact h.g1 k hk x
    · have := h1 k hk; omega
  · rcases (hG k hm).1 with x | x
    · exact h.g2 k hk x
    · have := h2 k hk; omega
  · rcases (hG k hk).1 with x | x
    · exact (h.gn k x).1
    · have := h.fr.size; omega
theorem Duo.old (h : Duo T1 T2 W G p q s r w) (hf : Fr [] w w') : Duo T1 T2 W G p q s r w' ∧ Kept G w w' :=
  ⟨h.own hf (by simp) (fun k hk => ⟨.inl hk, Nat.lt_of_lt_of_le (h.gnew k hk).2 hf.size⟩), fun k hk => hf.block k (h.gnew k hk).2 (by simp)⟩
theorem Duo.sub (h : Duo T1 T2 W G p q s r w) (hs : ∀ k ∈ G', k ∈ G) : Duo T1 T2 W G' p q s r w :=
  h.own (Fr.refl [] w) (by simp) fun k hk => ⟨.inl (hs k hk), (h.gnew k (hs k hk)).2⟩
theorem Duo.grow (h : Duo T1 T2 W G p q s r w) (hf : Fr [] w w') (hG : ∀ k ∈ G', (k ∈ G ∨ w.heap.size ≤ k) ∧ k < w'.heap.size) : Duo T1 T2 W G' p q s r w' := h.own hf (by simp) hG
theorem duo_new {k : Nat} {e : Ending} (ha : IsSt T1 p s w F1) (hn : ∀ k ∈ F1, W.heap.size ≤ k) (hf : Fr [] W w) (h : NewTo T2 w k e w') : ∃ q, e = .returned (.pointer (some ⟨q, 0, none⟩)) ∧ Duo T1 T2 W [] p q s (fnew k) w' := by
  obtain ⟨q, F2, rfl, hb, hf2, hn2⟩ := h
  have hlt := (isSt_frm T1 p s).lt ha
  have hz := hf.size
  exact ⟨q, rfl, F1, F2, ⟨(isSt_frm T1 p s).fr ha hf2 (by simp), hb, fun k hk hm => by have h1 := hlt k hk; have h2 := hn2 k hm; omega, by simp, by simp, hn, fun k hk => by have h2 := hn2 k hk; omega, hf.trans hf2 (by simp [Ext]), by simp⟩⟩

/-- what Send leaves -/
def DSend (T2 : TypeId) (W : World) (G : List Nat) (p q : Nat) (s r : FS) (t : Nat) (v : List (Int × Int)) (w : World) (e : Ending) (w' : World) : Prop :=
  ∃ po pc n, e = .returned (.tuple #[.slice po n pc, .int .i64 0]) ∧ n = (enc (varN t ++ varN s.ref ++ diffL s.base v)).length ∧ PktAt w' po pc t s.ref (diffL s.base v) ∧ Duo 58 T2 W (blk po ++ G) p q (s.put t v) r w' ∧ Kept G w w' ∧ w.heap.size ≤ w'.heap.size
theorem duo_send (h : Duo 58 T2 W G p q s r w) (hg : s.Good) (t : Nat) (h0 : s.next ≤ (t : Int)) (h1 : t ≤ 6000) (vo : Option Addr) (vc : Nat) (v : List (Int × Int)) (hv : Seg w 48 2 vo v.length vc (v.flatMap clV)) (hiv : IsView v) (hl : v.length ≤ 12) :
    Calls Try.prog 12 #[.pointer (some ⟨p, 0, none⟩), .int .i64 (t : Int), .slice vo v.length vc] w (DSend T2 W G p q s r t v w) := by
  obtain ⟨F1, F2, h⟩ := h
  refine (send_any w p s h.a hg t h0 (by omega) vo vc v hv hiv hl).mono ?_
  rintro e w' ⟨po, pc, F', rfl, hs, hst, hf, hx, hn⟩
  have hlt := hs.lt
  have hb := bytes_len hg (show t < 1000000 by omega) hiv hl
  have hr := hg.ref.1
  obtain ⟨k1, k2⟩ := h.turn (G' := blk po ++ G) hst hf hx (fun k hk => by
    rcases List.mem_append.1 hk with x | x
    · exact ⟨.inr (hn k x), hlt k x⟩
    · exact ⟨.inl x, Nat.lt_of_lt_of_le (h.gn k x).2 hf.size⟩)
  exact ⟨po, pc, _, rfl, rfl, ⟨hs, hb.2, hb.1, h1, by omega⟩, k1, k2, hf.size⟩
theorem duo_ack (h : Duo 58 T2 W G p q s r w) (hg : s.Good) (t : Int) (ht : MV.fits t) :
    Calls Try.prog 15 #[.pointer (some ⟨p, 0, none⟩), .int .i64 t] w fun e w' => e = .returned (.tuple #[]) ∧ Duo 58 T2 W G p q (s.ack t) r w' ∧ Kept G w w' := by
  obtain ⟨F1, F2, h⟩ := h
  refine (ack_any h.a hg t ht).mono ?_
  rintro e w' ⟨rfl, F', hst, hf, hx⟩
  exact ⟨rfl, h.turn hst hf hx (fun k hk => ⟨.inl hk, Nat.lt_of_lt_of_le (h.gn k hk).2 hf.size⟩)⟩
theorem duo_recv (h : Duo T1 59 W G p q s r w) (hg : r.Good) (po : Option Addr) (pc t k n : Nat) (D : List Nat) (hnl : n = (enc (varN t ++ varN k ++ D)).length) (hp : PktAt w po pc t k D) (hn : r.next ≤ (t : Int)) (B V : List (Int × Int))
    (hB : (k = 0 ∧ B = []) ∨ ∃ e ∈ r.L, e.tick + 1 = (k : Int) ∧ B = e.view) (hV : applyR B D = .ok V []) (hvl : V.length ≤ 12) :
    Calls Try.prog 13 #[.pointer (some ⟨q, 0, none⟩), .slice po n pc] w fun e w' => e = .returned (.tuple #[.int .i64 (t : Int), .int .i64 0]) ∧ Duo T1 59 W G p q s (r.put t V) w' ∧ Kept G w w' := by
  subst hnl
  obtain ⟨F1, F2, h⟩ := h
  refine (recv_ok w q r h.b hg po pc t k D hp hn B V hB hV hvl).mono ?_
  rintro e w' ⟨rfl, F', hst, hf, hx⟩
  have h' : DuoF 59 T1 W G q p r s F2 F1 w := ⟨h.b, h.a, fun x hx hy => h.d x hy hx, h.g2, h.g1, h.n2, h.n1, h.fr, h.gn⟩
  obtain ⟨k1, k2⟩ := h'.turn hst hf hx (fun k hk => ⟨.inl hk, Nat.lt_of_lt_of_le (h.gn k hk).2 hf.size⟩)
  exact ⟨rfl, k1.swap, k2⟩
theorem duo_stale (h : Duo T1 59 W G p q s r w) (po : Option Addr) (pc t k n : Nat) (D : List Nat) (hnl : n = (enc (varN t ++ varN k ++ D)).length) (hp : PktAt w po pc t k D) (hk : 0 < k) (hno : ∀ e ∈ r.L, e.tick + 1 ≠ (k : Int)) :
    Calls Try.prog 13 #[.pointer (some ⟨q, 0, none⟩), .slice po n pc] w fun e w' => e = .returned (.tuple #[.int .i64 0, .int .i64 24]) ∧ Duo T1 59 W G p q s r w' ∧ Kept G w w' := by
  subst hnl
  obtain ⟨F, hF⟩ := h.swap.st1
  exact (recv_stale w q r hF po pc t k D hp hk hno).mono fun e w' hw => ⟨hw.1, h.old hw.2⟩
theorem duo_view (h : Duo T1 59 W G p q s r w) (hg : r.Good) (k : Int) (hk : MV.fits k) :
    Calls Try.prog 17 #[.pointer (some ⟨q, 0, none⟩), .int .i64 k] w (ViewAt w r k) := by
  obtain ⟨F, b, cs, hc, -⟩ := h.swap.st1
  exact fview_any hc hg k hk
theorem duo_latest (h : Duo T1 59 W G p q s r w) (hg : r.Good) :
    Calls Try.prog 19 #[.pointer (some ⟨q, 0, none⟩)] w fun e w' => e = .returned (.int .i64 (r.next - 1)) ∧ w = w' := by
  obtain ⟨F, b, cs, hc, -⟩ := h.swap.st1
  exact latest_any hc hg
end
theorem Kept.seg {w w' : World} {G : List Nat} {e : TypeId} {n c sz : Nat} {ao : Option Addr} {xs : List Value} (h : Kept G w w') (hs : Seg w e sz ao n c xs) (hG : ∀ k ∈ blk ao, k ∈ G) : Seg w' e sz ao n c xs := hs.same fun k hk => h k (hG k hk)
theorem Kept.pkt {w w' : World} {G : List Nat} {po : Option Addr} {pc t k : Nat} {D : List Nat} (h : Kept G w w') (hp : PktAt w po pc t k D) (hG : ∀ k ∈ blk po, k ∈ G) : PktAt w' po pc t k D := ⟨h.seg hp.seg hG, hp.bytes, hp.len, hp.t6, hp.kt⟩

theorem put_mem {s : FS} (hg : s.Good) (t : Int) (v : List (Int × Int)) : (⟨t, v, false⟩ : FE) ∈ (s.put t v).L := by
  have h0 := hg.k0
  have h1 := hg.len
  show _ ∈ (s.L ++ ([⟨t, v, false⟩] : List FE)).drop (s.L.length + 1 - s.keep)
  rw [List.drop_append_of_le_length (by omega)]
  simp
theorem put_view {s : FS} (hg : s.Good) {t : Int} {v : List (Int × Int)} (ht : s.next ≤ t) (ht2 : t < 1000000) (hv : IsView v) (hl : v.length ≤ 12) {x : FE} (hx : x ∈ (s.put t v).L) (hxt : x.tick = t) : x.view = v := by
  have := (hg.put ht ht2 hv hl).uniq hx (put_mem hg t v) hxt
  rw [this]
theorem put_has {s : FS} (hg : s.Good) (t : Int) (v : List (Int × Int)) : (s.put t v).has t = true := List.any_eq_true.2 ⟨_, put_mem hg t v, by simp⟩
theorem next_no {s : FS} (hg : s.Good) {t : Int} (ht : s.next ≤ t) : s.has t = false := by
  unfold FS.has
  rw [List.any_eq_false]
  intro e he h
  have h1 := (hg.tick e he).2
  have h2 := beq_iff_eq.1 h
  omega

set_option maxRecDepth 100000 in
set_option maxHeartbeats 2000000 in
theorem send_order (w : World) (p : Nat) (s : FS) {F : List Nat} (h : IsSt 58 p s w F) (t : Int) (ht : t < s.next) (v : Value) :
    Calls Try.prog 12 #[.pointer (some ⟨p, 0, none⟩), .int .i64 t, v] w fun e w' => e = .returned (.tuple #[.slice none 0 0, .int .i64 5]) ∧ w = w' := by
  obtain ⟨b, cs, hc, -⟩ := h
  have c1 : w.cell? ⟨p, 1, none⟩ = some (.int .i64 s.next) := cell_blk hc.p 1
  clear hc
  go_enter Try.func12, Try.ntmps12
  go_wp2
  go_ret2
  exact ⟨rfl, rfl⟩
end Go.Proofs.Ytodfeaipoagphaa
/- Chapter 30: lives. -/
namespace Go.Proofs.Ytodfeaipoagphaa
open Go.RowKit

def lV1 : List (Int × Int) := [(1, 5)]
def lV2 : List (Int × Int) := [(1, 6), (2, 7)]
theorem lv1 : IsView lV1 := view_one (by unfold idxOk; decide) (by unfold bd64; decide)
theorem lv2 : IsView lV2 := ⟨by unfold Srt lV2; simp, by unfold lV2 idxOk; simp, by unfold lV2 bd64; simp⟩
/-- the stores of the example, as letters -/
theorem lv_facts : ∃ s0 s1 s2 s3 r2 : FS, s0 = fnew 4 ∧ s1 = s0.put ((3 : Nat) : Int) lV1 ∧ s2 = s1.ack 3 ∧ s3 = s2.put ((4 : Nat) : Int) lV2 ∧ r2 = s1.put ((4 : Nat) : Int) lV2 ∧
    (s0.Good ∧ s1.Good ∧ s2.Good ∧ s3.Good ∧ r2.Good) ∧ (s0.next = 0 ∧ s1.next = 4 ∧ s2.next = 4 ∧ s3.next = 5 ∧ r2.next = 5) ∧ (s0.ref = 0 ∧ s0.base = [] ∧ s2.ref = 4 ∧ s2.base = lV1) ∧
    (∃ e ∈ s1.L, e.tick + 1 = ((4 : Nat) : Int) ∧ lV1 = e.view) ∧ r2.has 5 = false := by
  have g0 : (fnew 4).Good := fnew_good (by omega) (by omega)
  have g1 := g0.put (t := ((3 : Nat) : Int)) (v := lV1) (by show (0 : Int) ≤ _; omega) (by omega) lv1 (by decide)
  have g2 := g1.ack 3
  have g3 := g2.put (t := ((4 : Nat) : Int)) (v := lV2) (by show (3 : Int) + 1 ≤ _; omega) (by omega) lv2 (by decide)
  have g4 := g1.put (t := ((4 : Nat) : Int)) (v := lV2) (by show (3 : Int) + 1 ≤ _; omega) (by omega) lv2 (by decide)
  refine ⟨_, _, _, _, _, rfl, rfl, rfl, rfl, rfl, ⟨g0, g1, g2, g3, g4⟩, ⟨rfl, rfl, rfl, rfl, rfl⟩, ⟨rfl, rfl, rfl, rfl⟩, ⟨⟨3, lV1, false⟩, put_mem g0 _ _, rfl, rfl⟩, next_no g4 (by show (4 : Int) + 1 ≤ 5; omega)⟩

theorem cells_two (w : World) (b : Nat) (h : w.heap[b]? = some (.cells #[.int .i64 1, .int .i64 6, .int .i64 2, .int .i64 7] 48 (0, 0))) : Seg w 48 2 (some ⟨b, 0, none⟩) lV2.length 2 (lV2.flatMap clV) := by
  have := Seg.one (w := w) b #[.int .i64 1, .int .i64 6, .int .i64 2, .int .i64 7] 48 2 2 h rfl (by unfold maxLen; omega)
  simpa [clV, lV2] using this

set_option maxRecDepth 100000 in
set_option maxHeartbeats 8000000 in
theorem lives30_any (w : World) : Calls Try.prog 16 #[] w fun e w' => e = .returned (.bool true) ∧ Fr [] w w' := by
  obtain ⟨s0, s1, s2, s3, r2, e0, e1, e2, e3, e4, ⟨g0, g1, g2, g3, g4⟩, ⟨n0, n1, n2, n3, n4⟩, ⟨q0, q1, q2, q3⟩, hbase, hno⟩ := lv_facts
  have HN1 : Hid (Calls Try.prog 9 #[.int .i64 4] w (NewTo 58 w 4)) := Lib.hid (newsender_any w 4 (by omega) (by omega))
  have HN2 := Lib.hid (fun u => (newreceiver_any u 4 (by omega) (by omega) : Calls Try.prog 10 #[.int .i64 4] u (NewTo 59 u 4)))
  have E0 := Lib.hid e0
  have E1 := Lib.hid e1
  have E2 := Lib.hid e2
  have E3 := Lib.hid e3
  have E4 := Lib.hid e4
  have G0 := Lib.hid g0
  have G1 := Lib.hid g1
  have G2 := Lib.hid g2
  have G3 := Lib.hid g3
  have G4 := Lib.hid g4
  have N0 := Lib.hid n0
  have N1 := Lib.hid n1
  have N2 := Lib.hid n2
  have N3 := Lib.hid n3
  have N4 := Lib.hid n4
  have Q0 := Lib.hid q0
  have Q1 := Lib.hid q1
  have Q2 := Lib.hid q2
  have Q3 := Lib.hid q3
  have HBS := Lib.hid hbase
  have HNO := Lib.hid hno
  clear e0 e1 e2 e3 e4 g0 g1 g2 g3 g4 n0 n1 n2 n3 n4 q0 q1 q2 q3 hbase hno
  go_enter Try.func16, Try.ntmps16
  go_wp2_with fail
  refine HN1.out.mono ?_
  rintro e w1 ⟨p, F1, rfl, hst, f1, hn1⟩
  rw [← E0.out] at hst
  have HST := Lib.hid hst
  have HF1 := Lib.hid f1
  have HNW := Lib.hid hn1
  clear hst f1 hn1 HN1
  go_wp2_with fail
  refine (HN2.out w1).mono ?_
  rintro e w2 hnew
  obtain ⟨q, rfl, hd⟩ := duo_new HST.out HNW.out HF1.out hnew
  rw [← E0.out] at hd
  have HD := Lib.hid hd
  clear hd hnew HST HNW HN2
  go_upto_region 5 with fail
  obtain ⟨x, hx⟩ : ∃ x, x = w2.heap.size := ⟨_, rfl⟩
  obtain ⟨w3, hw3⟩ : ∃ u, u = w2.alloc (.cells #[.int .i64 1, .int .i64 5] 48) := ⟨_, rfl⟩
  have hb3 : w3.heap[x]? = some (.cells #[.int .i64 1, .int .i64 5] 48 (0, 0)) := by rw [hw3, hx]; exact alloc_new _ _
  have hsz : x < w3.heap.size := lt_of_blk hb3
  have HD3 := Lib.hid (HD.out.grow (w' := w3) (G' := [x]) (by rw [hw3]; exact (Fr.refl [] _).alloc _) (fun k hk => by simp at hk; rw [hk]; exact ⟨.inr (Nat.le_of_eq hx.symm), hsz⟩))
  have HSE := Lib.hid (cells_one w3 x (1, 5) hb3 : Seg w3 48 2 (some ⟨x, 0, none⟩) lV1.length 1 (lV1.flatMap clV))
  have HS1 : Hid (Calls Try.prog 12 #[.pointer (some ⟨p, 0, none⟩), .int .i64 3, .slice (some ⟨x, 0, none⟩) 1 1] w3 (DSend 59 w [x] p q s0 s0 3 lV1 w3)) :=
    Lib.hid (duo_send HD3.out G0.out 3 (by rw [N0.out]; omega) (by omega) (some ⟨x, 0, none⟩) 1 lV1 HSE.out lv1 (by decide))
  have HX := Lib.hid hx
  have HW3 := Lib.hid hw3
  clear hx hw3 hb3 hsz HD
  go_wp2_with fail
  rw [← HX.out, ← HW3.out]
  refine HS1.out.mono ?_
  rintro e w4 ⟨po, pc, n, rfl, hnl, hp, hd, hk, hz⟩
  have HP := Lib.hid hp
  have HNL := Lib.hid hnl
  rw [show s0.put ((3 : Nat) : Int) lV1 = s1 from E1.out.symm] at hd
  have HD4 := Lib.hid (hd.sub (G' := blk po) (fun k hk => List.mem_append_left _ hk))
  clear hnl hp hd hk hz HS1 HD3 HSE
  have HL1 := Lib.hid (by have h := duo_latest HD4.out G0.out; rw [N0.out] at h; exact h : Calls Try.prog 19 #[.pointer (some ⟨q, 0, none⟩)] w4 fun e w' => e = .returned (.int .i64 (-1)) ∧ w4 = w')
  have HR1 : Hid (Calls Try.prog 13 #[.pointer (some ⟨q, 0, none⟩), .slice po n pc] w4 fun e w' => e = .returned (.tuple #[.int .i64 3, .int .i64 0]) ∧ Duo 58 59 w (blk po) p q s1 (s0.put ((3 : Nat) : Int) lV1) w' ∧ Kept (blk po) w4 w') :=
    Lib.hid (duo_recv HD4.out G0.out po pc 3 s0.ref n (diffL s0.base lV1) HNL.out HP.out (by rw [N0.out]; omega) [] lV1 (.inl ⟨Q0.out, rfl⟩) (by rw [Q1.out]; exact apply_diff view_nil lv1 (by decide) (by decide)) (by decide))
  rw [← E1.out] at HR1
  go_wp2_with fail
  refine HL1.out.mono ?_
  rintro e w' ⟨rfl, rfl⟩
  go_wp2_with fail
  refine HR1.out.mono ?_
  rintro e w5 ⟨rfl, hd, -⟩
  have HD5 := Lib.hid (hd.sub (G' := []) (by simp))
  clear hd HR1 HL1 HD4 HP HNL
  have HA : Hid (Calls Try.prog 15 #[.pointer (some ⟨p, 0, none⟩), .int .i64 3] w5 fun e w' => e = .returned (.tuple #[]) ∧ Duo 58 59 w [] p q (s1.ack 3) s1 w' ∧ Kept [] w5 w') := Lib.hid (duo_ack HD5.out G1.out 3 (by unfold MV.fits; omega))
  rw [← E2.out] at HA
  go_wp2_with fail
  refine HA.out.mono ?_
  rintro e w6 ⟨rfl, hd, -⟩
  have HD6 := Lib.hid hd
  clear hd HA HD5
  go_upto_region 9 with fail
  obtain ⟨y, hy⟩ : ∃ y, y = w6.heap.size := ⟨_, rfl⟩
  obtain ⟨w7, hw7⟩ : ∃ u, u = w6.alloc (.cells #[.int .i64 1, .int .i64 6, .int .i64 2, .int .i64 7] 48) := ⟨_, rfl⟩
  have hb7 : w7.heap[y]? = some (.cells #[.int .i64 1, .int .i64 6, .int .i64 2, .int .i64 7] 48 (0, 0)) := by rw [hw7, hy]; exact alloc_new _ _
  have hsz : y < w7.heap.size := lt_of_blk hb7
  have HD7 := Lib.hid (HD6.out.grow (w' := w7) (G' := [y]) (by rw [hw7]; exact (Fr.refl [] _).alloc _) (fun k hk => by simp at hk; rw [hk]; exact ⟨.inr (Nat.le_of_eq hy.symm), hsz⟩))
  have HS2 : Hid (Calls Try.prog 12 #[.pointer (some ⟨p, 0, none⟩), .int .i64 4, .slice (some ⟨y, 0, none⟩) 2 2] w7 (DSend 59 w [y] p q s2 s1 4 lV2 w7)) :=
    Lib.hid (duo_send HD7.out G2.out 4 (by rw [N2.out]; omega) (by omega) (some ⟨y, 0, none⟩) 2 lV2 (cells_two w7 y hb7) lv2 (by decide))
  have HY := Lib.hid hy
  have HW7 := Lib.hid hw7
  clear hy hw7 hb7 hsz HD6
  go_wp2_with fail
  rw [← HY.out, ← HW7.out]
  refine HS2.out.mono ?_
  rintro e w8 ⟨po2, pc2, n2, rfl, hnl, hp, hd, hk, hz⟩
  have HP := Lib.hid hp
  have HNL := Lib.hid hnl
  rw [show s2.put ((4 : Nat) : Int) lV2 = s3 from E3.out.symm] at hd
  have HD8 := Lib.hid (hd.sub (G' := blk po2) (fun k hk => List.mem_append_left _ hk))
  clear hnl hp hd hk hz HS2 HD7
  have HR2 : Hid (Calls Try.prog 13 #[.pointer (some ⟨q, 0, none⟩), .slice po2 n2 pc2] w8 fun e w' => e = .returned (.tuple #[.int .i64 4, .int .i64 0]) ∧ Duo 58 59 w (blk po2) p q s3 (s1.put ((4 : Nat) : Int) lV2) w' ∧ Kept (blk po2) w8 w') :=
    Lib.hid (duo_recv HD8.out G1.out po2 pc2 4 s2.ref n2 (diffL s2.base lV2) HNL.out HP.out (by rw [N1.out]; omega) lV1 lV2 (.inr (by rw [Q2.out]; exact HBS.out)) (by rw [Q3.out]; exact apply_diff lv1 lv2 (by decide) (by decide)) (by decide))
  rw [← E4.out] at HR2
  go_wp2_with fail
  refine HR2.out.mono ?_
  rintro e w9 ⟨rfl, hd, -⟩
  have HD9 := Lib.hid (hd.sub (G' := []) (by simp))
  clear hd HR2 HD8 HP HNL
  go_wp2_with fail
  refine (duo_view HD9.out G4.out 4 (by unfold MV.fits; omega)).mono ?_
  rintro e wa ⟨fa, ⟨hn, -⟩ | ⟨xe, hxe, hxt, bo, bc, rfl, hbs, -⟩⟩
  · have h := put_has G1.out ((4 : Nat) : Int) lV2
    rw [← E4.out] at h
    rw [show ((4 : Nat) : Int) = 4 from rfl, hn] at h
    cases h
  have hxv : xe.view = lV2 := by
    rw [E4.out] at hxe
    exact put_view G1.out (by rw [N1.out]; omega) (by omega) lv2 (by decide) hxe hxt
  rw [hxv] at hbs ⊢
  have HBA := Lib.hid (fun u (hu : Fr [] wa u) => (hbs.fr hu (by simp)).rd)
  have HDA := Lib.hid ((HD9.out.old fa).1)
  clear fa hxe hxt hbs hxv HD9
  go_wp2_with fail
  refine (duo_view HDA.out G4.out 5 (by unfold MV.fits; omega)).mono ?_
  rintro e wb ⟨fb, ⟨hn, rfl⟩ | ⟨xe, hxe, hxt, -⟩⟩
  case inr =>
    have h := HNO.out
    unfold FS.has at h
    rw [List.any_eq_false] at h
    exact absurd (beq_iff_eq.2 hxt) (h xe hxe)
  have HFB := Lib.hid fb
  have HDB := Lib.hid ((HDA.out.old fb).1)
  clear fb hn HDA
  obtain ⟨FS1, hFS1⟩ := HDB.out.st1
  have HOR := Lib.hid (send_order wb p s3 hFS1 4 (by rw [N3.out]; omega) (.slice none 0 0))
  clear hFS1
  go_wp2_with fail
  refine HOR.out.mono ?_
  rintro e w' ⟨rfl, rfl⟩
  have HEQ := Lib.hid (fun u (hu : Fr [] wb u) c (h : u.heap[c]? = some (.cells #[.int .i64 1, .int .i64 6, .int .i64 2, .int .i64 7] 48 (0, 0))) => (by
    have k := requal_any u bo (some ⟨c, 0, none⟩) bc 2 lV2 lV2 (HBA.out u (HFB.out.trans hu (by simp [Ext]))) (cells_two u c h).rd
    rw [decide_eq_true rfl] at k; exact k : Calls Try.prog 18 #[.slice bo lV2.length bc, .slice (some ⟨c, 0, none⟩) 2 2] u fun e w' => e = .returned (.bool true) ∧ Fr [] u w'))
  have HLA := Lib.hid (fun u (hu : Fr [] wb u) => (by have h := duo_latest (HDB.out.old hu).1 G4.out; rw [N4.out] at h; exact h : Calls Try.prog 19 #[.pointer (some ⟨q, 0, none⟩)] u fun e w' => e = .returned (.int .i64 4) ∧ u = w'))
  have HFIN := Lib.hid HDB.out.frame
  go_wp2_with (first | (go_at_call 18; refine (HEQ.out _ ((Fr.refl [] _).alloc _) _ (alloc_new _ _)).mono ?_; rintro e wc ⟨rfl, fc⟩; have FC := Lib.hid (((Fr.refl [] wb).alloc _).trans fc (by simp [Ext])); clear fc) | (go_at_call 19; refine (HLA.out _ FC.out).mono ?_; rintro e w' ⟨rfl, rfl⟩))
  go_ret
  exact ⟨rfl, HFIN.out.trans FC.out (by simp [Ext])⟩
end Go.Proofs.Ytodfeaipoagphaa
/- arenanetref01.Has. -/
namespace Go.Proofs.Ytodfeaipoagphaa
open Go.RowKit

set_option maxRecDepth 100000 in
set_option maxHeartbeats 1000000 in
theorem hasn_any (w : World) (ao : Option Addr) (cap : Nat) (l : List Int) (n : Int) (h : Rd w 1 ao l.length (ints l)) :
    Calls Try.prog 14 #[.slice ao l.length cap, .int .i64 n] w fun e w' => e = .returned (.bool (decide (n ∈ l))) ∧ w = w' := by
  have hlen : l.length ≤ 9223372036854775807 := by have := h.2.1; unfold maxLen at this; omega
  have H := Lib.hid h
  clear h
  go_enter Try.func14, Try.ntmps14
  go_wp2
  go_loop [5] (fun iv => ∃ i : Nat, i ≤ l.length ∧ iv = .int .i64 (i : Int) ∧ n ∉ l.take i) (fun iv => l.length - (intOf iv).toNat)
  case atStart => exact ⟨0, by omega, rfl, by simp⟩
  case round =>
    obtain ⟨i, hi, rfl, hni⟩ := hrel
    have HNI := Lib.hid hni
    clear hni
    by_cases hlt : i < l.length
    · obtain ⟨g, off, rfl, hg, hc⟩ := H.out.at (by omega)
      have cx : w.cell? ⟨g, off + i, none⟩ = some (.int .i64 l[i]) := by rw [hc i (by omega), ints_get, List.getElem?_eq_getElem hlt]; rfl
      obtain ⟨x, hx⟩ : ∃ x, x = l[i] := ⟨_, rfl⟩
      rw [← hx] at cx
      have HX := Lib.hid hx
      clear hc hx
      by_cases hxn : x = n
      · have hb : (x == n) = true := by simpa using hxn
        have HXN := Lib.hid hxn
        clear hxn
        go_wp2
        go_ret
        exact ⟨ret_bool (by have h : n ∈ l := by rw [← HXN.out, HX.out]; exact List.getElem_mem hlt
                            simp [h]), rfl⟩
      · have hb : (x == n) = false := by simpa using hxn
        have HXN := Lib.hid hxn
        clear hxn
        go_wp2
        go_round
        case rel =>
          refine ⟨i + 1, by omega, by go_num, ?_⟩
          rw [List.take_succ_eq_append_getElem hlt, List.mem_append, List.mem_singleton, ← HX.out]
          rintro (h | h)
          · exact HNI.out h
          · exact HXN.out h.symm
        case measure => simp [intOf]; omega
    · go_wp2
      go_ret
      exact ⟨ret_bool (by have h := HNI.out; rw [List.take_of_length_le (by omega)] at h; simp [h]), rfl⟩
end Go.Proofs.Ytodfeaipoagphaa
/- What the laws of chapter 30 share. -/
namespace Go.Proofs.Ytodfeaipoagphaa
open Go.RowKit

def actG (oo : Option Addr) (az : List AC) : List Nat := blk oo ++ az.flatMap fun a => blk a.vo
theorem ActsAt.same {w w' : World} {oo : Option Addr} {oc : Nat} {az : List AC} (h : ActsAt w oo oc az) (hk : ∀ k ∈ actG oo az, w'.heap[k]? = w.heap[k]?) : ActsAt w' oo oc az :=
  ⟨h.seg.same fun k hk2 => hk k (List.mem_append_left _ hk2), fun a ha => (h.views a ha).same fun k hk2 => hk k (List.mem_append_right _ (List.mem_flatMap.2 ⟨a, ha, hk2⟩))⟩
theorem ActsAt.lt {w : World} {oo : Option Addr} {oc : Nat} {az : List AC} (h : ActsAt w oo oc az) : ∀ k ∈ actG oo az, k < w.heap.size := by
  intro k hk
  rcases List.mem_append.1 hk with q | q
  · exact h.seg.lt k q
  · obtain ⟨a, ha, q⟩ := List.mem_flatMap.1 q
    exact (h.views a ha).lt k q
theorem ActsAt.at {w : World} {oo : Option Addr} {oc : Nat} {az : List AC} (h : ActsAt w oo oc az) {i : Nat} (hi : i < az.length) : ∃ g off, oo = some ⟨g, off, none⟩ ∧
    w.cell? ⟨g, off + i * 4, none⟩ = some (.int .i64 (az[i].t : Int)) ∧ w.cell? ⟨g, off + i * 4 + 1, none⟩ = some (.slice az[i].vo az[i].v.length az[i].vc) ∧ w.cell? ⟨g, off + i * 4 + 2, none⟩ = some (.int .i64 az[i].f) ∧ w.cell? ⟨g, off + i * 4 + 3, none⟩ = some (.int .i64 az[i].k) := by
  obtain ⟨g, off, ha, hg, hc⟩ := h.seg.rd.at (by omega)
  have key : ∀ j, j < 4 → w.cell? ⟨g, off + (i * 4 + j), none⟩ = (AC.cells az[i])[j]? := fun j hj => by
    rw [hc _ (by omega), flat_get AC.cells 4 (fun _ => rfl) az i j hi hj]
  exact ⟨g, off, ha, key 0 (by omega), key 1 (by omega), key 2 (by omega), key 3 (by omega)⟩

/-- the entries are views that were sent -/
def Hist (az : List AC) (i : Nat) (L : List FE) : Prop := ∀ e ∈ L, ∃ (j : Nat) (hj : j < az.length), j < i ∧ e.tick = (az[j].t : Int) ∧ e.view = az[j].v
theorem Hist.mono {az : List AC} {i i' : Nat} {L : List FE} (h : Hist az i L) (hi : i ≤ i') : Hist az i' L := fun e he => by
  obtain ⟨j, hj, h1, h2⟩ := h e he
  exact ⟨j, hj, by omega, h2⟩
theorem Hist.put {az : List AC} {i : Nat} {s : FS} (h : Hist az i s.L) (hi : i < az.length) : Hist az (i + 1) (s.put (az[i].t : Int) az[i].v).L := fun e he => by
  unfold FS.put at he
  have := List.mem_of_mem_drop he
  rcases List.mem_append.1 this with q | q
  · exact h.mono (by omega) e q
  · simp at q; exact ⟨i, hi, by omega, by rw [q], by rw [q]⟩
theorem Hist.ack {az : List AC} {i : Nat} {s : FS} {t : Int} (h : Hist az i s.L) : Hist az i (s.ack t).L := fun e he => by
  unfold FS.ack at he
  obtain ⟨x, hx, rfl⟩ := List.mem_map.1 he
  obtain ⟨j, hj, h1, h2, h3⟩ := h x hx
  refine ⟨j, hj, h1, ?_, ?_⟩
  · split <;> exact h2
  · split <;> exact h3
theorem acts_inj {az : List AC} {T : Int} (h : ActsOk T az) {i j : Nat} (hi : i < az.length) (hj : j < az.length) (e : az[i].t = az[j].t) : i = j := by
  have hp := List.pairwise_iff_getElem.1 h.1
  rcases Nat.lt_trichotomy i j with q | q | q
  · have := hp i j hi hj q; omega
  · exact q
  · have := hp j i hj hi q; omega
theorem Hist.same {az : List AC} {T : Int} (hok : ActsOk T az) {i : Nat} {L L' : List FE} (h : Hist az i L) (h' : Hist az i L') {e e' : FE} (he : e ∈ L) (he' : e' ∈ L') (ht : e.tick = e'.tick) : e.view = e'.view := by
  obtain ⟨j, hj, -, h1, h2⟩ := h e he
  obtain ⟨k, hk, -, h3, h4⟩ := h' e' he'
  have : j = k := acts_inj hok hj hk (by omega)
  subst this
  rw [h2, h4]
/-- a sender and a receiver ahead of step i -/
structure FX (az : List AC) (i : Nat) (s r : FS) : Prop where
  gs : s.Good
  gr : r.Good
  hs : Hist az i s.L
  hr : Hist az i r.L
  ns : ∀ (j : Nat) (hj : j < az.length), i ≤ j → s.next ≤ (az[j].t : Int)
  nr : ∀ (j : Nat) (hj : j < az.length), i ≤ j → r.next ≤ (az[j].t : Int)
section
variable {az : List AC} {i : Nat} {s r : FS}
theorem FX.start {k k' : Nat} (h0 : 1 ≤ k) (h1 : k ≤ 64) (h0' : 1 ≤ k') (h1' : k' ≤ 64) : FX az 0 (fnew k) (fnew k') :=
  ⟨fnew_good h0 h1, fnew_good h0' h1', by intro e he; simp [fnew] at he, by intro e he; simp [fnew] at he, fun j hj _ => by show (0 : Int) ≤ _; omega, fun j hj _ => by show (0 : Int) ≤ _; omega⟩
theorem acts_lt {T : Int} (hok : ActsOk T az) {j : Nat} (hi : i < az.length) (hj : j < az.length) (h : i + 1 ≤ j) : (az[i].t : Int) + 1 ≤ (az[j].t : Int) := by
  have := List.pairwise_iff_getElem.1 hok.1 i j hi hj (by omega)
  omega
theorem FX.put (h : FX az i s r) (hok : ActsOk 50 az) (hi : i < az.length) : FX az (i + 1) (s.put (az[i].t : Int) az[i].v) r := by
  have ha := hok.2 _ (List.getElem_mem hi)
  exact ⟨h.gs.put (h.ns i hi (Nat.le_refl _)) (by have := ha.t; omega) ha.v ha.l, h.gr, h.hs.put hi, h.hr.mono (by omega), fun j hj hij => acts_lt hok hi hj hij, fun j hj hij => h.nr j hj (by omega)⟩
theorem FX.put2 (h : FX az i s r) (hok : ActsOk 50 az) (hi : i < az.length) : FX az (i + 1) (s.put (az[i].t : Int) az[i].v) (r.put (az[i].t : Int) az[i].v) := by
  have ha := hok.2 _ (List.getElem_mem hi)
  have h1 := h.put hok hi
  exact ⟨h1.gs, h.gr.put (h.nr i hi (Nat.le_refl _)) (by have := ha.t; omega) ha.v ha.l, h1.hs, h.hr.put hi, h1.ns, fun j hj hij => acts_lt hok hi hj hij⟩
theorem FX.ack (h : FX az i s r) (t : Int) : FX az i (s.ack t) r := ⟨h.gs.ack t, h.gr, h.hs.ack, h.hr, h.ns, h.nr⟩
/-- what the receiver has of the base -/
theorem FX.base (h : FX az i s r) (hok : ActsOk 50 az) : (0 < s.ref ∧ ∀ e ∈ r.L, e.tick + 1 ≠ (s.ref : Int)) ∨ ((s.ref = 0 ∧ s.base = []) ∨ ∃ e ∈ r.L, e.tick + 1 = (s.ref : Int) ∧ s.base = e.view) := by
  by_cases h0 : s.ref = 0
  · exact .inr (.inl ⟨h0, h.gs.ref.2.1 h0⟩)
  · by_cases h1 : ∃ e ∈ r.L, e.tick + 1 = (s.ref : Int)
    · obtain ⟨e, he, h2⟩ := h1
      obtain ⟨e', he', -, h3, h4⟩ := h.gs.ref.2.2 (by omega)
      exact .inr (.inr ⟨e, he, h2, by rw [h4]; exact h.hs.same hok h.hr he' he (by omega)⟩)
    · exact .inl ⟨by omega, fun e he h2 => h1 ⟨e, he, h2⟩⟩
end
end Go.Proofs.Ytodfeaipoagphaa
/- FeedExact returns true. -/
namespace Go.Proofs.Ytodfeaipoagphaa
open Go.RowKit

set_option maxRecDepth 100000 in
set_option maxHeartbeats 16000000 in
theorem fexact_walk (w : World) (keep other : Int) (hkb : bounded keep) (hob : bounded other) (lo : Option Addr) (lc : Nat) (l : List Int) (hr : Rd w 1 lo l.length (ints l)) (hb : ∀ x ∈ l, bounded x) :
    Calls Try.prog 7 #[.int .i64 keep, .int .i64 other, .slice lo l.length lc] w fun e w' => e = .returned (.bool true) ∧ Fr [] w w' := by
  obtain ⟨k1, hk1, -, hA1⟩ := around_nat keep 6 hkb (by omega) (by omega)
  obtain ⟨k2, hk2, -, hA2⟩ := around_nat other 6 hob (by omega) (by omega)
  have HA1 := Lib.hid hA1
  have HA2 := Lib.hid hA2
  have HAC := Lib.hid (fun u (hu : Fr [] w u) => acts_any u lo lc l (hr.fr hu (by simp)) hb)
  obtain ⟨K1, hK1⟩ : ∃ K, K = 1 + k1 := ⟨_, rfl⟩
  obtain ⟨K2, hK2⟩ : ∃ K, K = 1 + k2 := ⟨_, rfl⟩
  have wk1 : IntKind.i64.wrap (1 + (k1 : Int)) = (K1 : Int) := by rw [IntWalk.i64_in _ (by omega)]; omega
  have wk2 : IntKind.i64.wrap (1 + (k2 : Int)) = (K2 : Int) := by rw [IntWalk.i64_in _ (by omega)]; omega
  have HN1 := Lib.hid (fun u => newsender_any u K1 (by omega) (by omega))
  have HN2 := Lib.hid (fun u => newreceiver_any u K2 (by omega) (by omega))
  have HFX := Lib.hid (fun az => (FX.start (by omega) (by omega) (by omega) (by omega) : FX az 0 (fnew K1) (fnew K2)))
  clear hA1 hA2 hr hb hK1 hK2 hk1 hk2
  go_enter Try.func7, Try.ntmps7
  go_wp2_with (go_at_call 8; refine (HA1.out _).mono ?_; rintro e w' ⟨rfl, rfl⟩)
  refine (HN1.out w).mono ?_
  rintro e w1 ⟨p, F1, rfl, hst, f1, hn1⟩
  have HST := Lib.hid hst
  have HF1 := Lib.hid f1
  have HNW := Lib.hid hn1
  clear hst f1 hn1 HN1 wk1
  go_wp2_with (go_at_call 8; refine (HA2.out _).mono ?_; rintro e w' ⟨rfl, rfl⟩)
  refine (HN2.out w1).mono ?_
  rintro e w2 hnew
  obtain ⟨q, rfl, hd⟩ := duo_new HST.out HNW.out HF1.out hnew
  have HD := Lib.hid hd
  clear hd hnew HST HNW HN2 HF1 wk2
  go_wp2_with fail
  refine (HAC.out w2 HD.out.frame).mono ?_
  rintro e w3 ⟨az, oo, oc, rfl, haz, hok, hat, hf3, hno, hnv⟩
  have HOK := Lib.hid hok
  have HAT := Lib.hid hat
  have HD3 := Lib.hid (HD.out.grow (G' := actG oo az) hf3 (fun k hk => ⟨by
    rcases List.mem_append.1 hk with x | x
    · exact .inr (hno k x)
    · obtain ⟨a, ha, x⟩ := List.mem_flatMap.1 x
      exact .inr (hnv a ha k x), hat.lt k hk⟩))
  clear hok hat hf3 hno hnv HAC HD
  go_wp2_with fail
  go_loopw [10] (fun iv wr => ∃ (i : Nat) (s r : FS), iv = .int .i64 (i : Int) ∧ i ≤ az.length ∧ FX az i s r ∧ ActsAt wr oo oc az ∧ Duo 58 59 w (actG oo az) p q s r wr) (fun iv _ => az.length - (intOf iv).toNat)
  case atStart => exact ⟨0, _, _, rfl, by omega, HFX.out az, HAT.out, HD3.out⟩
  case round =>
    clear HAT HD3
    obtain ⟨i, s, r, rfl, hi, hfx, hat, hd⟩ := hrel
    have HX := Lib.hid hfx
    have HAT := Lib.hid hat
    have HD := Lib.hid hd
    clear hfx hat hd
    by_cases hil : i < az.length
    · have hlt : (i : Int) < (az.length : Int) := by omega
      have wi : IntKind.i64.wrap ((i : Int) + 1) = (i : Int) + 1 := IntWalk.i64_in _ (by omega)
      obtain ⟨g, off, hoo, c0, c1, c2, c3⟩ := HAT.out.at hil
      have hao := HOK.out.2 _ (List.getElem_mem hil)
      have HSV := Lib.hid (HAT.out.views _ (List.getElem_mem hil))
      have HVG := Lib.hid (fun k (hk : k ∈ blk az[i].vo) => (List.mem_append_right _ (List.mem_flatMap.2 ⟨az[i], List.getElem_mem hil, hk⟩) : k ∈ actG oo az))
      have HS0 := Lib.hid (HX.out.ns i hil (Nat.le_refl _))
      have HR0 := Lib.hid (HX.out.nr i hil (Nat.le_refl _))
      have HX1 := Lib.hid (HX.out.put HOK.out hil)
      have HX2 := Lib.hid (HX.out.put2 HOK.out hil)
      have HBS := Lib.hid (HX.out.base HOK.out)
      have HGS := Lib.hid HX.out.gs
      have HGR := Lib.hid HX.out.gr
      obtain ⟨a, ha⟩ : ∃ a, a = az[i] := ⟨_, rfl⟩
      rw [← ha] at c0 c1 c2 c3 hao HSV HVG HS0 HR0 HX1 HX2
      obtain ⟨t, ht⟩ : ∃ t, t = a.t := ⟨_, rfl⟩
      obtain ⟨v, hv⟩ : ∃ v, v = a.v := ⟨_, rfl⟩
      obtain ⟨vo, hvo⟩ : ∃ v, v = a.vo := ⟨_, rfl⟩
      obtain ⟨vc, hvc⟩ : ∃ v, v = a.vc := ⟨_, rfl⟩
      obtain ⟨f, hf⟩ : ∃ v, v = a.f := ⟨_, rfl⟩
      obtain ⟨ak, hak⟩ : ∃ v, v = a.k := ⟨_, rfl⟩
      have ht50 : t ≤ 50 := by have := hao.t; omega
      have HIV := Lib.hid hao.v
      have hvl := hao.l
      have hk0 := hao.k0
      have hk1 := hao.k1
      rw [← ht, ← hak] at hk1
      rw [← hak] at hk0
      rw [← hv] at HIV hvl
      rw [← ht] at c0 HS0 HR0 HX1 HX2
      rw [← hv] at HX1 HX2
      rw [← hv, ← hvo, ← hvc] at c1 HSV
      rw [← hvo] at HVG
      rw [← hf] at c2
      rw [← hak] at c3
      have HOO := Lib.hid hoo
      clear ha ht hv hvo hvc hf hak hao HX
      subst hoo
      go_upto_region 10 with fail
      obtain ⟨x, hx⟩ : ∃ x, x = wr.heap.size := ⟨_, rfl⟩
      obtain ⟨w4, hw4⟩ : ∃ u, u = wr.alloc (.cells #[.int .i64 (t : Int), .slice vo v.length vc, .int .i64 f, .int .i64 ak] 32) := ⟨_, rfl⟩
      rw [← hx, ← hw4]
      have HB4 := Lib.hid (blk_alloc hw4 hx)
      have hf4 := fr_alloc hw4
      have HAT4 := Lib.hid (HAT.out.same (fun k hk => hf4.block k (HAT.out.lt k hk) (by simp)))
      have HSV4 := Lib.hid (HSV.out.fr hf4 (by simp))
      have HD4 := Lib.hid (HD.out.grow (G' := x :: actG (some ⟨g, off, none⟩) az) hf4 (fun k hk => by
        rcases List.mem_cons.1 hk with q | q
        · rw [q]; exact ⟨.inr (by rw [hx]; exact Nat.le_refl _), lt_of_blk HB4.out⟩
        · exact ⟨.inl q, Nat.lt_of_lt_of_le (HD.out.gnew k q).2 hf4.size⟩))
      have d0 : w4.cell? ⟨x, 0, none⟩ = some (.int .i64 (t : Int)) := cell_blk HB4.out 0
      have d1 : w4.cell? ⟨x, 1, none⟩ = some (.slice vo v.length vc) := cell_blk HB4.out 1
      have HSD := Lib.hid (duo_send HD4.out HGS.out t HS0.out (by omega) vo vc v HSV4.out HIV.out hvl)
      clear hx hw4 hf4 c0 c1 c2 c3 hlt
      go_wp2_with fail
      refine HSD.out.mono ?_
      rintro e w5 ⟨po, pc, n, rfl, hnl, hp, hd, hk, hz⟩
      have HP := Lib.hid hp
      have HNL := Lib.hid hnl
      have HD5 := Lib.hid hd
      have hb5 := (hk x (by simp)).trans HB4.out
      have HAT5 := Lib.hid (HAT4.out.same (fun k hk2 => hk k (List.mem_cons_of_mem _ hk2)))
      have HSV5 := Lib.hid (hk.seg HSV4.out (fun k hk2 => List.mem_cons_of_mem _ (HVG.out k hk2)))
      have HGI := Lib.hid (fun k (hk2 : k ∈ x :: actG (some ⟨g, off, none⟩) az) => (List.mem_append_right _ hk2 : k ∈ blk po ++ (x :: actG (some ⟨g, off, none⟩) az)))
      have e2 : w5.cell? ⟨x, 2, none⟩ = some (.int .i64 f) := cell_blk hb5 2
      have HB5 := Lib.hid hb5
      clear hnl hp hd hk hz hb5 d0 d1 HSD
      go_upto_if 57 with fail
      go_cut [] (fun wc => ∃ r', FX az (i + 1) (s.put (t : Int) v) r' ∧ Duo 58 59 w (x :: actG (some ⟨g, off, none⟩) az) p q (s.put (t : Int) v) r' wc ∧ wc.heap[x]? = some (.cells #[.int .i64 (t : Int), .slice vo v.length vc, .int .i64 f, .int .i64 ak] 32 (0, 0)) ∧ ActsAt wc (some ⟨g, off, none⟩) oc az)
      case first =>
        by_cases hfp : 0 < f
        · have hft : MV.fits (t : Int) := by unfold MV.fits; omega
          rcases HBS.out with ⟨hs1, hs2⟩ | hB
          · have HSTL := Lib.hid (duo_stale HD5.out po pc t s.ref n (diffL s.base v) HNL.out HP.out hs1 hs2)
            clear hs1 hs2
            go_wp2_with fail
            refine HSTL.out.mono ?_
            rintro e w6 ⟨rfl, hd6, hk6⟩
            have HD6 := Lib.hid hd6
            have hb6 := (hk6 x (by simp)).trans HB5.out
            have HAT6 := Lib.hid (HAT5.out.same (fun k hk2 => hk6 k (HGI.out k (List.mem_cons_of_mem _ hk2))))
            have HB6 := Lib.hid hb6
            have d6 : w6.cell? ⟨x, 0, none⟩ = some (.int .i64 (t : Int)) := cell_blk hb6 0
            clear hd6 hk6 hb6 HSTL e2
            go_wp2_with fail
            refine (duo_view HD6.out HGR.out (t : Int) hft).mono ?_
            rintro e w7 ⟨f7, ⟨-, rfl⟩ | ⟨xe, hxe, hxt, -⟩⟩
            case inr =>
              have h := next_no HGR.out HR0.out
              unfold FS.has at h
              rw [List.any_eq_false] at h
              exact absurd (beq_iff_eq.2 hxt) (h xe hxe)
            have HD7 := Lib.hid ((HD6.out.old f7).1)
            have HB7 := Lib.hid (f7.blk HB6.out (by simp))
            have HAT7 := Lib.hid (HAT6.out.same (fun k hk2 => f7.block k (HAT6.out.lt k hk2) (by simp)))
            clear f7
            go_wp2_with fail
            go_meet
            exact ⟨r, HX1.out, HD7.out.sub HGI.out, HB7.out, HAT7.out⟩
          · have HRC := Lib.hid (duo_recv HD5.out HGR.out po pc t s.ref n (diffL s.base v) HNL.out HP.out HR0.out s.base v hB (apply_diff HGS.out.base.1 HIV.out (by have := HGS.out.base.2; omega) (by omega)) hvl)
            clear hB
            go_wp2_with fail
            refine HRC.out.mono ?_
            rintro e w6 ⟨rfl, hd6, hk6⟩
            have HD6 := Lib.hid hd6
            have hb6 := (hk6 x (by simp)).trans HB5.out
            have HAT6 := Lib.hid (HAT5.out.same (fun k hk2 => hk6 k (HGI.out k (List.mem_cons_of_mem _ hk2))))
            have HSV6 := Lib.hid (hk6.seg HSV5.out (fun k hk2 => HGI.out k (List.mem_cons_of_mem _ (HVG.out k hk2))))
            have HB6 := Lib.hid hb6
            have d6 : w6.cell? ⟨x, 0, none⟩ = some (.int .i64 (t : Int)) := cell_blk hb6 0
            clear hd6 hk6 hb6 HRC e2
            go_wp2_with fail
            refine (duo_view HD6.out HX2.out.gr (t : Int) hft).mono ?_
            rintro e w7 ⟨f7, ⟨hn, -⟩ | ⟨xe, hxe, hxt, bo, bc, rfl, hbs, -⟩⟩
            · rw [put_has HGR.out] at hn; cases hn
            have hxv := put_view HGR.out HR0.out (by omega) HIV.out hvl hxe hxt
            rw [hxv] at hbs ⊢
            have HD7 := Lib.hid ((HD6.out.old f7).1)
            have hb7 := f7.blk HB6.out (by simp)
            have HB7 := Lib.hid hb7
            have HAT7 := Lib.hid (HAT6.out.same (fun k hk2 => f7.block k (HAT6.out.lt k hk2) (by simp)))
            have d7 : w7.cell? ⟨x, 0, none⟩ = some (.int .i64 (t : Int)) := cell_blk hb7 0
            have d71 : w7.cell? ⟨x, 1, none⟩ = some (.slice vo v.length vc) := cell_blk hb7 1
            have hxx : ((t : Int) != (t : Int)) = false := by simp
            have HEQ := Lib.hid (by have h := equal_any w7 bo vo bc vc v v hbs.rd (HSV6.out.fr f7 (by simp)).rd; rw [decide_eq_true rfl] at h; exact h)
            clear f7 hbs hxe hxt hxv hb7 d6
            go_wp2_with (go_at_call 23; refine HEQ.out.mono ?_; rintro e w8 ⟨rfl, f8⟩; have HF8 := Lib.hid f8; clear f8)
            go_meet
            exact ⟨r.put (t : Int) v, HX2.out, ((HD7.out.old HF8.out).1).sub HGI.out, HF8.out.blk HB7.out (by simp), HAT7.out.same (fun k hk2 => HF8.out.block k (HAT7.out.lt k hk2) (by simp))⟩
        · go_wp2_with fail
          go_meet
          exact ⟨r, HX1.out, HD5.out.sub HGI.out, HB5.out, HAT5.out⟩
      case rest =>
        obtain ⟨w6, rfl⟩ : ∃ u : World, u = wc := ⟨_, rfl⟩
        obtain ⟨r', hfx, hd, hb6, hat⟩ := hcut
        have HFX := Lib.hid hfx
        have HD6 := Lib.hid (hd.sub (G' := actG (some ⟨g, off, none⟩) az) (fun k hk => List.mem_cons_of_mem _ hk))
        have HAT6 := Lib.hid hat
        have d3 : w6.cell? ⟨x, 3, none⟩ = some (.int .i64 ak) := cell_blk hb6 3
        have HAK := Lib.hid (by
          have h := duo_ack HD6.out HFX.out.gs ak (by unfold MV.fits; omega)
          exact h)
        clear hfx hd hb6 hat e2
        by_cases hak0 : 0 ≤ ak
        · go_wp2_with fail
          refine HAK.out.mono ?_
          rintro e w7 ⟨rfl, hd7, hk7⟩
          have HD7 := Lib.hid hd7
          have HAT7 := Lib.hid (HAT6.out.same (fun k hk2 => hk7 k hk2))
          clear hd7 hk7 d3
          go_wp2_with fail
          go_roundw
          case rel => exact ⟨i + 1, _, r', by go_num, by omega, HFX.out.ack ak, HAT7.out, HD7.out⟩
          case measure => simp [intOf]; omega
        · go_wp2_with fail
          go_roundw
          case rel => exact ⟨i + 1, _, r', by go_num, by omega, HFX.out, HAT6.out, HD6.out⟩
          case measure => simp [intOf]; omega
    · have hlt : ¬ (i : Int) < (az.length : Int) := by omega
      go_wp2_with fail
      refine (lives30_any _).mono ?_
      rintro e wL ⟨rfl, fL⟩
      have HL := Lib.hid (HD.out.frame.trans fL (by simp [Ext]))
      clear fL
      go_wp2_with fail
      go_ret
      exact ⟨rfl, HL.out⟩
end Go.Proofs.Ytodfeaipoagphaa
