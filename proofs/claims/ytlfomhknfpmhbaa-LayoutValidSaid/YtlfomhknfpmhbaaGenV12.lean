/- What layout.Validate says of a generated setup whose bodies' shapes are replaced; a list of structs with one cell changed. -/
import Derived.Test.YtlfomhknfpmhbaaShape12
import Derived.Test.YtlfomhknfpmhbaaIndices
namespace Go.Proofs.Ytlfomhknfpmhbaa
open Go.RowKit

theorem flat_set {α : Type} (f : α → List Value) (k : Nat) (hk : ∀ x, (f x).length = k) : ∀ (l : List α) (i j : Nat) (x' : α) (v : Value) (hi : i < l.length), j < k → f x' = (f l[i]).set j v → (l.set i x').flatMap f = (l.flatMap f).set (i * k + j) v
  | [], _, _, _, _, hi, _, _ => by simp at hi
  | x :: l, 0, j, x', v, _, hj, h => by
    rw [List.set_cons_zero, List.flatMap_cons, List.flatMap_cons, Nat.zero_mul, Nat.zero_add, List.set_append_left _ _ (by rw [hk]; exact hj)]
    rw [h]; rfl
  | x :: l, i + 1, j, x', v, hi, hj, h => by
    have hi' : i < l.length := by simpa using hi
    rw [List.set_cons_succ, List.flatMap_cons, List.flatMap_cons, List.set_append_right _ _ (by rw [hk, Nat.add_mul]; omega), hk, show (i + 1) * k + j - k = i * k + j by rw [Nat.add_mul]; omega]
    rw [flat_set f k hk l i j x' v hi' hj (by simpa using h)]

theorem Seg.ne_ty {w : World} {e : TypeId} {size : Nat} {ao : Option Addr} {n cap : Nat} {xs : List Value} (h : Seg w e size ao n cap xs) {g : Nat} {c : Array Value} {T : TypeId} {f : Nat × Nat} (hg : w.heap[g]? = some (.cells c T f)) (hT : T ≠ e) : g ∉ blk ao := by
  rcases h.2.2.2 with ⟨rfl, _⟩ | ⟨g', off, cur, rfl, hg', _⟩
  · simp [blk]
  · simp only [blk, List.mem_singleton]
    intro e'
    subst e'
    rw [hg] at hg'
    injection hg' with hg'
    injection hg' with _ h2
    exact hT h2

/-- a generated shape is valid -/
theorem ShapeAt.valid {w : World} {rad : Int} {po : Option Addr} {pn pc : Nat} (h : ShapeAt w rad po pn pc) : ∃ l : List (Int × Int), l.length = pn ∧ l.length ≤ 4 ∧ Rd w 2 po l.length (vecs l) ∧ shB rad l = true := by
  rcases h with ⟨rfl, rfl, rfl, h1, h2⟩ | ⟨q, r, hq, h1, h2, rfl, h3, h4⟩
  · refine ⟨[], rfl, by simp, ⟨rfl, by simp, .inl rfl⟩, ?_⟩
    unfold shB
    rw [List.length_nil, if_pos rfl, decide_eq_true (by omega), decide_eq_true (by omega)]; rfl
  · refine ⟨polyOf q r, h4.symm, by rcases hq with rfl | rfl | rfl <;> simp [polyOf], ?_, poly_good hq h1 h2⟩
    rw [← h4]
    exact h3.rd
theorem ShapeAt.calls {w : World} {rad : Int} {po : Option Addr} {pn pc : Nat} (h : ShapeAt w rad po pn pc) :
    Calls Try.prog 25 #[.agg #[.int .i64 rad, .slice po pn pc]] w fun e w' => e = .returned (.int .i64 0) ∧ Fr [] w w' := by
  obtain ⟨l, rfl, hl, hr, hv⟩ := h.valid
  have hh := shape_any w rad po pc l (by omega) hr
  rw [(shV_zero rad l).2 hv] at hh
  exact hh

theorem gen_nums {w w1 : World} {s : St} {bodies : List Bd} {doors : List (Int × Int)} (h : SetupAt w w1 s bodies doors) : numsB s = true := by
  obtain ⟨h1, h2, h3, h4, h5, h6, h7, h8, h9, h10, h11, h12, h13⟩ := h.num
  have hn := h.nb
  have hp := h.pn
  have hb := h.b5
  unfold numsB n1 n2 n3 n4 n5 n6 n7 n8 inB
  simp only [Bool.and_eq_true, decide_eq_true_eq]
  omega
theorem gen_proper {w w1 : World} {s : St} {bodies : List Bd} {doors : List (Int × Int)} (h : SetupAt w w1 s bodies doors) : properB s.x0 s.y0 s.x1 s.y1 = true := by
  obtain ⟨h1, h2, h3, h4, h5, h6, h7, h8, h9, h10, h11, h12, h13⟩ := h.num
  rw [h10, h11, h12, h13]
  decide
theorem gen_valid {w w1 : World} {s : St} {bodies : List Bd} {doors : List (Int × Int)} (h : SetupAt w w1 s bodies doors) (bodies' : List Bd) (shs : List Int) (hg : ∀ d ∈ bodies', goodB d) :
    validB s bodies' shs roomsL doors = if shs.all (fun e => e == 0) then 0 else 10 := by
  obtain ⟨h1, h2, h3, h4, h5, h6, h7, h8, h9, h10, h11, h12, h13⟩ := h.num
  have ha : bodies'.all (fun d => bodyB d s.x0 s.y0 s.x1 s.y1) = true := by
    rw [List.all_eq_true]
    intro d hd
    rw [h10, h11, h12, h13]
    exact hg d hd
  unfold validB
  rw [gen_nums h, gen_proper h, h.mok, ha]
  rfl

theorem codes_all (n k : Nat) (v : Int) (hk : k < n) : ((List.replicate n (0 : Int)).set k v).all (fun e => e == 0) = (v == 0) := by
  rw [List.set_eq_take_append_cons_drop, if_pos (by simpa using hk)]
  simp

/-- the bodies with one shape replaced -/
def shaped (bodies : List Bd) (k : Nat) (d : Bd) (rad : Int) (po : Option Addr) (pn pc : Nat) : List Bd := bodies.set k { d with rad := rad, po := po, pn := pn, pc := pc }
theorem shaped_len (bodies : List Bd) (k : Nat) (d : Bd) (rad : Int) (po : Option Addr) (pn pc : Nat) : (shaped bodies k d rad po pn pc).length = bodies.length := by simp [shaped]
theorem shaped_cells (bodies : List Bd) (k : Nat) (hk : k < bodies.length) (d : Bd) (hd : d = bodies[k]) (rad : Int) (po : Option Addr) (pn pc : Nat) :
    (shaped bodies k d rad po pn pc).flatMap Bd.cells = ((bodies.flatMap Bd.cells).set (k * 9) (.int .i64 rad)).set (k * 9 + 1) (.slice po pn pc) := by
  subst hd
  have e : shaped bodies k bodies[k] rad po pn pc = (bodies.set k { bodies[k] with rad := rad }).set k { bodies[k] with rad := rad, po := po, pn := pn, pc := pc } := by
    unfold shaped
    rw [List.set_set]
  rw [e, flat_set Bd.cells 9 (fun _ => rfl) _ k 1 _ (.slice po pn pc) (by simpa using hk) (by omega) (by simp [Bd.cells]), flat_set Bd.cells 9 (fun _ => rfl) bodies k 0 _ (.int .i64 rad) hk (by omega) (by simp [Bd.cells]), Nat.add_zero]
theorem shaped_good {bodies : List Bd} {k : Nat} {hk : k < bodies.length} {d : Bd} {hd : d = bodies[k]} {rad : Int} {po : Option Addr} {pn pc : Nat} (h : ∀ d ∈ bodies, goodB d) : ∀ d' ∈ shaped bodies k d rad po pn pc, goodB d' := by
  intro d' hd'
  rcases List.mem_or_eq_of_mem_set hd' with h1 | h1
  · exact h d' h1
  · have hg := h d (by rw [hd]; exact List.getElem_mem hk)
    rw [h1]
    exact hg

/-! ### a setup whose bodies' polygons are known -/
structure SK (w : World) (s : St) (bodies : List Bd) (polys : List (List (Int × Int))) (rooms : List Bx) (doors : List (Int × Int)) : Prop where
  map : MapAt w s rooms doors
  bod : BodiesAt w s bodies
  pl : polys.length = bodies.length
  sh : ∀ (j : Nat) (h1 : j < bodies.length) (h2 : j < polys.length), bodies[j].pn = polys[j].length ∧ polys[j].length ≤ 1000000 ∧ Rd w 2 bodies[j].po polys[j].length (vecs polys[j])
theorem SK.old {w w' : World} {s : St} {bodies : List Bd} {polys : List (List (Int × Int))} {rooms : List Bx} {doors : List (Int × Int)} (h : SK w s bodies polys rooms doors) (hf : Fr [] w w') : SK w' s bodies polys rooms doors :=
  ⟨h.map.old hf, h.bod.old hf, h.pl, fun j h1 h2 => ⟨(h.sh j h1 h2).1, (h.sh j h1 h2).2.1, (h.sh j h1 h2).2.2.fr hf (by simp)⟩⟩

def codes (bodies : List Bd) (polys : List (List (Int × Int))) : List Int := List.zipWith (fun d l => shV d.rad l) bodies polys
theorem SK.valid {w : World} {s : St} {bodies : List Bd} {polys : List (List (Int × Int))} {rooms : List Bx} {doors : List (Int × Int)} (h : SK w s bodies polys rooms doors) :
    Calls Try.prog 13 #[s.val] w fun e w' => e = .returned (.int .i64 (validB s bodies (codes bodies polys) rooms doors)) ∧ Fr [] w w' := by
  have hp := h.pl
  refine validate_any w s bodies (codes bodies polys) rooms doors h.map h.bod (by simp [codes]; omega) (fun j h1 h2 u hu => ?_)
  obtain ⟨e1, e2, e3⟩ := h.sh j h1 (by omega)
  have hh := shape_any u bodies[j].rad bodies[j].po bodies[j].pc (polys[j]'(by omega)) e2 (e3.fr hu (by simp))
  have ec : (codes bodies polys)[j] = shV bodies[j].rad (polys[j]'(by omega)) := by simp [codes]
  rw [ec]
  unfold Bd.shape
  rw [e1]
  exact hh

theorem list_choose {α β : Type} [Inhabited β] {p : α → β → Prop} : ∀ (l : List α), (∀ x ∈ l, ∃ y, p x y) → ∃ ys : List β, ys.length = l.length ∧ ∀ (j : Nat) (h1 : j < l.length) (h2 : j < ys.length), p l[j] ys[j]
  | [], _ => ⟨[], rfl, fun j h1 => by simp at h1⟩
  | x :: l, h => by
    obtain ⟨y, hy⟩ := h x (by simp)
    obtain ⟨ys, h1, h2⟩ := list_choose l fun x hx => h x (by simp [hx])
    refine ⟨y :: ys, by simp [h1], fun j k1 k2 => ?_⟩
    cases j with
    | zero => exact hy
    | succ j => exact h2 j (by simpa using k1) (by simpa using k2)
theorem SetupAt.sk {w w1 : World} {s : St} {bodies : List Bd} {doors : List (Int × Int)} (h : SetupAt w w1 s bodies doors) : ∃ polys, SK w1 s bodies polys roomsL doors ∧ ∀ (j : Nat) (h1 : j < bodies.length) (h2 : j < polys.length), shB bodies[j].rad polys[j] = true := by
  obtain ⟨polys, hl, hp⟩ := list_choose (p := fun (d : Bd) (l : List (Int × Int)) => l.length = d.pn ∧ l.length ≤ 4 ∧ Rd w1 2 d.po l.length (vecs l) ∧ shB d.rad l = true) bodies (fun d hd => (h.good d hd).2.valid)
  exact ⟨polys, ⟨h.map, ⟨h.nb, h.seg.rd⟩, hl, fun j h1 h2 => ⟨(hp j h1 h2).1.symm, by have := (hp j h1 h2).2.1; omega, (hp j h1 h2).2.2.1⟩⟩, fun j h1 h2 => (hp j h1 h2).2.2.2⟩
theorem codes_zero {bodies : List Bd} {polys : List (List (Int × Int))} (hl : polys.length = bodies.length) (h : ∀ (j : Nat) (h1 : j < bodies.length) (h2 : j < polys.length), shB bodies[j].rad polys[j] = true) : (codes bodies polys).all (fun e => e == 0) = true := by
  rw [List.all_eq_true]
  intro x hx
  obtain ⟨j, hj, e⟩ := List.mem_iff_getElem.1 hx
  have hj' : j < bodies.length := by simp [codes] at hj; omega
  have e2 : (codes bodies polys)[j] = shV bodies[j].rad (polys[j]'(by omega)) := by simp [codes]
  rw [e2, (shV_zero _ _).2 (h j hj' (by omega))] at e
  rw [← e]; rfl
theorem codes_one {bodies : List Bd} {polys : List (List (Int × Int))} (hl : polys.length = bodies.length) (k : Nat) (hk : k < bodies.length) (h : ∀ (j : Nat) (h1 : j < bodies.length) (h2 : j < polys.length), j ≠ k → shB bodies[j].rad polys[j] = true) :
    (codes bodies polys).all (fun e => e == 0) = (shV bodies[k].rad (polys[k]'(by omega)) == 0) := by
  have e2 : ∀ (j : Nat) (hj' : j < bodies.length) (h2 : j < (codes bodies polys).length), (codes bodies polys)[j] = shV bodies[j].rad (polys[j]'(by omega)) := fun j _ _ => by simp [codes]
  have hcl : (codes bodies polys).length = bodies.length := by simp [codes]; omega
  cases hv : shV bodies[k].rad (polys[k]'(by omega)) == 0 with
  | false =>
    rw [List.all_eq_false]
    refine ⟨_, List.getElem_mem (by omega : k < (codes bodies polys).length), ?_⟩
    rw [e2 k hk, hv]; simp
  | true =>
    rw [List.all_eq_true]
    intro x hx
    obtain ⟨j, hj, e⟩ := List.mem_iff_getElem.1 hx
    have hj' : j < bodies.length := by omega
    rw [e2 j hj'] at e
    by_cases hjk : j = k
    · subst hjk
      rw [← e]; exact hv
    · rw [(shV_zero _ _).2 (h j hj' (by omega) hjk)] at e
      rw [← e]; rfl

theorem SetupAt.po_ne {w w1 : World} {s : St} {bodies : List Bd} {doors : List (Int × Int)} (h : SetupAt w w1 s bodies doors) {g : Nat} {cur : Array Value} (hg : w1.heap[g]? = some (.cells cur 52 (0, 0))) : ∀ d ∈ bodies, g ∉ blk d.po := by
  intro d hd
  rcases (h.good d hd).2 with ⟨e, -⟩ | ⟨q, r, -, -, -, -, h5, -⟩
  · rw [e]; simp [blk]
  · exact h5.ne_ty hg (by decide)
theorem SetupAt.mapFr {w w1 W5 : World} {s : St} {bodies : List Bd} {doors : List (Int × Int)} (h : SetupAt w w1 s bodies doors) {g off : Nat} (hbo : s.bo = some ⟨g, off, none⟩) (hF : Fr [g] w1 W5) : MapAt W5 s roomsL doors := by
  have hn : ∀ k, k ∉ blk s.bo → k ∉ [g] := fun k hk hm => hk (by rw [hbo]; simpa [blk] using hm)
  refine ⟨h.map.rn, h.map.dn, h.map.rr.fr hF (fun k hk => hn k (h.nro k hk)), ?_⟩
  rcases h.ndo with e | e
  · subst e; exact ⟨rfl, by simp, .inl rfl⟩
  · exact h.map.dr.fr hF (fun k hk => hn k (e k hk))
theorem SetupAt.shaped {w w1 W5 : World} {s : St} {bodies : List Bd} {doors : List (Int × Int)} (h : SetupAt w w1 s bodies doors) {polys : List (List (Int × Int))} (hk : SK w1 s bodies polys roomsL doors) {k : Nat} (hkl : k < bodies.length) {d : Bd}
    {g off : Nat} {cur : Array Value} (hbo : s.bo = some ⟨g, off, none⟩) (hg : w1.heap[g]? = some (.cells cur 52 (0, 0))) (hF : Fr [g] w1 W5) {rad : Int} {fo : Option Addr} {m fc : Nat} {few : List (Int × Int)}
    (hseg : Rd W5 9 s.bo bodies.length ((shaped bodies k d rad fo m fc).flatMap Bd.cells)) (hfew : few.length = m) (hm : m ≤ 1000000) (hfr : Rd W5 2 fo few.length (vecs few)) :
    SK W5 s (shaped bodies k d rad fo m fc) (polys.set k few) roomsL doors := by
  have hpl := hk.pl
  refine ⟨h.mapFr hbo hF, ⟨by rw [shaped_len]; exact h.nb, by rw [shaped_len]; exact hseg⟩, by rw [shaped_len, List.length_set]; exact hpl, fun j h1 h2 => ?_⟩
  have hj : j < bodies.length := by rw [shaped_len] at h1; exact h1
  by_cases hjk : j = k
  · subst hjk
    have e1 : (Go.Proofs.Ytlfomhknfpmhbaa.shaped bodies j d rad fo m fc)[j] = { d with rad := rad, po := fo, pn := m, pc := fc } := List.getElem_set_self _
    have e2 : (polys.set j few)[j] = few := by simp
    rw [e1, e2]
    exact ⟨hfew.symm, by omega, hfr⟩
  · have e1 : (Go.Proofs.Ytlfomhknfpmhbaa.shaped bodies k d rad fo m fc)[j] = bodies[j] := List.getElem_set_ne (fun e => hjk e.symm) _
    have e2 : (polys.set k few)[j] = polys[j]'(by omega) := List.getElem_set_ne (fun e => hjk e.symm) _
    rw [e1, e2]
    obtain ⟨q1, q2, q3⟩ := hk.sh j hj (by omega)
    exact ⟨q1, q2, q3.fr hF (fun b hb hbm => by simp at hbm; subst hbm; exact h.po_ne hg _ (List.getElem_mem hj) hb)⟩
theorem SetupAt.shapedV {w w1 : World} {s : St} {bodies : List Bd} {doors : List (Int × Int)} (h : SetupAt w w1 s bodies doors) {polys : List (List (Int × Int))} (hpl : polys.length = bodies.length) (hgood : ∀ (j : Nat) (h1 : j < bodies.length) (h2 : j < polys.length), shB bodies[j].rad polys[j] = true)
    {k : Nat} (hkl : k < bodies.length) {d : Bd} (hd : d = bodies[k]) {rad : Int} {fo : Option Addr} {m fc : Nat} {few : List (Int × Int)} :
    validB s (Go.Proofs.Ytlfomhknfpmhbaa.shaped bodies k d rad fo m fc) (codes (Go.Proofs.Ytlfomhknfpmhbaa.shaped bodies k d rad fo m fc) (polys.set k few)) roomsL doors = shV rad few := by
  rw [gen_valid h _ _ (shaped_good (hk := hkl) (hd := hd) fun d hd => (h.good d hd).1)]
  rw [codes_one (by rw [List.length_set, shaped_len]; exact hpl) k (by rw [shaped_len]; exact hkl) (fun j h1 h2 hjk => by
    have e1 : (Go.Proofs.Ytlfomhknfpmhbaa.shaped bodies k d rad fo m fc)[j] = bodies[j]'(by rw [shaped_len] at h1; exact h1) := List.getElem_set_ne (fun e => hjk e.symm) _
    have e2 : (polys.set k few)[j] = polys[j]'(by rw [List.length_set] at h2; exact h2) := List.getElem_set_ne (fun e => hjk e.symm) _
    rw [e1, e2]
    exact hgood _ _ _)]
  have e1 : ((Go.Proofs.Ytlfomhknfpmhbaa.shaped bodies k d rad fo m fc)[k]'(by rw [shaped_len]; exact hkl)).rad = rad := congrArg Bd.rad (List.getElem_set_self (a := { d with rad := rad, po := fo, pn := m, pc := fc }) _)
  have e2 : (polys.set k few)[k]'(by rw [List.length_set, hpl]; exact hkl) = few := by simp
  rw [e1, e2]
  unfold shV
  cases shB rad few <;> rfl
end Go.Proofs.Ytlfomhknfpmhbaa
