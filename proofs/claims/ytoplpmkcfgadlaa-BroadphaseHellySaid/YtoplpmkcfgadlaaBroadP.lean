/- Package broadphase, plain: sweep and prune finds the overlapping pairs. -/
import Derived.Test.YtoplpmkcfgadlaaBase
namespace Go.Proofs.Ytoplpmkcfgadlaa

structure BX where
  x0 : Int
  y0 : Int
  x1 : Int
  y1 : Int
  deriving Inhabited
def BX.ok (b : BX) : Prop := b.x0 ≤ b.x1 ∧ b.y0 ≤ b.y1
def meetB (a0 a1 b0 b1 : Int) : Bool := decide (a0 ≤ b1) && decide (b0 ≤ a1)
def BX.ov (a b : BX) : Bool := meetB a.x0 a.x1 b.x0 b.x1 && meetB a.y0 a.y1 b.y0 b.y1
theorem meetB_comm (a0 a1 b0 b1 : Int) : meetB a0 a1 b0 b1 = meetB b0 b1 a0 a1 := by unfold meetB; rw [Bool.and_comm]
theorem ov_comm (a b : BX) : a.ov b = b.ov a := by unfold BX.ov; rw [meetB_comm a.x0, meetB_comm a.y0]
def placeB (bs : List BX) (e : Nat) : Int := if e % 2 = 1 then (bs[e / 2]!).x1 else (bs[e / 2]!).x0
theorem place_even (bs : List BX) (i : Nat) : placeB bs (2 * i) = (bs[i]!).x0 := by
  unfold placeB
  rw [if_neg (by omega), show 2 * i / 2 = i by omega]
theorem place_odd (bs : List BX) (i : Nat) : placeB bs (2 * i + 1) = (bs[i]!).x1 := by
  unfold placeB
  rw [if_pos (by omega), show (2 * i + 1) / 2 = i by omega]
def before (bs : List BX) (a b : Nat) : Prop := placeB bs a < placeB bs b ∨ (placeB bs a = placeB bs b ∧ (a % 2 < b % 2 ∨ (a % 2 = b % 2 ∧ a < b)))
structure SrtB (bs : List BX) (es : List Nat) : Prop where
  perm : es.Perm (List.range (2 * bs.length))
  srt : es.Pairwise (before bs)
structure Sweep (bs : List BX) (pre : List Nat) (act : List Nat) (prs : List (Nat × Nat)) : Prop where
  and : act.Nodup
  amem : ∀ j, j ∈ act ↔ (j < bs.length ∧ 2 * j ∈ pre ∧ 2 * j + 1 ∉ pre)
  alen : act.length ≤ pre.length
  pnd : prs.Nodup
  pmem : ∀ p : Nat × Nat, p ∈ prs ↔ (p.1 < p.2 ∧ p.2 < bs.length ∧ 2 * p.1 ∈ pre ∧ 2 * p.2 ∈ pre ∧ (bs[p.1]!).ov (bs[p.2]!) = true)
  plen : prs.length ≤ pre.length * pre.length
theorem sweep_nil (bs : List BX) : Sweep bs [] [] [] := ⟨List.nodup_nil, by simp, by simp, List.nodup_nil, by simp, by simp⟩

section
variable {bs : List BX} {pre post act V : List Nat} {e i : Nat} {prs : List (Nat × Nat)}
theorem SrtB.nodup {es : List Nat} (h : SrtB bs es) : es.Nodup := h.perm.nodup_iff.2 List.nodup_range
theorem SrtB.lt {es : List Nat} (h : SrtB bs es) (he : e ∈ es) : e < 2 * bs.length := by
  have := h.perm.mem_iff.1 he
  simpa using this
theorem SrtB.bef (h : SrtB bs (pre ++ e :: post)) {x : Nat} (hx : x ∈ pre) : before bs x e := by
  have := List.pairwise_append.1 h.srt
  exact this.2.2 x hx e (by simp)
theorem SrtB.aft (h : SrtB bs (pre ++ e :: post)) {x : Nat} (hx : x ∈ post) : before bs e x := by
  have := List.pairwise_append.1 h.srt
  exact (List.pairwise_cons.1 this.2.1).1 x hx
theorem SrtB.notin (h : SrtB bs (pre ++ e :: post)) : e ∉ pre := fun hp => by
  have := List.nodup_append.1 h.nodup
  exact this.2.2 e hp e (by simp) rfl
theorem SrtB.key (h : SrtB bs (pre ++ (2 * i) :: post)) (hok : ∀ b ∈ bs, b.ok) (hi : i < bs.length) {j : Nat} (hj : j < bs.length) (hm : 2 * j ∈ pre) : 2 * j + 1 ∉ pre ↔ meetB (bs[i]!).x0 (bs[i]!).x1 (bs[j]!).x0 (bs[j]!).x1 = true := by
  have hb := h.bef hm
  unfold before at hb
  rw [place_even, place_even] at hb
  have hoi := (hok _ (List.getElem_mem hi)).1
  rw [← getElem!_pos bs i hi] at hoi
  unfold meetB
  rw [Bool.and_eq_true, decide_eq_true_eq, decide_eq_true_eq]
  constructor
  · intro hn
    have hmem : 2 * j + 1 ∈ pre ++ (2 * i) :: post := h.perm.mem_iff.2 (by simp; omega)
    have hp : 2 * j + 1 ∈ post := by
      rcases List.mem_append.1 hmem with q | q
      · exact absurd q hn
      · rcases List.mem_cons.1 q with q | q
        · omega
        · exact q
    have hb2 := h.aft hp
    unfold before at hb2
    rw [place_even, place_odd] at hb2
    omega
  · intro hx hp
    have hb2 := h.bef hp
    unfold before at hb2
    rw [place_even, place_odd] at hb2
    omega
theorem Sweep.upper (hs : Sweep bs pre act prs) (h : SrtB bs (pre ++ (2 * i + 1) :: post)) : Sweep bs (pre ++ [2 * i + 1]) (act.filter fun j => j != i) prs := by
  refine ⟨hs.and.filter _, fun j => ?_, ?_, hs.pnd, fun p => ?_, ?_⟩
  · rw [List.mem_filter, hs.amem]
    simp only [List.mem_append, List.mem_singleton, bne_iff_ne, ne_eq]
    constructor
    · rintro ⟨⟨h1, h2, h3⟩, h4⟩
      exact ⟨h1, .inl h2, fun q => by rcases q with q | q; exact h3 q; omega⟩
    · rintro ⟨h1, h2, h3⟩
      refine ⟨⟨h1, ?_, fun q => h3 (.inl q)⟩, fun q => h3 (.inr (by omega))⟩
      rcases h2 with q | q
      · exact q
      · omega
  · have := List.length_filter_le (fun j => j != i) act
    have := hs.alen
    rw [List.length_append, List.length_singleton]; omega
  · rw [hs.pmem]
    simp only [List.mem_append, List.mem_singleton]
    constructor
    · rintro ⟨h1, h2, h3, h4, h5⟩; exact ⟨h1, h2, .inl h3, .inl h4, h5⟩
    · rintro ⟨h1, h2, h3, h4, h5⟩
      exact ⟨h1, h2, h3.resolve_right (by omega), h4.resolve_right (by omega), h5⟩
  · have := hs.plen
    rw [List.length_append, List.length_singleton]
    have h2 : (pre.length + 1) * (pre.length + 1) = pre.length * pre.length + 2 * pre.length + 1 := by rw [Nat.add_mul, Nat.mul_add]; omega
    omega
def newP (bs : List BX) (i : Nat) (V : List Nat) : List (Nat × Nat) := (V.filter fun j => meetB (bs[i]!).y0 (bs[i]!).y1 (bs[j]!).y0 (bs[j]!).y1).map fun j => (min i j, max i j)
theorem newP_snoc (bs : List BX) (i : Nat) (V : List Nat) (j : Nat) : newP bs i (V ++ [j]) = newP bs i V ++ (if meetB (bs[i]!).y0 (bs[i]!).y1 (bs[j]!).y0 (bs[j]!).y1 then [(min i j, max i j)] else []) := by
  unfold newP
  rw [List.filter_append, List.map_append]
  congr 1
  rw [List.filter_cons, List.filter_nil]
  split <;> rfl
theorem newP_len (bs : List BX) (i : Nat) (V : List Nat) : (newP bs i V).length ≤ V.length := by
  unfold newP; rw [List.length_map]; exact List.length_filter_le _ _
theorem Sweep.fresh (hs : Sweep bs pre act prs) (h : SrtB bs (pre ++ (2 * i) :: post)) : i ∉ act := fun hi => h.notin ((hs.amem i).1 hi).2.1
theorem Sweep.lower (hs : Sweep bs pre act prs) (h : SrtB bs (pre ++ (2 * i) :: post)) (hok : ∀ b ∈ bs, b.ok) (hV : V.Perm act) : Sweep bs (pre ++ [2 * i]) (i :: act) (prs ++ newP bs i V) := by
  have hi : i < bs.length := by have := h.lt (e := 2 * i) (by simp); omega
  have hni := h.notin
  have hfr := hs.fresh h
  have hmem : ∀ p : Nat × Nat, p ∈ newP bs i V ↔ ∃ j ∈ act, meetB (bs[i]!).y0 (bs[i]!).y1 (bs[j]!).y0 (bs[j]!).y1 = true ∧ (min i j, max i j) = p := fun p => by
    unfold newP
    simp only [List.mem_map, List.mem_filter, hV.mem_iff]
    constructor
    · rintro ⟨j, ⟨h1, h2⟩, h3⟩; exact ⟨j, h1, h2, h3⟩
    · rintro ⟨j, h1, h2, h3⟩; exact ⟨j, ⟨h1, h2⟩, h3⟩
  refine ⟨List.nodup_cons.2 ⟨hfr, hs.and⟩, fun j => ?_, by have := hs.alen; simp; omega, ?_, fun p => ?_, ?_⟩
  · rw [List.mem_cons, hs.amem]
    simp only [List.mem_append, List.mem_singleton]
    constructor
    · rintro (rfl | ⟨h1, h2, h3⟩)
      · refine ⟨hi, .inr rfl, fun q => ?_⟩
        rcases q with q | q
        · have hb := h.bef q
          unfold before at hb
          rw [place_even, place_odd] at hb
          have hoi := (hok _ (List.getElem_mem hi)).1
          rw [← getElem!_pos bs j hi] at hoi
          omega
        · omega
      · exact ⟨h1, .inl h2, fun q => by rcases q with q | q; exact h3 q; omega⟩
    · rintro ⟨h1, h2, h3⟩
      rcases h2 with q | q
      · exact .inr ⟨h1, q, fun q2 => h3 (.inl q2)⟩
      · exact .inl (by omega)
  · rw [List.nodup_append]
    refine ⟨hs.pnd, ?_, fun p hp q hq e => ?_⟩
    · unfold newP
      refine List.Pairwise.map _ ?_ ((hV.nodup_iff.2 hs.and).filter _)
      intro a b hab e
      have e1 := congrArg Prod.fst e
      have e2 := congrArg Prod.snd e
      simp only at e1 e2
      omega
    · subst e
      obtain ⟨j, hj, -, rfl⟩ := (hmem p).1 hq
      obtain ⟨-, -, h3, h4, -⟩ := (hs.pmem _).1 hp
      simp only at h3 h4
      rcases Nat.le_total i j with q | q
      · rw [Nat.min_eq_left q] at h3; exact hni h3
      · rw [Nat.max_eq_left q] at h4; exact hni h4
  · rw [List.mem_append, hs.pmem, hmem]
    simp only [List.mem_append, List.mem_singleton]
    constructor
    · rintro (⟨h1, h2, h3, h4, h5⟩ | ⟨j, hj, hy, rfl⟩)
      · exact ⟨h1, h2, .inl h3, .inl h4, h5⟩
      · obtain ⟨h1, h2, h3⟩ := (hs.amem j).1 hj
        have hij : i ≠ j := fun e => hfr (e ▸ hj)
        have hx := (h.key hok hi h1 h2).1 h3
        have hov : (bs[i]!).ov (bs[j]!) = true := by unfold BX.ov; rw [hx, hy]; rfl
        rcases Nat.le_total i j with q | q
        · rw [Nat.min_eq_left q, Nat.max_eq_right q]
          exact ⟨by show i < j; omega, h1, .inr rfl, .inl h2, hov⟩
        · rw [Nat.min_eq_right q, Nat.max_eq_left q]
          exact ⟨by show j < i; omega, hi, .inl h2, .inr rfl, by show (bs[j]!).ov (bs[i]!) = true; rw [ov_comm]; exact hov⟩
    · obtain ⟨a, b⟩ := p
      rintro ⟨h1, h2, h3, h4, h5⟩
      simp only at h1 h2 h3 h4 h5
      rcases h3 with h3 | h3
      · rcases h4 with h4 | h4
        · exact .inl ⟨h1, h2, h3, h4, h5⟩
        · have hb : b = i := by omega
          subst hb
          rw [ov_comm] at h5
          have h5' := h5
          unfold BX.ov at h5
          rw [Bool.and_eq_true] at h5
          refine .inr ⟨a, (hs.amem a).2 ⟨by omega, h3, (h.key hok hi (by omega) h3).2 h5.1⟩, h5.2, ?_⟩
          rw [Nat.min_eq_right (by omega), Nat.max_eq_left (by omega)]
      · have ha : a = i := by omega
        subst ha
        have h4 := h4.resolve_right (by omega)
        unfold BX.ov at h5
        rw [Bool.and_eq_true] at h5
        refine .inr ⟨b, (hs.amem b).2 ⟨h2, h4, (h.key hok hi h2 h4).2 h5.1⟩, h5.2, ?_⟩
        rw [Nat.min_eq_left (by omega), Nat.max_eq_right (by omega)]
  · have h1 := hs.plen
    have h2 := newP_len bs i V
    have h3 := hV.length_eq
    have h4 := hs.alen
    rw [List.length_append, List.length_append, List.length_singleton]
    have h5 : (pre.length + 1) * (pre.length + 1) = pre.length * pre.length + 2 * pre.length + 1 := by
      rw [Nat.add_mul, Nat.mul_add]; omega
    omega
end

/-! ### the pairs in their order -/
def rowB (bs : List BX) (i m : Nat) : List (Nat × Nat) := ((List.range m).filter fun k => decide (i < k) && (bs[i]!).ov (bs[k]!)).map fun k => (i, k)
def upB (bs : List BX) (i : Nat) : List (Nat × Nat) := (List.range i).flatMap fun a => rowB bs a bs.length
def pairsB (bs : List BX) : List (Nat × Nat) := upB bs bs.length
theorem rowB_zero (bs : List BX) (i : Nat) : rowB bs i (i + 1) = [] := by
  unfold rowB
  rw [List.map_eq_nil_iff, List.filter_eq_nil_iff]
  intro k hk
  have := List.mem_range.1 hk
  simp; omega
theorem rowB_succ (bs : List BX) (i k : Nat) (h : i < k) : rowB bs i (k + 1) = rowB bs i k ++ (if (bs[i]!).ov (bs[k]!) then [(i, k)] else []) := by
  unfold rowB
  rw [List.range_succ, List.filter_append, List.map_append]
  congr 1
  rw [List.filter_cons, List.filter_nil, decide_eq_true h, Bool.true_and]
  split <;> rfl
theorem upB_succ (bs : List BX) (i : Nat) : upB bs (i + 1) = upB bs i ++ rowB bs i bs.length := by
  unfold upB
  rw [List.range_succ, List.flatMap_append, List.flatMap_cons, List.flatMap_nil, List.append_nil]
theorem mem_rowB {bs : List BX} {i m : Nat} {p : Nat × Nat} : p ∈ rowB bs i m ↔ p.1 = i ∧ i < p.2 ∧ p.2 < m ∧ (bs[i]!).ov (bs[p.2]!) = true := by
  unfold rowB
  simp only [List.mem_map, List.mem_filter, List.mem_range, Bool.and_eq_true, decide_eq_true_eq]
  constructor
  · rintro ⟨k, ⟨h1, h2, h3⟩, rfl⟩; exact ⟨rfl, h2, h1, h3⟩
  · rintro ⟨h1, h2, h3, h4⟩; exact ⟨p.2, ⟨h3, h2, h4⟩, by rw [← h1]⟩
theorem mem_upB {bs : List BX} {i : Nat} {p : Nat × Nat} : p ∈ upB bs i ↔ p.1 < i ∧ p.1 < p.2 ∧ p.2 < bs.length ∧ (bs[p.1]!).ov (bs[p.2]!) = true := by
  unfold upB
  simp only [List.mem_flatMap, List.mem_range, mem_rowB]
  constructor
  · rintro ⟨a, h1, rfl, h2, h3, h4⟩; exact ⟨h1, h2, h3, h4⟩
  · rintro ⟨h1, h2, h3, h4⟩; exact ⟨p.1, h1, rfl, h2, h3, h4⟩
theorem mem_pairsB {bs : List BX} {p : Nat × Nat} : p ∈ pairsB bs ↔ p.1 < p.2 ∧ p.2 < bs.length ∧ (bs[p.1]!).ov (bs[p.2]!) = true := by
  unfold pairsB
  rw [mem_upB]
  constructor
  · rintro ⟨-, h⟩; exact h
  · intro h; exact ⟨by omega, h⟩
theorem rowB_len (bs : List BX) (i m : Nat) : (rowB bs i m).length ≤ m := by
  unfold rowB
  rw [List.length_map]
  have := List.length_filter_le (fun k => decide (i < k) && (bs[i]!).ov (bs[k]!)) (List.range m)
  rw [List.length_range] at this; exact this
theorem upB_len (bs : List BX) (i : Nat) : (upB bs i).length ≤ i * bs.length := by
  induction i with
  | zero => simp [upB]
  | succ i ih =>
    rw [upB_succ, List.length_append, Nat.add_mul, Nat.one_mul]
    have := rowB_len bs i bs.length
    omega
def lexP (p q : Nat × Nat) : Prop := p.1 < q.1 ∨ (p.1 = q.1 ∧ p.2 < q.2)
theorem rowB_srt (bs : List BX) (i m : Nat) : (rowB bs i m).Pairwise lexP := by
  unfold rowB
  refine List.Pairwise.map _ ?_ (List.Pairwise.filter _ List.pairwise_lt_range)
  intro a b hab
  exact .inr ⟨rfl, hab⟩
theorem upB_srt (bs : List BX) (i : Nat) : (upB bs i).Pairwise lexP := by
  induction i with
  | zero => simp [upB]
  | succ i ih =>
    rw [upB_succ, List.pairwise_append]
    refine ⟨ih, rowB_srt _ _ _, fun p hp q hq => ?_⟩
    have h1 := (mem_upB.1 hp).1
    have h2 := (mem_rowB.1 hq).1
    exact .inl (by omega)
theorem lex_unique : ∀ {a b : List (Nat × Nat)}, a.Pairwise lexP → b.Pairwise lexP → (∀ p, p ∈ a ↔ p ∈ b) → a = b
  | [], [], _, _, _ => rfl
  | [], y :: b, _, _, h => by have := (h y).2 (by simp); simp at this
  | x :: a, [], _, _, h => by have := (h x).1 (by simp); simp at this
  | x :: a, y :: b, ha, hb, h => by
    obtain ⟨a1, a2⟩ := List.pairwise_cons.1 ha
    obtain ⟨b1, b2⟩ := List.pairwise_cons.1 hb
    have irr : ∀ p : Nat × Nat, ¬ lexP p p := fun p q => by unfold lexP at q; omega
    have asy : ∀ p q : Nat × Nat, lexP p q → ¬ lexP q p := fun p q h1 h2 => by unfold lexP at h1 h2; omega
    have hxy : x = y := by
      rcases List.mem_cons.1 ((h x).1 (by simp)) with q | q
      · exact q
      · rcases List.mem_cons.1 ((h y).2 (by simp)) with r | r
        · exact r.symm
        · exact absurd (a1 y r) (asy _ _ (b1 x q))
    subst hxy
    congr 1
    refine lex_unique a2 b2 fun p => ⟨fun hp => ?_, fun hp => ?_⟩
    · rcases List.mem_cons.1 ((h p).1 (List.mem_cons_of_mem _ hp)) with q | q
      · subst q; exact absurd (a1 p hp) (irr p)
      · exact q
    · rcases List.mem_cons.1 ((h p).2 (List.mem_cons_of_mem _ hp)) with q | q
      · subst q; exact absurd (b1 p hp) (irr p)
      · exact q
/-- what the sweep finds, once it is sorted -/
theorem sweep_end {bs : List BX} {es act : List Nat} {prs P : List (Nat × Nat)} (hs : Sweep bs es act prs) (h : SrtB bs es) (hp : P.Perm prs) (hl : P.Pairwise lexP) : P = pairsB bs := by
  refine lex_unique hl (upB_srt _ _) fun p => ?_
  rw [hp.mem_iff, hs.pmem]
  rw [mem_pairsB]
  constructor
  · rintro ⟨h1, h2, -, -, h5⟩; exact ⟨h1, h2, h5⟩
  · rintro ⟨h1, h2, h5⟩
    exact ⟨h1, h2, h.perm.mem_iff.2 (by simp; omega), h.perm.mem_iff.2 (by simp; omega), h5⟩
theorem srt_of {bs : List BX} {es : List Nat} (hp : es.Perm (List.range (2 * bs.length))) (hs : es.Pairwise fun x y => ¬ before bs y x) : SrtB bs es := by
  refine ⟨hp, ?_⟩
  have hn : es.Nodup := hp.nodup_iff.2 List.nodup_range
  refine (hs.and hn).imp fun {a b} h => ?_
  obtain ⟨h1, h2⟩ := h
  unfold before at h1 ⊢
  have : a ≠ b := h2
  omega
theorem lex_of {P : List (Nat × Nat)} (hn : P.Nodup) (hs : P.Pairwise fun x y => ¬ lexP y x) : P.Pairwise lexP := by
  refine (hs.and hn).imp fun {a b} h => ?_
  obtain ⟨h1, h2⟩ := h
  have h3 : a ≠ b := h2
  obtain ⟨a1, a2⟩ := a
  obtain ⟨b1, b2⟩ := b
  have h4 : ¬ (a1 = b1 ∧ a2 = b2) := fun q => h3 (by rw [q.1, q.2])
  unfold lexP at h1 ⊢
  simp only at h1 ⊢
  omega
end Go.Proofs.Ytoplpmkcfgadlaa
