/- Chapter 12's generator: ShapeOf. -/
import Derived.Test.YtlfomhknfpmhbaaLives12
import Derived.Test.YtlfomhknfpmhbaaAround
namespace Go.Proofs.Ytlfomhknfpmhbaa
open Go.RowKit

theorem infoShape : (Try.prog.info? 48).map (·.size) = some 2 := by kernel_rfl

def vecs (l : List (Int × Int)) : List Value := l.flatMap drCells
/-- the polygons that the generator makes -/
def polyOf : Nat → Int → List (Int × Int)
  | 3, r => [(-r, -r), (r, -r), (r, r), (-r, r)]
  | 5, r => [(-r, -r), (r, -r), (0, r)]
  | _, r => [(-2 * r, -300), (2 * r, -300), (2 * r, 300), (-2 * r, 300)]

def ShapeAt (w : World) (rad : Int) (po : Option Addr) (pn pc : Nat) : Prop :=
  (po = none ∧ pn = 0 ∧ pc = 0 ∧ 512 ≤ rad ∧ rad ≤ 2560) ∨
  ∃ (q : Nat) (r : Int), (q = 3 ∨ q = 5 ∨ q = 6) ∧ 512 ≤ r ∧ r ≤ 2560 ∧ rad = 0 ∧ Seg w 29 2 po pn pc (vecs (polyOf q r)) ∧ pn = (polyOf q r).length

def ShapeTo (w : World) (e : Ending) (w' : World) : Prop := ∃ rad po pn pc, e = .returned (.agg #[.int .i64 rad, .slice po pn pc]) ∧ ShapeAt w' rad po pn pc ∧ Fr [] w w' ∧ ∀ k ∈ blk po, w.heap.size ≤ k

set_option maxRecDepth 100000 in
set_option maxHeartbeats 8000000 in
theorem shapeof_any (w : World) (n : Int) (hn : bounded n) : Calls Try.prog 37 #[.int .i64 n] w (ShapeTo w) := by
  obtain ⟨k, hk, -, hA⟩ := around_nat n 1000 hn (by omega) (by omega)
  have HA := Lib.hid hA
  obtain ⟨r, hr⟩ : ∃ r : Int, r = 512 * (1 + (k : Int) / 7 % 5) := ⟨_, rfl⟩
  have hr1 : 512 ≤ r := by omega
  have hr2 : r ≤ 2560 := by omega
  have hre : 512 * (1 + (k : Int) / 7 % 5) = r := hr.symm
  obtain ⟨q, hq⟩ : ∃ q : Nat, (k : Int) % 7 = (q : Int) := ⟨k % 7, by omega⟩
  have hq7 : q < 7 := by omega
  have HZ := Lib.hid (alloc_new w (.cells #[.int .i64 0, .slice none 0 0] 48))
  have HF := Lib.hid ((Fr.refl [] w).alloc (.cells #[.int .i64 0, .slice none 0 0] 48))
  clear hA hn hr
  rcases (show q = 0 ∨ q = 1 ∨ q = 2 ∨ q = 3 ∨ q = 4 ∨ q = 5 ∨ q = 6 by omega) with e | e | e | e | e | e | e
  · subst e
    go_enter Try.func37, Try.ntmps37
    go_wp2_with fail
    refine (HA.out _).mono ?_
    rintro e w1 ⟨rfl, rfl⟩
    go_wp2_with (refine wpList_storeB rfl 48 (Operand.tmp 2) (Operand.tmp 19) rfl w.heap.size 2 #[.int .i64 r, .slice none 0 0] rfl rfl _ 48 HZ.out rfl rfl infoShape (by simp [Value.oneCell']) ?_; intro wf hbf hff; have HBF := Lib.hid hbf; have HFF := Lib.hid hff; clear hbf hff)
    have t0 : wf.cell? ⟨w.heap.size, 0, none⟩ = some (.int .i64 r) := cell_blk HBF.out 0
    have t1 : wf.cell? ⟨w.heap.size, 1, none⟩ = some (.slice none 0 0) := cell_blk HBF.out 1
    refine bodyPost_ret (by simp [results, Try.results37, go_sem, t0, t1]; rfl) rfl ?_
    exact ⟨_, _, _, _, rfl, .inl ⟨rfl, rfl, rfl, hr1, hr2⟩, HF.out.trans HFF.out (fun k hk => .inr (by simp at hk; omega)), by simp [blk]⟩
  · subst e
    go_enter Try.func37, Try.ntmps37
    go_wp2_with fail
    refine (HA.out _).mono ?_
    rintro e w1 ⟨rfl, rfl⟩
    go_wp2_with (refine wpList_storeB rfl 48 (Operand.tmp 2) (Operand.tmp 19) rfl w.heap.size 2 #[.int .i64 r, .slice none 0 0] rfl rfl _ 48 HZ.out rfl rfl infoShape (by simp [Value.oneCell']) ?_; intro wf hbf hff; have HBF := Lib.hid hbf; have HFF := Lib.hid hff; clear hbf hff)
    have t0 : wf.cell? ⟨w.heap.size, 0, none⟩ = some (.int .i64 r) := cell_blk HBF.out 0
    have t1 : wf.cell? ⟨w.heap.size, 1, none⟩ = some (.slice none 0 0) := cell_blk HBF.out 1
    refine bodyPost_ret (by simp [results, Try.results37, go_sem, t0, t1]; rfl) rfl ?_
    exact ⟨_, _, _, _, rfl, .inl ⟨rfl, rfl, rfl, hr1, hr2⟩, HF.out.trans HFF.out (fun k hk => .inr (by simp at hk; omega)), by simp [blk]⟩
  · subst e
    go_enter Try.func37, Try.ntmps37
    go_wp2_with fail
    refine (HA.out _).mono ?_
    rintro e w1 ⟨rfl, rfl⟩
    go_wp2_with (refine wpList_storeB rfl 48 (Operand.tmp 2) (Operand.tmp 19) rfl w.heap.size 2 #[.int .i64 r, .slice none 0 0] rfl rfl _ 48 HZ.out rfl rfl infoShape (by simp [Value.oneCell']) ?_; intro wf hbf hff; have HBF := Lib.hid hbf; have HFF := Lib.hid hff; clear hbf hff)
    have t0 : wf.cell? ⟨w.heap.size, 0, none⟩ = some (.int .i64 r) := cell_blk HBF.out 0
    have t1 : wf.cell? ⟨w.heap.size, 1, none⟩ = some (.slice none 0 0) := cell_blk HBF.out 1
    refine bodyPost_ret (by simp [results, Try.results37, go_sem, t0, t1]; rfl) rfl ?_
    exact ⟨_, _, _, _, rfl, .inl ⟨rfl, rfl, rfl, hr1, hr2⟩, HF.out.trans HFF.out (fun k hk => .inr (by simp at hk; omega)), by simp [blk]⟩
  · subst e
    go_enter Try.func37, Try.ntmps37
    go_wp2_with fail
    refine (HA.out _).mono ?_
    rintro e w1 ⟨rfl, rfl⟩
    go_wp2_with (refine wpList_storeB rfl 48 (Operand.tmp 2) (Operand.tmp 40) rfl w.heap.size 2 #[.int .i64 0, .slice (some ⟨w.heap.size + 1, 0, none⟩) 4 4] rfl rfl _ 48 (alloc_old HZ.out) rfl rfl infoShape (by simp [Value.oneCell']) ?_; intro wf hbf hff; have HBF := Lib.hid hbf; have HFF := Lib.hid hff; clear hbf hff)
    have t0 : wf.cell? ⟨w.heap.size, 0, none⟩ = some (.int .i64 0) := cell_blk HBF.out 0
    have t1 : wf.cell? ⟨w.heap.size, 1, none⟩ = some (.slice (some ⟨w.heap.size + 1, 0, none⟩) 4 4) := cell_blk HBF.out 1
    have hseg : Seg wf 29 2 (some ⟨w.heap.size + 1, 0, none⟩) 4 4 (vecs (polyOf 3 r)) := Seg.one (w.heap.size + 1) #[.int .i64 (-r), .int .i64 (-r), .int .i64 (r), .int .i64 (-r), .int .i64 (r), .int .i64 (r), .int .i64 (-r), .int .i64 (r)] _ 2 4 (HFF.out.blk (alloc_new2 w _ _) (by simp)) rfl (by unfold maxLen; omega)
    refine bodyPost_ret (by simp [results, Try.results37, go_sem, t0, t1]; rfl) rfl ?_
    exact ⟨_, _, _, _, rfl, .inr ⟨3, r, .inl rfl, hr1, hr2, rfl, hseg, rfl⟩, (HF.out.alloc _).trans HFF.out (fun k hk => .inr (by simp at hk; omega)), by intro k hk; simp [blk] at hk; omega⟩
  · subst e
    go_enter Try.func37, Try.ntmps37
    go_wp2_with fail
    refine (HA.out _).mono ?_
    rintro e w1 ⟨rfl, rfl⟩
    go_wp2_with (refine wpList_storeB rfl 48 (Operand.tmp 2) (Operand.tmp 40) rfl w.heap.size 2 #[.int .i64 0, .slice (some ⟨w.heap.size + 1, 0, none⟩) 4 4] rfl rfl _ 48 (alloc_old HZ.out) rfl rfl infoShape (by simp [Value.oneCell']) ?_; intro wf hbf hff; have HBF := Lib.hid hbf; have HFF := Lib.hid hff; clear hbf hff)
    have t0 : wf.cell? ⟨w.heap.size, 0, none⟩ = some (.int .i64 0) := cell_blk HBF.out 0
    have t1 : wf.cell? ⟨w.heap.size, 1, none⟩ = some (.slice (some ⟨w.heap.size + 1, 0, none⟩) 4 4) := cell_blk HBF.out 1
    have hseg : Seg wf 29 2 (some ⟨w.heap.size + 1, 0, none⟩) 4 4 (vecs (polyOf 3 r)) := Seg.one (w.heap.size + 1) #[.int .i64 (-r), .int .i64 (-r), .int .i64 (r), .int .i64 (-r), .int .i64 (r), .int .i64 (r), .int .i64 (-r), .int .i64 (r)] _ 2 4 (HFF.out.blk (alloc_new2 w _ _) (by simp)) rfl (by unfold maxLen; omega)
    refine bodyPost_ret (by simp [results, Try.results37, go_sem, t0, t1]; rfl) rfl ?_
    exact ⟨_, _, _, _, rfl, .inr ⟨3, r, .inl rfl, hr1, hr2, rfl, hseg, rfl⟩, (HF.out.alloc _).trans HFF.out (fun k hk => .inr (by simp at hk; omega)), by intro k hk; simp [blk] at hk; omega⟩
  · subst e
    go_enter Try.func37, Try.ntmps37
    go_wp2_with fail
    refine (HA.out _).mono ?_
    rintro e w1 ⟨rfl, rfl⟩
    go_wp2_with (refine wpList_storeB rfl 48 (Operand.tmp 2) (Operand.tmp 55) rfl w.heap.size 2 #[.int .i64 0, .slice (some ⟨w.heap.size + 1, 0, none⟩) 3 3] rfl rfl _ 48 (alloc_old HZ.out) rfl rfl infoShape (by simp [Value.oneCell']) ?_; intro wf hbf hff; have HBF := Lib.hid hbf; have HFF := Lib.hid hff; clear hbf hff)
    have t0 : wf.cell? ⟨w.heap.size, 0, none⟩ = some (.int .i64 0) := cell_blk HBF.out 0
    have t1 : wf.cell? ⟨w.heap.size, 1, none⟩ = some (.slice (some ⟨w.heap.size + 1, 0, none⟩) 3 3) := cell_blk HBF.out 1
    have hseg : Seg wf 29 2 (some ⟨w.heap.size + 1, 0, none⟩) 3 3 (vecs (polyOf 5 r)) := Seg.one (w.heap.size + 1) #[.int .i64 (-r), .int .i64 (-r), .int .i64 (r), .int .i64 (-r), .int .i64 (0), .int .i64 (r)] _ 2 3 (HFF.out.blk (alloc_new2 w _ _) (by simp)) rfl (by unfold maxLen; omega)
    refine bodyPost_ret (by simp [results, Try.results37, go_sem, t0, t1]; rfl) rfl ?_
    exact ⟨_, _, _, _, rfl, .inr ⟨5, r, .inr (.inl rfl), hr1, hr2, rfl, hseg, rfl⟩, (HF.out.alloc _).trans HFF.out (fun k hk => .inr (by simp at hk; omega)), by intro k hk; simp [blk] at hk; omega⟩
  · subst e
    go_enter Try.func37, Try.ntmps37
    go_wp2_with fail
    refine (HA.out _).mono ?_
    rintro e w1 ⟨rfl, rfl⟩
    go_wp2_with (refine wpList_storeB rfl 48 (Operand.tmp 2) (Operand.tmp 69) rfl w.heap.size 2 #[.int .i64 0, .slice (some ⟨w.heap.size + 1, 0, none⟩) 4 4] rfl rfl _ 48 (alloc_old HZ.out) rfl rfl infoShape (by simp [Value.oneCell']) ?_; intro wf hbf hff; have HBF := Lib.hid hbf; have HFF := Lib.hid hff; clear hbf hff)
    have t0 : wf.cell? ⟨w.heap.size, 0, none⟩ = some (.int .i64 0) := cell_blk HBF.out 0
    have t1 : wf.cell? ⟨w.heap.size, 1, none⟩ = some (.slice (some ⟨w.heap.size + 1, 0, none⟩) 4 4) := cell_blk HBF.out 1
    have hseg : Seg wf 29 2 (some ⟨w.heap.size + 1, 0, none⟩) 4 4 (vecs (polyOf 6 r)) := Seg.one (w.heap.size + 1) #[.int .i64 (-2 * r), .int .i64 (-300), .int .i64 (2 * r), .int .i64 (-300), .int .i64 (2 * r), .int .i64 (300), .int .i64 (-2 * r), .int .i64 (300)] _ 2 4 (HFF.out.blk (alloc_new2 w _ _) (by simp)) rfl (by unfold maxLen; omega)
    refine bodyPost_ret (by simp [results, Try.results37, go_sem, t0, t1]; rfl) rfl ?_
    exact ⟨_, _, _, _, rfl, .inr ⟨6, r, .inr (.inr rfl), hr1, hr2, rfl, hseg, rfl⟩, (HF.out.alloc _).trans HFF.out (fun k hk => .inr (by simp at hk; omega)), by intro k hk; simp [blk] at hk; omega⟩
end Go.Proofs.Ytlfomhknfpmhbaa
