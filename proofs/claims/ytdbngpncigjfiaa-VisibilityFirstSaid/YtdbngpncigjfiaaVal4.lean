/- Package layout: Validate. -/
import Derived.Test.YtdbngpncigjfiaaVal3
namespace Go.Proofs.Ytdbngpncigjfiaa
open Go.RowKit

def validB (s : St) (bodies : List Bd) (shs : List Int) (rooms : List Bx) (doors : List (Int × Int)) : Int :=
  if shs.all (fun e => e == 0) then (if numsB s && properB s.x0 s.y0 s.x1 s.y1 && mapB rooms doors && bodies.all (fun d => bodyB d s.x0 s.y0 s.x1 s.y1) then 0 else 11) else 10

structure BodiesAt (w : World) (s : St) (bodies : List Bd) : Prop where
  nb : s.nb = bodies.length
  rd : Rd w 9 s.bo bodies.length (bodies.flatMap Bd.cells)
theorem BodiesAt.old {w w' : World} {s : St} {bodies : List Bd} (h : BodiesAt w s bodies) (hf : Fr [] w w') : BodiesAt w' s bodies := ⟨h.nb, h.rd.fr hf (by simp)⟩

theorem Rd.body {w : World} {ao : Option Addr} {bodies : List Bd} (h : Rd w 9 ao bodies.length (bodies.flatMap Bd.cells)) {i : Nat} (hi : i < bodies.length) {d : Bd} (hd : d = bodies[i]) : ∃ g off, ao = some ⟨g, off, none⟩ ∧ g < w.heap.size ∧
    w.cell? ⟨g, off + i * 9, none⟩ = some (.int .i64 d.rad) ∧ w.cell? ⟨g, off + i * 9 + 1, none⟩ = some (.slice d.po d.pn d.pc) ∧ w.cell? ⟨g, off + i * 9 + 2, none⟩ = some (.int .i64 d.px) ∧ w.cell? ⟨g, off + i * 9 + 3, none⟩ = some (.int .i64 d.py) ∧ w.cell? ⟨g, off + i * 9 + 4, none⟩ = some (.int .i64 d.vx) ∧ w.cell? ⟨g, off + i * 9 + 5, none⟩ = some (.int .i64 d.vy) ∧ w.cell? ⟨g, off + i * 9 + 6, none⟩ = some (.int .i64 d.im) ∧ w.cell? ⟨g, off + i * 9 + 7, none⟩ = some (.int .i64 d.a) ∧ w.cell? ⟨g, off + i * 9 + 8, none⟩ = some (.int .i64 d.b) := by
  obtain ⟨g, off, ha, hg, hc⟩ := h.at (by omega)
  have key : ∀ j, j < 9 → w.cell? ⟨g, off + i * 9 + j, none⟩ = (Bd.cells d)[j]? := fun j hj => by
    rw [Nat.add_assoc, hc _ (by omega), flat_get Bd.cells 9 (fun _ => rfl) bodies i j hi hj, hd]
  exact ⟨g, off, ha, hg, key 0 (by omega), key 1 (by omega), key 2 (by omega), key 3 (by omega), key 4 (by omega), key 5 (by omega), key 6 (by omega), key 7 (by omega), key 8 (by omega)⟩

end Go.Proofs.Ytdbngpncigjfiaa
