/- What chapter 27's laws share: a setup made from numbers, its cells. -/
import Derived.Test.YtdbngpncigjfiaaLives27
import Derived.Test.YtdbngpncigjfiaaCells27
import Derived.Test.YtdbngpncigjfiaaHas
import Derived.Deep.CutBlock
import Derived.Deep.DeepCutAuto
namespace Go.Proofs.Ytdbngpncigjfiaa
open Go.RowKit

theorem drewFr {w w' : World} (h : ∃ k, w' = w.drewN k) : Fr [] w w' := by obtain ⟨k, rfl⟩ := h; exact (Fr.refl [] _).drewN k
theorem infoVec : (Try.prog.info? 29).map (·.size) = some 2 := by kernel_rfl

section
variable {w w1 : World} {s : St} {bodies : List Bd} {rooms : List Bx} {doors : List (Int × Int)}
theorem Set27.ok (h : Set27 w w1 s bodies rooms doors) : s.Ok := by
  have h1 := h.pl
  have h2 := h.nb
  have h3 := h.b5
  exact ⟨by omega, by omega, by omega, by omega⟩
theorem Set27.few (h : Set27 w w1 s bodies rooms doors) : Few rooms doors := by
  refine ⟨by have := h.r5; omega, fun d hd => ?_⟩
  have h1 := h.dok d hd
  have h2 := h.r5
  unfold doorOk at h1
  omega
theorem Set27.bd (h : Set27 w w1 s bodies rooms doors) {u : World} (hu : Fr [] w1 u) : BodiesAt u s bodies := ⟨h.nb, h.rd.fr hu (by simp)⟩
theorem Set27.mapu (h : Set27 w w1 s bodies rooms doors) {u : World} (hu : Fr [] w1 u) : MapAt u s rooms doors := h.map.old hu
theorem Set27.vpre (h : Set27 w w1 s bodies rooms doors) {u : World} (hu : Fr [] w1 u) {pl n : Nat} (hpl : s.players = (pl : Int)) (hn : n = 48 + 4 * pl + 8 * bodies.length) {b : Nat} {cells : List Int}
    (hr : u.heap[b]? = some (row cells)) (hl : cells.length = n) (hp : PosOk pl bodies.length cells) : VPre u s bodies rooms doors (some ⟨b, 0, none⟩) n cells := by
  have h1 := h.pl
  have h2 := h.nb
  have h3 := h.b5
  have hm : cells.length ≤ maxLen := by rw [hl, hn]; unfold maxLen; omega
  refine ⟨⟨h.ok, by omega, h.bd hu, (row_seg hr hm).rd, by omega, by omega⟩, h.mapu hu, h.few, by rw [h2]; exact h.pn, by omega, fun i h0 h1 => ?_, h.fog.1, h.fog.2⟩
  have := hp i.toNat (by omega)
  unfold posX posY
  rw [show (48 + 4 * s.players + 8 * i).toNat = 48 + 4 * pl + 8 * i.toNat by omega]
  exact this
end
end Go.Proofs.Ytdbngpncigjfiaa
