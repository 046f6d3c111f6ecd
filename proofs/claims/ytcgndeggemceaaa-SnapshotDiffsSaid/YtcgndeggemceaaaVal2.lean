/- Package layout: validNumbers, validBody. -/
import Derived.Test.YtcgndeggemceaaaVal
namespace Go.Proofs.Ytcgndeggemceaaa
open Go.RowKit

def stCells (s : St) : Array Value := #[.int .i64 s.players, .slice s.bo s.nb s.bc, .int .i64 s.x0, .int .i64 s.y0, .int .i64 s.x1, .int .i64 s.y1, .slice s.ro s.rn s.rc, .slice s.dO s.dn s.dc, .int .i64 s.fog, .int .i64 s.gx, .int .i64 s.gy, .int .i64 s.push, .int .i64 s.drag, .int .i64 s.rest, .int .i64 s.rounds, .int .i64 s.fuel]

/-- a body -/
structure Bd where
  rad : Int
  po : Option Addr
  pn : Nat
  pc : Nat
  px : Int
  py : Int
  vx : Int
  vy : Int
  im : Int
  a : Int
  b : Int
def Bd.cells (d : Bd) : List Value := [.int .i64 d.rad, .slice d.po d.pn d.pc, .int .i64 d.px, .int .i64 d.py, .int .i64 d.vx, .int .i64 d.vy, .int .i64 d.im, .int .i64 d.a, .int .i64 d.b]
def Bd.shape (d : Bd) : Value := .agg #[.int .i64 d.rad, .slice d.po d.pn d.pc]
def Bd.motion (d : Bd) : Value := .agg #[.int .i64 d.px, .int .i64 d.py, .int .i64 d.vx, .int .i64 d.vy, .int .i64 d.im]
def Bd.val (d : Bd) : Value := .agg #[.int .i64 d.rad, .slice d.po d.pn d.pc, .int .i64 d.px, .int .i64 d.py, .int .i64 d.vx, .int .i64 d.vy, .int .i64 d.im, .int .i64 d.a, .int .i64 d.b]

def n1 (s : St) : Bool := inB (1) (8) s.players
def n2 (s : St) : Bool := inB (s.players) (24) (s.nb : Int)
def n3 (s : St) : Bool := inB (0) (4194304) s.fog
def n4 (s : St) : Bool := inB (-16384) (16384) s.gx && inB (-16384) (16384) s.gy
def n5 (s : St) : Bool := inB (0) (16384) s.push
def n6 (s : St) : Bool := inB (0) (1024) s.drag && inB (0) (1024) s.rest
def n7 (s : St) : Bool := inB (1) (4) s.rounds
def n8 (s : St) : Bool := inB (0) (1000) s.fuel
def numsB (s : St) : Bool := n1 s && n2 s && n3 s && n4 s && n5 s && n6 s && n7 s && n8 s
theorem St.bnd (s : St) : 0 ≤ (s.nb : Int) := by omega

def d1 (d : Bd) (x0 y0 x1 y1 : Int) : Bool := inB (0) (4096) d.im
def d2 (d : Bd) (x0 y0 x1 y1 : Int) : Bool := inB (-16384) (16384) d.vx && inB (-16384) (16384) d.vy
def d3 (d : Bd) (x0 y0 x1 y1 : Int) : Bool := inB (x0) (x1) d.px
def d4 (d : Bd) (x0 y0 x1 y1 : Int) : Bool := inB (y0) (y1) d.py
def d5 (d : Bd) (x0 y0 x1 y1 : Int) : Bool := inB (-2147483647) (2147483647) d.a && inB (-2147483647) (2147483647) d.b
def bodyB (d : Bd) (x0 y0 x1 y1 : Int) : Bool := d1 d x0 y0 x1 y1 && d2 d x0 y0 x1 y1 && d3 d x0 y0 x1 y1 && d4 d x0 y0 x1 y1 && d5 d x0 y0 x1 y1
theorem alloc_new3 (w : World) (a b o' : Obj) : (((w.alloc a).alloc b).alloc o').heap[w.heap.size + 1 + 1]? = some o' := by
  have := alloc_new ((w.alloc a).alloc b) o'
  rwa [World.size_alloc, World.size_alloc] at this
theorem alloc_new4 (w : World) (a b c o' : Obj) : ((((w.alloc a).alloc b).alloc c).alloc o').heap[w.heap.size + 1 + 1 + 1]? = some o' := by
  have := alloc_new (((w.alloc a).alloc b).alloc c) o'
  rwa [World.size_alloc, World.size_alloc, World.size_alloc] at this

end Go.Proofs.Ytcgndeggemceaaa