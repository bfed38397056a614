/- What lies in memory reads as plain data; what a call leaves as it was: words and small laws for the contracts of this seat. -/
import Derived.Test.YtpbicdbicikniaaRows
import Derived.WalkKit
import Derived.WalkSpells
import Derived.WalkLawsBesides
import Derived.Outline
import Derived.Deep.LoopGhost
import Derived.Deep.QuietTactic
import Derived.BigQuiet
import Derived.Lib.Hide
import Derived.Shelf.Abstract
namespace Go.Proofs.Ytpbicdbicikniaa
open Go.RowKit
set_option linter.unusedVariables false

/-- A number that an int holds. -/
def I64 (x : Int) : Prop := -9223372036854775808 ≤ x ∧ x ≤ 9223372036854775807

/-- A fact that the walk doesn't look into. -/
structure As (p : Prop) : Prop where mk :: (out : p)

/-- A set of blocks. -/
abbrev Bs := Nat → Prop

/-- How an element of a slice lies in memory: its cells, and how they read; within blocks of a set. -/
structure Ek (α : Type) where
  sz : Nat
  R : Bs → World → List Value → α → Prop
  len : ∀ {S w cs x}, R S w cs x → cs.length = sz
  mono : ∀ {S : Bs} {w w' : World} {cs x}, (∀ b, S b → b < w.heap.size → w'.heap[b]? = w.heap[b]?) → R S w cs x → R S w' cs x
  sub : ∀ {S T : Bs} {w cs x}, (∀ b, S b → T b) → R S w cs x → R T w cs x
  fit : ∀ {S : Bs} {w cs x}, R S w cs x → R (fun b => S b ∧ b < w.heap.size) w cs x

/-- A slice reads as a list. -/
def Sl {α : Type} (E : Ek α) (S : Bs) (w : World) (v : Value) (xs : List α) : Prop :=
  ∃ A c, v = .slice A xs.length c ∧ xs.length ≤ c ∧ c ≤ 9223372036854775807 ∧
    ∀ j x, xs[j]? = some x → ∃ b off cs, A = some ⟨b, off, none⟩ ∧ S b ∧ E.R S w cs x ∧ ∀ i u, cs[i]? = some u → w.cell? ⟨b, off + j * E.sz + i, none⟩ = some u

theorem cell_same {w w' : World} {a : Addr} {u : Value} (h : ∀ b, b = a.block → b < w.heap.size → w'.heap[b]? = w.heap[b]?) (hc : w.cell? a = some u) : w'.cell? a = some u := by
  have hb : a.block < w.heap.size := World.block_lt_of_cell? w a hc
  rw [World.cell?_of_block (h _ rfl hb), hc]

theorem Sl.mono {α : Type} {E : Ek α} {S : Bs} {w w' : World} {v : Value} {xs : List α} (hw : ∀ b, S b → b < w.heap.size → w'.heap[b]? = w.heap[b]?) (h : Sl E S w v xs) : Sl E S w' v xs := by
  obtain ⟨A, c, rfl, h1, h2, h3⟩ := h
  refine ⟨A, c, rfl, h1, h2, fun j x hx => ?_⟩
  obtain ⟨b, off, cs, e, hS, hR, hc⟩ := h3 j x hx
  exact ⟨b, off, cs, e, hS, E.mono hw hR, fun i u hu => cell_same (fun b' e' => by subst e'; exact hw _ hS) (hc i u hu)⟩

theorem Sl.sub {α : Type} {E : Ek α} {S T : Bs} {w : World} {v : Value} {xs : List α} (hST : ∀ b, S b → T b) (h : Sl E S w v xs) : Sl E T w v xs := by
  obtain ⟨A, c, rfl, h1, h2, h3⟩ := h
  refine ⟨A, c, rfl, h1, h2, fun j x hx => ?_⟩
  obtain ⟨b, off, cs, e, hS, hR, hc⟩ := h3 j x hx
  exact ⟨b, off, cs, e, hST _ hS, E.sub hST hR, hc⟩

theorem Sl.fit {α : Type} {E : Ek α} {S : Bs} {w : World} {v : Value} {xs : List α} (hpos : 0 < E.sz) (h : Sl E S w v xs) : Sl E (fun b => S b ∧ b < w.heap.size) w v xs := by
  obtain ⟨A, c, rfl, h1, h2, h3⟩ := h
  refine ⟨A, c, rfl, h1, h2, fun j x hx => ?_⟩
  obtain ⟨b, off, cs, e, hS, hR, hc⟩ := h3 j x hx
  have hl := E.len hR
  have h0 : cs[0]? = some cs[0] := List.getElem?_eq_getElem (by omega)
  exact ⟨b, off, cs, e, ⟨hS, World.block_lt_of_cell? w _ (hc 0 _ h0)⟩, E.fit hR, hc⟩

/-- Elements whose cells say all. -/
def flatE {α : Type} (n : Nat) (enc : α → List Value) (hn : ∀ x, (enc x).length = n) (ok : α → Prop) : Ek α where
  sz := n
  R := fun _ _ cs x => cs = enc x ∧ ok x
  len := fun h => by rw [h.1]; exact hn _
  mono := fun _ h => h
  sub := fun _ h => h
  fit := fun h => h

def intE : Ek Int := flatE 1 (fun x => [.int .i64 x]) (fun _ => rfl) I64

/-- What a call may have changed: blocks of a set, and new ones. -/
structure Upd (M : Bs) (w w' : World) : Prop where
  os : w'.os = w.os
  tape : w'.tape = w.tape
  output : w'.output = w.output
  size : w.heap.size ≤ w'.heap.size
  block : ∀ k, k < w.heap.size → ¬ M k → w'.heap[k]? = w.heap[k]?

/-- A set, and the blocks that are new. -/
def plus (S : Bs) (w w' : World) : Bs := fun b => S b ∨ (w.heap.size ≤ b ∧ b < w'.heap.size)

theorem Sl.below {α : Type} {E : Ek α} {S : Bs} {w w' : World} {v : Value} {xs : List α} (hb : Below w.heap.size w w') (h : Sl E S w v xs) : Sl E S w' v xs :=
  h.mono fun b _ hlt => hb.block b hlt

theorem Sl.nil {α : Type} {E : Ek α} {S : Bs} {w : World} : Sl E S w (.slice none 0 0) [] := ⟨none, 0, rfl, Nat.le_refl _, by omega, fun j x h => by simp at h⟩

def intAt (l : List Int) (j : Nat) : Int := l.getD j 0
/-- A slice of whole numbers, an element of it. -/
theorem Sl.int_at {S : Bs} {w : World} {A : Option Addr} {n c : Nat} {xs : List Int} (h : Sl intE S w (.slice A n c) xs) (k : Nat) (hk : k < xs.length) :
    ∃ b off, A = some ⟨b, off, none⟩ ∧ S b ∧ I64 (intAt xs k) ∧ w.cell? ⟨b, off + k, none⟩ = some (.int .i64 (intAt xs k)) := by
  obtain ⟨A', c', e, _, _, h3⟩ := h
  obtain ⟨rfl, _, _⟩ : A = A' ∧ n = xs.length ∧ c = c' := by injection e with e1 e2 e3; exact ⟨e1, e2, e3⟩
  obtain ⟨b, off, cs, rfl, hS, ⟨rfl, hI⟩, hc⟩ := h3 k (intAt xs k) (by simp [intAt, hk])
  refine ⟨b, off, rfl, hS, hI, ?_⟩
  have := hc 0 _ rfl
  simpa [intE, flatE] using this

theorem Sl.len_eq {α : Type} {E : Ek α} {S : Bs} {w : World} {A : Option Addr} {n c : Nat} {xs : List α} (h : Sl E S w (.slice A n c) xs) : n = xs.length ∧ n ≤ c ∧ c ≤ 9223372036854775807 := by
  obtain ⟨A', c', e, h1, h2, _⟩ := h
  injection e with e1 e2 e3
  omega

/-- A contract that leaves the world as it is, in a region that draws. -/
theorem qs {P : Program} {f : FuncId} {args : Array Value} {w : World} {n : Nat} {v : Value}
    (h : Calls P f args (w.drewN n) fun e w' => e = .returned v ∧ w.drewN n = w') : Calls P f args (w.drewN n) fun e w'' => e = .returned v ∧ ∃ m, w'' = w.drewN m :=
  h.mono fun _ _ ⟨he, hm⟩ => ⟨he, n, hm.symm⟩

theorem bel_alloc {w W : World} (h : Below w.heap.size w W) {o : Obj} : Below w.heap.size w (W.alloc o) := h.alloc h.size o
theorem bel_drew {w W : World} (h : Below w.heap.size w W) : Below w.heap.size w W.drew := h.drew
theorem bel_drewN {w W : World} (h : Below w.heap.size w W) {n : Nat} : Below w.heap.size w (W.drewN n) := ⟨h.os, h.tape, h.output, h.size, h.block⟩
theorem bel_set {w W : World} (h : Below w.heap.size w W) {p : Addr} (hp : w.heap.size ≤ p.block) (u : Value) : Below w.heap.size w (W.setCell p u) := h.setCell hp u
theorem bel_trans {w w1 w2 : World} (h : Below w.heap.size w w1) (k : Below w1.heap.size w1 w2) : Below w.heap.size w w2 := h.trans (k.mono h.size)

theorem new_cell (w : World) (cs : Array Value) (t : TypeId) (k : Nat) (u : Value) (h : cs[k]? = some u) : (w.alloc (.cells cs t)).cell? ⟨w.heap.size, k, none⟩ = some u := by
  have e := heap_alloc_new w (.cells cs t)
  unfold World.cell?
  simp only [e]
  simpa using h
theorem cell_bel {w w' : World} {a : Addr} {u : Value} (h : Below w.heap.size w w') (hc : w.cell? a = some u) : w'.cell? a = some u :=
  (h.cell (World.block_lt_of_cell? w a hc)).trans hc

/-- For the walk: what lay there reads as it did. -/
theorem bcell {w w' : World} (h : Below w.heap.size w w') : ∀ b o, b < w.heap.size → w'.cell? ⟨b, o, none⟩ = w.cell? ⟨b, o, none⟩ := fun _ _ hb => h.cell hb

theorem bfroz {w w' : World} (h : Below w.heap.size w w') : ∀ b o, b < w.heap.size → w'.frozen? ⟨b, o, none⟩ = w.frozen? ⟨b, o, none⟩ := fun _ _ hb => h.frozen hb

/-- A function value's function may be entered. -/
def Ent (P : Program) (g : Nat) : Prop := ∀ args w, (callFunc g args).run P w = .ok (.enter g args) w

/-! A block of the call's own, known whole. -/
def Blk (w : World) (b : Nat) (cs : Array Value) (t : TypeId) : Prop := w.heap[b]? = some (.cells cs t (0, 0))
theorem blk_new (w : World) (cs : Array Value) (t : TypeId) : Blk (w.alloc (.cells cs t)) w.heap.size cs t := heap_alloc_new w _
theorem Blk.alloc {w : World} {b : Nat} {cs : Array Value} {t : TypeId} (h : Blk w b cs t) (o : Obj) : Blk (w.alloc o) b cs t := by
  have hb : b < w.heap.size := (Array.getElem?_eq_some_iff.1 h).1
  exact (heap_alloc_old w o hb).trans h
theorem Blk.keep {w w' : World} {b : Nat} {cs : Array Value} {t : TypeId} (h : Blk w b cs t) (e : w'.heap[b]? = w.heap[b]?) : Blk w' b cs t := e.trans h
theorem Blk.below {w w' : World} {b : Nat} {cs : Array Value} {t : TypeId} (h : Blk w b cs t) (hb : Below w.heap.size w w') : Blk w' b cs t := h.keep (hb.block b (Array.getElem?_eq_some_iff.1 h).1)
theorem Blk.set {w : World} {b : Nat} {cs : Array Value} {t : TypeId} (h : Blk w b cs t) (i : Nat) (u : Value) : Blk (w.setCell ⟨b, i, none⟩ u) b (cs.setIfInBounds i u) t := heap_setCell_same w b i cs t u h
theorem Blk.set_other {w : World} {b : Nat} {cs : Array Value} {t : TypeId} (h : Blk w b cs t) {a : Addr} (hne : b ≠ a.block) (u : Value) : Blk (w.setCell a u) b cs t := h.keep (Below.heap_setCell _ _ _ _ hne)
theorem Blk.drew {w : World} {b : Nat} {cs : Array Value} {t : TypeId} (h : Blk w b cs t) (n : Nat) : Blk (w.drewN n) b cs t := h
theorem Blk.cell {w : World} {b : Nat} {cs : Array Value} {t : TypeId} (h : Blk w b cs t) (i : Nat) (u : Value) (hu : cs[i]? = some u) : w.cell? ⟨b, i, none⟩ = some u := by
  unfold World.cell?
  have h' : w.heap[b]? = some (.cells cs t (0, 0)) := h
  simp only [h']
  simpa using hu
theorem Blk.frozen {w : World} {b : Nat} {cs : Array Value} {t : TypeId} (h : Blk w b cs t) (i : Nat) : w.frozen? ⟨b, i, none⟩ = false := frozen_of_row w b i cs t h
theorem Blk.lt {w : World} {b : Nat} {cs : Array Value} {t : TypeId} (h : Blk w b cs t) : b < w.heap.size := (Array.getElem?_eq_some_iff.1 h).1

/-! A region that draws its order, whose operations read, and whose calls make new memory. -/

/-- A world in which all that lay in w lies as it lay. -/
structure Wb (w : World) where
  W : World
  h : Below w.heap.size w W
instance Wb.some (w : World) : Nonempty (Wb w) := ⟨⟨w, Below.refl _ w⟩⟩
@[go_sem] theorem Wb.cell {w : World} (i : Wb w) (a : Addr) (h : a.block < w.heap.size) : i.W.cell? a = w.cell? a := i.h.cell h
theorem qb {P : Program} {f : FuncId} {args : Array Value} {w : World} {i : Wb w} {v : Value}
    (h : Calls P f args i.W fun e w' => e = .returned v ∧ Below i.W.heap.size i.W w') : Calls P f args i.W fun e w'' => e = .returned v ∧ ∃ j : Wb w, w'' = j.W :=
  h.mono fun _ w'' ⟨he, hm⟩ => ⟨he, ⟨w'', bel_trans i.h hm⟩, rfl⟩
theorem qbs {P : Program} {f : FuncId} {args : Array Value} {w : World} {i : Wb w} {v : Value}
    (h : Calls P f args i.W fun e w' => e = .returned v ∧ i.W = w') : Calls P f args i.W fun e w'' => e = .returned v ∧ ∃ j : Wb w, w'' = j.W :=
  h.mono fun _ w'' ⟨he, hm⟩ => ⟨he, i, hm.symm⟩
theorem wb_below {w w' : World} (h : ∃ i : Wb w, w' = i.W) : Below w.heap.size w w' := by obtain ⟨i, rfl⟩ := h; exact i.h
theorem wp_region_bel {P : Program} {id : Nat} {Q : Exit → Act → World → Prop} {a : Act} {w : World} {l : List Oper} (hm : P.follows .mixedOrders = true) (hB : Region.lexB .any l.toArray = true)
    (h : wpQuiet P l.toArray (fun W => ∃ i : Wb w, W = i.W) (fun a' => ∀ w', (∃ i : Wb w, w' = i.W) → Q .normal a' w') l a) : (Code.region id l.toArray true).wp P Q a w :=
  wp_region_quiet (C := fun W => ∃ i : Wb w, W = i.W) hm hB ⟨⟨_, (Below.refl _ w).drew⟩, rfl⟩ (by simpa using h)

end Go.Proofs.Ytpbicdbicikniaa
