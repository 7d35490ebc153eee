/- SetAttr: an attribute is given a value. -/
import Derived.Deep.RegionHeld3
import Derived.Test.YtelhnaphkbpakaaDoorMw13
namespace Go.Proofs.YtelhnaphkbpakaaDoor
open Go.RowKit
set_option linter.unusedVariables false
set_option maxRecDepth 100000

/-- What a node has. -/
structure NC where
  kind : Int
  name : ByteArray
  data : List Nat
  attrs : List (ByteArray × List Nat)
  slot : Int
  gen : Int
def Nd.c (N : Nd) : NC := ⟨N.kind, N.name, N.data, N.L.map attrOf, N.slot, N.gen⟩
theorem Nd.Same.c {M N : Nd} (h : M.Same N) : M.c = N.c := by unfold Nd.c; rw [h.kind, h.name, h.data, h.attrs, h.slot, h.gen]
def NC.zero : NC := ⟨0, ⟨#[]⟩, [], [], 0, 0⟩
def Nd.zero : Nd := ⟨0, ⟨#[]⟩, none, 0, [], none, 0, [], 0, 0⟩
theorem Nd.zero_c : Nd.zero.c = NC.zero := rfl
theorem Clip16.nil (B : Nat) (w : World) : Clip16 B w none [] := ⟨⟨0, World.ownsRow_nil _ _ _ _⟩, by simp, by simp⟩
theorem Fresh.zero (B : Nat) (w : World) : Fresh B w Nd.zero := ⟨Clip16.nil B w, rfl, ⟨⟨0, World.ownsRow_nil _ _ _ _⟩, (fun _ hx => absurd hx (List.not_mem_nil)), (fun _ hx => absurd hx (List.not_mem_nil))⟩, rfl, by decide, by decide⟩
theorem Clip16.mono {B B' : Nat} {w : World} {a : Option Addr} {us : List Nat} (h : Clip16 B w a us) (hB : B' ≤ B) : Clip16 B' w a us := ⟨by obtain ⟨cap, hr⟩ := h.row; exact ⟨cap, hr.mono hB⟩, h.bnd, h.len⟩
theorem ClipA.mono {B B' : Nat} {w : World} {a : Option Addr} {L : List LA} (h : ClipA B w a L) (hB : B' ≤ B) : ClipA B' w a L := ⟨by obtain ⟨cap, hr⟩ := h.row; exact ⟨cap, hr.mono hB⟩, fun x hx => ⟨(h.val x hx).1.mono hB, (h.val x hx).2⟩, h.nam⟩
theorem Fresh.mono {B B' : Nat} {w : World} {N : Nd} (h : Fresh B w N) (hB : B' ≤ B) : Fresh B' w N := ⟨h.data.mono hB, h.dc, h.attrs.mono hB, h.ac, h.nam, h.len⟩

theorem Clip16.frt {B C : Nat} {w w' : World} {a : Option Addr} {us : List Nat} (h : Clip16 B w a us) (f : FrT [66] C w w') : Clip16 B w' a us := ⟨by obtain ⟨cap, hr⟩ := h.row; exact ⟨cap, f.row hr (by decide)⟩, h.bnd, h.len⟩
theorem Fresh.frt {B C : Nat} {w w' : World} {N : Nd} (h : Fresh B w N) (f : FrT [66] C w w') : Fresh B w' N :=
  ⟨h.data.frt f, h.dc, ⟨by obtain ⟨cap, hr⟩ := h.attrs.row; exact ⟨cap, f.row hr (by decide)⟩, fun x hx => ⟨(h.attrs.val x hx).1.frt f, (h.attrs.val x hx).2⟩, h.attrs.nam⟩, h.ac, h.nam, h.len⟩

def isNm2 (name : ByteArray) (x : ByteArray × List Nat) : Bool := x.1.toList == name.toList
/-- The attributes, one set. -/
def setD (l : List (ByteArray × List Nat)) (name : ByteArray) (v : List Nat) : List (ByteArray × List Nat) :=
  if l.findIdx (isNm2 name) < l.length then l.modify (l.findIdx (isNm2 name)) (fun x => (x.1, v)) else l ++ [(name, v)]
def setAttrD (N : NC) (name : ByteArray) (v : List Nat) : NC × Int :=
  if N.kind ≠ 1 then (NC.zero, 63) else if namedD name = false then (NC.zero, 62) else ({ N with attrs := setD N.attrs name v }, 0)
theorem findIdx_map (L : List LA) (name : ByteArray) : (L.map attrOf).findIdx (isNm2 name) = L.findIdx (isNm name) := by
  rw [List.findIdx_map]; rfl

theorem set_modify {L : List LA} {i : Nat} {x : LA} {us : List Nat} (h : L[i]? = some x) {y : LA} (hy : attrOf y = (x.name, us)) : (L.set i y).map attrOf = (L.map attrOf).modify i (fun x => (x.1, us)) := by
  apply List.ext_getElem?
  intro j
  rw [List.getElem?_modify, List.getElem?_map, List.getElem?_map]
  by_cases e : i = j
  · subst e
    rw [List.getElem?_set_self (List.getElem?_eq_some_iff.1 h).1, h]
    rw [Option.map_some, hy]
    simp [attrOf]
  · rw [List.getElem?_set_ne e]
    cases L[j]? <;> simp [e]
theorem cellsA_set {L : List LA} {i : Nat} {x : LA} (h : L[i]? = some x) {a : Option Addr} {us : List Nat} : cellsA (L.set i ⟨x.name, a, us.length, us⟩) = (cellsA L).set (i * 2 + 1) (.slice a us.length us.length) := by
  induction L generalizing i with
  | nil => simp at h
  | cons y l ih =>
    have e (z : LA) (m : List LA) : cellsA (z :: m) = .string z.name :: .slice z.va z.val.length z.vc :: cellsA m := rfl
    cases i with
    | zero =>
      obtain rfl : y = x := by simpa using h
      rfl
    | succ i =>
      have h2 : l[i]? = some x := by simpa using h
      rw [List.set_cons_succ, e, e, ih h2, show (i + 1) * 2 + 1 = (i * 2 + 1) + 1 + 1 by omega]
      rfl

end Go.Proofs.YtelhnaphkbpakaaDoor

