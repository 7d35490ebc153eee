/- Part 14 of the proof of RoP: lemmas. -/
import Derived.Test.YtelhnaphkbpakaaDoorMr13
namespace Go.Proofs.YtelhnaphkbpakaaDoor
open Go.RowKit
set_option linter.unusedVariables false
set_option maxRecDepth 100000
theorem Clip16.mono {B B' : Nat} {w : World} {a : Option Addr} {us : List Nat} (h : Clip16 B w a us) (hB : B' ≤ B) : Clip16 B' w a us := ⟨by obtain ⟨cap, hr⟩ := h.row; exact ⟨cap, hr.mono hB⟩, h.bnd, h.len⟩
theorem ClipA.mono {B B' : Nat} {w : World} {a : Option Addr} {L : List LA} (h : ClipA B w a L) (hB : B' ≤ B) : ClipA B' w a L := ⟨by obtain ⟨cap, hr⟩ := h.row; exact ⟨cap, hr.mono hB⟩, fun x hx => ⟨(h.val x hx).1.mono hB, (h.val x hx).2⟩, h.nam⟩
theorem Fresh.mono {B B' : Nat} {w : World} {N : Nd} (h : Fresh B w N) (hB : B' ≤ B) : Fresh B' w N := ⟨h.data.mono hB, h.dc, h.attrs.mono hB, h.ac, h.nam, h.len⟩
theorem Clip16.frt {B C : Nat} {w w' : World} {a : Option Addr} {us : List Nat} (h : Clip16 B w a us) (f : FrT [66] C w w') : Clip16 B w' a us := ⟨by obtain ⟨cap, hr⟩ := h.row; exact ⟨cap, f.row hr (by decide)⟩, h.bnd, h.len⟩
theorem Fresh.frt {B C : Nat} {w w' : World} {N : Nd} (h : Fresh B w N) (f : FrT [66] C w w') : Fresh B w' N :=
  ⟨h.data.frt f, h.dc, ⟨by obtain ⟨cap, hr⟩ := h.attrs.row; exact ⟨cap, f.row hr (by decide)⟩, fun x hx => ⟨(h.attrs.val x hx).1.frt f, (h.attrs.val x hx).2⟩, h.attrs.nam⟩, h.ac, h.nam, h.len⟩
end Go.Proofs.YtelhnaphkbpakaaDoor
