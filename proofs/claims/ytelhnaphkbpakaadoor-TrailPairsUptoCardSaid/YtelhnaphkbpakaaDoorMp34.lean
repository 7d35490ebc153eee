/- Part 34 of the proof of TpP: lemmas. -/
import Derived.Test.YtelhnaphkbpakaaDoorMp33
namespace Go.Proofs.YtelhnaphkbpakaaDoor
set_option linter.unusedVariables false
structure Mk where
  kind : Int
  a : Int
  b : Int
  back : Int
def upFuel (F : For) : Nat → Nat → List Nat
  | 0, _ => []
  | n + 1, k => match upOf F k with
    | none => []
    | some u => u :: upFuel F n u
def ups (F : For) (k : Nat) : List Nat := upFuel F F.length k
theorem upFuel_chain {F : For} {k : Nat} {c : List Nat} (h : Chain F k c) : ∀ n l, c = k :: l → l.length ≤ n → upFuel F n k = l := by
  induction h with
  | @root k x hx hu =>
    intro n l e hl
    obtain rfl : l = [] := by simpa using e.symm
    cases n with
    | zero => rfl
    | succ n =>
      have : upOf F k = none := by unfold upOf; rw [hx]; exact hu
      unfold upFuel
      rw [this]
  | @up k u x c hx hu hc ih =>
    intro n l e hl
    obtain rfl : c = l := by simpa using e
    obtain ⟨t, ht⟩ := hc.ne_nil
    subst ht
    cases n with
    | zero => simp at hl
    | succ n =>
      have : upOf F k = some u := by unfold upOf; rw [hx]; exact hu
      unfold upFuel
      rw [this]
      show u :: upFuel F n u = u :: t
      rw [ih n t rfl (by simp at hl; omega)]
theorem ups_chain {F : For} {k : Nat} {l : List Nat} (h : Chain F k (k :: l)) : ups F k = l :=
  upFuel_chain h _ l rfl (by have := h.len; simp at this; omega)
def moveF (F : For) (m : Mk) : For :=
  match F[pick8 m.a F.length]?, F[pick8 m.b F.length]? with
  | some x, some y =>
    if x.live = false ∨ y.live = false then F
    else if m.kind = 6 then (if pick8 m.a F.length = pick8 m.b F.length ∨ pick8 m.a F.length ∈ ups F (pick8 m.b F.length) ∨ x.up.isSome = true then F else hng F (pick8 m.a F.length) (pick8 m.b F.length) (y.down.length - pick8 m.back (y.down.length + 1)))
    else if m.kind = 7 then (match x.up with | none => F | some u => cutF F (pick8 m.a F.length) u)
    else if m.kind = 8 then (if x.up.isSome = true ∨ x.down.isEmpty = false then F else Kill F (pick8 m.a F.length))
    else F
  | _, _ => F
def stepF (F : For) (m : Mk) : For := if 1 ≤ m.kind ∧ m.kind ≤ 5 then Made F 0 0 else moveF F m
def runS (L : List Mk) : For := L.foldl stepF []
theorem runS_snoc (L : List Mk) (m : Mk) : runS (L ++ [m]) = stepF (runS L) m := by simp [runS]
def fg (x : FN) : FN := { x with sl := 0, gn := 0 }
def fgt (F : For) : For := F.map fg
theorem fgt_len (F : For) : (fgt F).length = F.length := by simp [fgt]
theorem fgt_at (F : For) (k : Nat) : (fgt F)[k]? = (F[k]?).map fg := by simp [fgt]
theorem fgt_made (F : For) (s g : Nat) : fgt (Made F s g) = Made (fgt F) 0 0 := by simp [fgt, Made, fg]
theorem fgt_mod {F : For} {k : Nat} {f g : FN → FN} (h : ∀ x, fg (f x) = g (fg x)) : fgt (F.modify k f) = (fgt F).modify k g := by
  apply List.ext_getElem?
  intro j
  rw [fgt_at, List.getElem?_modify, List.getElem?_modify, fgt_at]
  by_cases e : k = j
  · subst e
    cases F[k]? with
    | none => rfl
    | some x => simp [h]
  · simp [e]
theorem fgt_hng (F : For) (i u p : Nat) : fgt (hng F i u p) = hng (fgt F) i u p := by
  unfold hng
  rw [fgt_mod (g := fun x => { x with up := some u }) (fun x => rfl), fgt_mod (g := fun y => { y with down := ins y.down p i }) (fun x => rfl)]
theorem fgt_cut (F : For) (i u : Nat) : fgt (cutF F i u) = cutF (fgt F) i u := by
  unfold cutF
  rw [fgt_mod (g := fun x => { x with up := none }) (fun x => rfl), fgt_mod (g := fun y => { y with down := y.down.filter (fun c => c != i) }) (fun x => rfl)]
theorem fgt_kill (F : For) (i : Nat) : fgt (Kill F i) = Kill (fgt F) i := by
  unfold Kill
  exact fgt_mod (fun x => rfl)
theorem fgt_up (F : For) (k : Nat) : upOf (fgt F) k = upOf F k := by
  unfold upOf
  rw [fgt_at]
  cases F[k]? <;> rfl
theorem fgt_upFuel (F : For) : ∀ n k, upFuel (fgt F) n k = upFuel F n k := by
  intro n
  induction n with
  | zero => intro k; rfl
  | succ n ih =>
    intro k
    unfold upFuel
    rw [fgt_up]
    cases upOf F k with
    | none => rfl
    | some u => show u :: _ = u :: _; rw [ih]
theorem fgt_ups (F : For) (k : Nat) : ups (fgt F) k = ups F k := by unfold ups; rw [fgt_len, fgt_upFuel]
theorem fgt_move (F : For) (m : Mk) : fgt (moveF F m) = moveF (fgt F) m := by
  unfold moveF
  rw [fgt_len, fgt_at, fgt_at, fgt_ups]
  cases h1 : F[pick8 m.a F.length]? with
  | none => rfl
  | some x =>
    cases h2 : F[pick8 m.b F.length]? with
    | none => rfl
    | some y =>
      simp only [Option.map_some]
      show fgt (if x.live = false ∨ y.live = false then F else _) = (if x.live = false ∨ y.live = false then fgt F else if m.kind = 6 then (if pick8 m.a F.length = pick8 m.b F.length ∨ pick8 m.a F.length ∈ ups F (pick8 m.b F.length) ∨ x.up.isSome = true then fgt F else hng (fgt F) (pick8 m.a F.length) (pick8 m.b F.length) (y.down.length - pick8 m.back (y.down.length + 1)))
        else if m.kind = 7 then (match x.up with | none => fgt F | some u => cutF (fgt F) (pick8 m.a F.length) u)
        else if m.kind = 8 then (if x.up.isSome = true ∨ x.down.isEmpty = false then fgt F else Kill (fgt F) (pick8 m.a F.length))
        else fgt F)
      split
      · rfl
      · split
        · split
          · rfl
          · exact fgt_hng _ _ _ _
        · split
          · cases x.up with
            | none => rfl
            | some u => exact fgt_cut _ _ _
          · split
            · split
              · rfl
              · exact fgt_kill _ _
            · rfl
theorem move_len (F : For) (m : Mk) : (moveF F m).length = F.length := by
  unfold moveF
  split
  · split
    · rfl
    · split
      · split
        · rfl
        · exact hng_len _ _ _ _
      · split
        · split
          · rfl
          · exact cutF_len _ _ _
        · split
          · split
            · rfl
            · exact kill_len _ _
          · rfl
  · rfl
theorem step_len (F : For) (m : Mk) : (stepF F m).length ≤ F.length + 1 := by
  unfold stepF
  split
  · simp [Made]
  · rw [move_len]; omega
theorem runS_len (L : List Mk) : ∀ F : For, (L.foldl stepF F).length ≤ F.length + L.length := by
  induction L with
  | nil => intro F; simp
  | cons m L ih =>
    intro F
    have h1 := ih (stepF F m)
    have h2 := step_len F m
    simp only [List.foldl_cons, List.length_cons]
    omega
theorem run_made {F : For} {L : List Mk} {m : Mk} (h : fgt F = runS L) (hm : 1 ≤ m.kind ∧ m.kind ≤ 5) (s g : Nat) : fgt (Made F s g) = runS (L ++ [m]) := by
  rw [runS_snoc, ← h, fgt_made]
  unfold stepF
  rw [if_pos hm]
theorem run_move {F : For} {L : List Mk} {m : Mk} (h : fgt F = runS L) (hm : ¬ (1 ≤ m.kind ∧ m.kind ≤ 5)) : fgt (moveF F m) = runS (L ++ [m]) := by
  rw [runS_snoc, ← h, fgt_move]
  unfold stepF
  rw [if_neg hm]
end Go.Proofs.YtelhnaphkbpakaaDoor
