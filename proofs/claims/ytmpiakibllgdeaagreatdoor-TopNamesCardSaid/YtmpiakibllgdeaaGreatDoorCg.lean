/-
  States of the small machine as texts; blocks that nobody sees any more are struck out. No statement of the seat is proved here. Conditions: none.
-/
import Derived.Test.YtmpiakibllgdeaaGreatDoorCf
set_option linter.unusedVariables false
set_option linter.unusedSimpArgs false
namespace Go.Ab
open Go.Proofs

/-! ### Short names -/
def vi (n : Nat) : Value := .int .i64 (.ofNat n)
def vb (n : Nat) : Value := .int .u8 (.ofNat n)
def vk (k : IntKind) (n : Nat) : Value := .int k (.ofNat n)
def vm (k : IntKind) (n : Nat) : Value := .int k (.negSucc n)
def vp (b o : Nat) : Value := .pointer (some ⟨b, o, none⟩)
def vs (b o l c : Nat) : Value := .slice (some ⟨b, o, none⟩) l c
def vg (l : List Value) : Value := .agg ⟨l⟩
def vt (l : List Value) : Value := .tuple ⟨l⟩
def vf (f : Nat) (a b : List Value) : Value := .func (.func f) ⟨a⟩ ⟨b⟩
def vS (l : List UInt8) : Value := .string ⟨⟨l⟩⟩
def vT : Value := .bool true
def vF : Value := .bool false
def vN : Value := .pointer none
def vE : Value := .slice none 0 0
def zs (n : Nat) : List Value := List.replicate n (vb 0)
def zi (n : Nat) : List Value := List.replicate n (vi 0)
def bs (l : List Nat) : List Value := l.map vb
def u1 : N8 Value := .rep undef
def u2 : N8 (N8 Value) := .rep u1
def e1 : N8 AObj := .rep .none
def e2 : N8 (N8 AObj) := .rep e1
def e3 : N8 (N8 (N8 AObj)) := .rep e2
def e4 : N8 (N8 (N8 (N8 AObj))) := .rep e3

/-- A part of a function's body. -/
def sub : Code → List Nat → Code
  | c, [] => c
  | .seq a b, n :: r => match n with | 0 => sub a r | _ => sub b r
  | .cond _ a b, n :: r => match n with | 0 => sub a r | _ => sub b r
  | .block _ c, _ :: r => sub c r
  | .loop c, _ :: r => sub c r
  | .scope c, _ :: r => sub c r
  | .rangeFunc _ _ a b, n :: r => match n with | 0 => sub a r | _ => sub b r
  | c, _ => c
noncomputable def bodyOf (f : Nat) : Code := match EE.P.funcs[f]? with
  | some fn => (match fn.body with | some b => b | none => .skip)
  | none => .skip
noncomputable def sb (f : Nat) (r : List Nat) : Code := sub (bodyOf f) r
def regOps : Code → Array Oper
  | .region _ ops _ => ops
  | _ => #[]
noncomputable def ic (f : Nat) (r : List Nat) : AItem := .code (sb f r)
noncomputable def il (f : Nat) (r : List Nat) : AItem := .inLoop (sb f r)
noncomputable def is (f : Nat) (r : List Nat) : AItem := .inScope (sb f r)
noncomputable def ir (f : Nat) (r : List Nat) (k : Nat) : AItem := .inRegion (regOps (sb f r)) ((regOps (sb f r)).toList.drop k)

def nb (c : Code) : List Nat → List (Nat × Oper)
  | [] => []
  | i :: r => match (regOps c).toList[i]? with
    | some o => (i, o) :: nb c r
    | none => nb c r
noncomputable def dr (f : Nat) (r : List Nat) (left done : List Nat) (mask : Nat) : AItem := .draw (regOps (sb f r)) (nb (sb f r) left) (nb (sb f r) done) mask

/-! ### Blocks that are struck out -/
def keepT (t : Tr AObj) : List Nat → Tr AObj → Tr AObj
  | [], s => s
  | b :: l, s => keepT t l (s.set b (t.get b))
noncomputable def keepK (t : Tr AObj) (l : List Nat) : Tr AObj → Tr AObj :=
  List.rec (motive := fun _ => Tr AObj → Tr AObj) (fun s => s) (fun b _ ih s => ih (setK s b (getK t b))) l
theorem keepK_eq (t : Tr AObj) : ∀ (l : List Nat) (s : Tr AObj), keepK t l s = keepT t l s
  | [], s => rfl
  | b :: l, s => by
    show keepK t l (setK s b (getK t b)) = _
    rw [setK_eq, getK_eq, keepK_eq t l]; rfl
/-- A state, but for blocks that are not in a list. -/
noncomputable def gcF (l : List Nat) (r : R) : Option AState := match r with
  | some (.next s) => AState.rec (motive := fun _ => Option AState) (fun fr cs h => AHeap.rec (motive := fun _ => Option AState) (fun t next floor busy => match floor, busy with
    | 0, [] => bif l.all (fun b => Nat.blt b heapMost) then some ⟨fr, cs, ⟨keepK t l (Tr.mk heapDepth .none), next, 0, []⟩⟩ else none
    | _, _ => none) h) s
  | _ => none

theorem keepT_get {t : Tr AObj} : ∀ (l : List Nat) (s : Tr AObj), (∀ b ∈ l, b < 8 ^ heapDepth) → Full heapDepth s → Full heapDepth (keepT t l s) ∧ ∀ a, a < 8 ^ heapDepth → (keepT t l s).get a = t.get a ∨ (keepT t l s).get a = s.get a
  | [], s, _, hs => ⟨hs, fun a _ => .inr rfl⟩
  | b :: l, s, hl, hs => by
    obtain ⟨h1, h2⟩ := keepT_get (t := t) l (s.set b (t.get b)) (fun x hx => hl x (by simp [hx])) (hs.set _ _)
    refine ⟨h1, fun a ha => ?_⟩
    rcases h2 a ha with e | e
    · exact .inl e
    · rw [get_set hs _ _ _ (hl b (by simp)) ha] at e
      by_cases hab : a = b
      · subst hab
        rw [if_pos rfl] at e
        exact .inl e
      · rw [if_neg hab] at e
        exact .inr e

theorem WR.keep {w0 w : World} {φ : Phi} {h : AHeap} (W : WR w0 φ h w) (l : List Nat) (hl : ∀ b ∈ l, b < 8 ^ heapDepth) (hb : h.busy = []) : WR w0 φ { h with t := keepT h.t l (Tr.mk heapDepth .none) } w := by
  obtain ⟨h1, h2⟩ := keepT_get (t := h.t) l (Tr.mk heapDepth .none) hl (Full.mk _ _)
  have key : ∀ a p, φ a = some p → (keepT h.t l (Tr.mk heapDepth .none)).get a = h.t.get a ∨ (keepT h.t l (Tr.mk heapDepth .none)).get a = .none := fun a p ha => by
    have := h2 a (W.lt_most ha).2
    rwa [get_mk] at this
  have f : ∀ a p, φ a = some p → isNone ((keepT h.t l (Tr.mk heapDepth .none)).get a) = false → (keepT h.t l (Tr.mk heapDepth .none)).get a = h.t.get a := fun a p ha hn => by
    rcases key a p ha with e | e
    · exact e
    · rw [e] at hn; simp [isNone] at hn
  refine { W with full := h1, live := fun a p ha => ?_, own := fun a p ha hn hr => ?_, disj := fun a a' p p' hne ha ha' hn hn' => ?_, busy := fun a p b left cur ha hi => ?_ }
  · show OR φ w p ((keepT h.t l (Tr.mk heapDepth .none)).get a)
    rcases key a p ha with e | e
    · rw [e]; exact W.live a p ha
    · rw [e]; trivial
  · change isNone ((keepT h.t l (Tr.mk heapDepth .none)).get a) = false at hn
    change isRo ((keepT h.t l (Tr.mk heapDepth .none)).get a) = false at hr
    have hfa := f a p ha hn
    rw [hfa] at hn hr
    exact W.own a p ha hn hr
  · change isNone ((keepT h.t l (Tr.mk heapDepth .none)).get a) = false at hn
    change isNone ((keepT h.t l (Tr.mk heapDepth .none)).get a') = false at hn'
    have hfa := f a p ha hn
    have hfa' := f a' p' ha' hn'
    rw [hfa] at hn
    rw [hfa'] at hn'
    exact W.disj a a' p p' hne ha ha' hn hn'
  · change (keepT h.t l (Tr.mk heapDepth .none)).get a = _ at hi
    rw [f a p ha (by rw [hi]; rfl)] at hi
    have := (W.busy a p b left cur ha hi).1
    rw [hb] at this
    cases this
/-- The small machine's state may be poorer. -/
theorem gcF_goes {w0 w : World} {base : List Frame} {h0 : AHeap} {φ0 : Phi} {fr' : Frame} {cs' : List Frame} {l : List Nat} {S S2 : AState} (e : gcF l (some (.next S)) = some S2) (g : Goes EE w0 base h0 φ0 fr' cs' w S) : Goes EE w0 base h0 φ0 fr' cs' w S2 := by
  obtain ⟨fr, cs, t, next, floor, busy⟩ := S
  change (match (generalizing := false) floor, busy with
    | 0, [] => bif l.all (fun b => Nat.blt b heapMost) then some (⟨fr, cs, ⟨keepK t l (Tr.mk heapDepth .none), next, 0, []⟩⟩ : AState) else none
    | _, _ => none) = some S2 at e
  split at e
  · cases hb : l.all (fun b => Nat.blt b heapMost) with
    | false => simp [hb] at e
    | true =>
      simp only [hb, cond_true, Option.some.injEq] at e
      subst e
      obtain ⟨fr2, cs2, w2, st, R2⟩ := g
      obtain ⟨φ, lo, W, G, hE, hK, F, St, hlo⟩ := R2.ex
      refine ⟨fr2, cs2, w2, st, ⟨φ, lo, ?_, G, hE, ?_, F, St, hlo⟩⟩
      · have hmo : heapMost = 8 ^ heapDepth := rfl
        have := WR.keep W l (fun b hb' => by
          have := List.all_eq_true.1 hb b hb'
          simp only [Nat.blt_eq] at this
          omega) rfl
        rw [keepK_eq]
        exact this
      · exact ⟨hK.floor, hK.next, fun le a ha => by
          have := hK.floor
          change 0 = h0.floor at this
          omega⟩
  · cases e
/-- One part of the run. -/
theorem part_goes {n : Nat} {l : List Nat} {S S2 : AState} (e : gcF l (goK (runF n) S) = some S2) (snd : Sound) {w0 w : World} {base : List Frame} {h0 : AHeap} {φ0 : Phi} {fr' : Frame} {cs' : List Frame} (Rl : Rel EE w0 base h0 φ0 S fr' cs' w) :
    Goes EE w0 base h0 φ0 fr' cs' w S2 := by
  have good : Good S (goK (runF n) S) := Good.frK (runF_good n) S.fr S.cs S.h
  generalize goK (runF n) S = r at e good
  cases r with
  | none => cases e
  | some o =>
    cases o with
    | next s => exact gcF_goes e (good (.next s) rfl snd w0 base h0 φ0 fr' cs' w Rl)
    | fork l => cases e
    | done v h => cases e
/-- The end of the run. -/
theorem last_ends {n : Nat} {S : AState} {v : Value} {h : AHeap} (e : goK (runF n) S = some (.done v h)) (snd : Sound) {w0 w : World} {base : List Frame} {h0 : AHeap} {φ0 : Phi} {fr' : Frame} {cs' : List Frame} (Rl : Rel EE w0 base h0 φ0 S fr' cs' w) :
    Ends EE w0 base h0 φ0 fr' cs' w v h :=
  (Good.frK (runF_good n) S.fr S.cs S.h : Good S (goK (runF n) S)) _ e snd w0 base h0 φ0 fr' cs' w Rl
end Go.Ab
