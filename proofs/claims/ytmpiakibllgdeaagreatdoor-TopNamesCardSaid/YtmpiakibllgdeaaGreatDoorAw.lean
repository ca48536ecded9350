/-
  The small machine's relation to the model's: memory. No statement of the seat is proved here. Conditions: none.
-/
import Derived.Test.YtmpiakibllgdeaaGreatDoorAr
set_option linter.unusedVariables false
set_option linter.unusedSimpArgs false
namespace Go.Ab

def TmpsR (φ : Phi) (n : Nat) (t : Tr Value) (ts : Array Value) : Prop :=
  Full (tDepth n) t ∧ ts.size = n ∧ ∀ i, i < n → VR φ (t.get i) (ts.getD i undef)

structure LoopR (φ : Phi) (l : ALoop) (l' : Loop) : Prop where
  state : l'.state = l.state
  pending : l'.pending = l.pending
  fn : l'.fn = l.fn
  tmps : TmpsR φ l.n l.tmps l'.tmps
  params : l'.params.toList = l.params
  assign : l'.assign = l.assign
  body : l'.body = l.body
  defers : ∃ p, φ l.defers = some p ∧ l'.defers = p.b

inductive DefR (φ : Phi) : Deferred → Deferred → Prop
  | fn (fn fn' : Fn) (c c' a a' : Array Value) : FnR φ fn fn' → VRs φ c.toList c'.toList → VRs φ a.toList a'.toList →
      DefR φ { target := .fn fn c, args := a } { target := .fn fn' c', args := a' }
  | collected (b : Nat) (p : Pl) : φ b = some p → DefR φ { target := .collected b, args := #[] } { target := .collected p.b, args := #[] }
inductive DefRs (φ : Phi) : List Deferred → List Deferred → Prop
  | nil : DefRs φ [] []
  | cons {d d' : Deferred} {l l' : List Deferred} : DefR φ d d' → DefRs φ l l' → DefRs φ (d :: l) (d' :: l')

structure MR (φ : Phi) (l : List (Value × Value)) (es : Array MapEntry) (clock : Nat) : Prop where
  len : es.size = l.length
  fwd : ∀ k v, (k, v) ∈ l → ∃ e ∈ es.toList, e.key = k ∧ VR φ v e.val
  bwd : ∀ e ∈ es.toList, ∃ v, (e.key, v) ∈ l ∧ VR φ v e.val
  keys : (l.map (·.1)).Nodup
  keys' : (es.toList.map (·.key)).Nodup
  kind : ∃ kd, (∀ p ∈ l, ∃ n, p.1 = .int kd n) ∧ ∀ e ∈ es.toList, ∃ n, e.key = .int kd n
  borns : (es.toList.map (·.born)).Nodup
  clock : ∀ e ∈ es.toList, e.born < clock

structure IterR (φ : Phi) (w : World) (pm : Pl) (left : List (Value × Value)) (cur : Option (Value × Value)) (since : Nat) (seen : Array Nat) (stepped : Nat) : Prop where
  es : ∃ es clock, w.heap[pm.b]? = some (.map es clock) ∧ since = clock ∧ stepped = clock ∧ (es.toList.map (·.born)).Nodup ∧ (es.toList.map (·.key)).Nodup ∧ (∀ e ∈ es.toList, e.born < clock) ∧
    (∀ k v, (k, v) ∈ left → ∃ e ∈ es.toList, e.key = k ∧ VR φ v e.val ∧ e.born ∉ seen.toList) ∧
    (∀ e ∈ es.toList, e.born ∉ seen.toList → ∃ v, (e.key, v) ∈ left ∧ VR φ v e.val) ∧ (left.map (·.1)).Nodup ∧
    (∀ k v, cur = some (k, v) → ∃ e ∈ es.toList, seen.back? = some e.born ∧ e.key = k ∧ VR φ v e.val)

def KR (k : AKind) (p : Pl) (n size : Nat) (e : TypeId) (fz : Nat × Nat) : Prop :=
  match k with
  | .var t => e = t ∧ p.g = none ∧ p.o = 0 ∧ size = n ∧ p.r = n ∧ fz.2 ≤ fz.1
  | .row t => e = t ∧ p.g = none ∧ (fz.1 = fz.2 ∨ size ≤ fz.1)
  | .grow t s => e = t ∧ p.g = some s
  | .ro => p.g = none

structure CR (φ : Phi) (k : AKind) (p : Pl) (c : List Value) (c' : Array Value) (e : TypeId) (fz : Nat × Nat) : Prop where
  kind : KR k p c.length c'.size e fz
  fits : p.o + p.r ≤ c'.size
  len : c.length ≤ p.r
  cells : ∀ i v, c[i]? = some v → ∃ v', c'[p.o + i]? = some v' ∧ VR φ v v'
  soft : k ≠ .ro → ∀ j, p.o ≤ j → j < p.o + p.r → ¬ (fz.1 ≤ j ∧ j < fz.2)

def OR (φ : Phi) (w : World) (p : Pl) : AObj → Prop
  | .none => True
  | .cells c k => ∃ c' e fz, w.heap[p.b]? = some (.cells c' e fz) ∧ CR φ k p c c' e fz
  | .map l => p.o = 0 ∧ p.r = 1 ∧ ∃ es clock, w.heap[p.b]? = some (.map es clock) ∧ MR φ l es clock
  | .iter m left cur => p.o = 0 ∧ p.r = 1 ∧ ∃ m' since seen stepped, w.heap[p.b]? = some (.mapIter m' since seen stepped) ∧
      match m with
      | none => m' = none
      | some b => ∃ pm, φ b = some pm ∧ m' = some pm.b ∧ IterR φ w pm left cur since seen stepped
  | .loop l => p.o = 0 ∧ p.r = 1 ∧ ∃ l', w.heap[p.b]? = some (.loop l') ∧ LoopR φ l l'
  | .deferred d => p.o = 0 ∧ p.r = 1 ∧ ∃ d', w.heap[p.b]? = some (.deferred d') ∧ match d, d' with
      | none, none => True
      | some l, some l' => DefRs φ l l'
      | _, _ => False

def isNone : AObj → Bool
  | .none => true
  | _ => false
def isRo : AObj → Bool
  | .cells _ .ro => true
  | _ => false

structure WR (w0 : World) (φ : Phi) (h : AHeap) (w : World) : Prop where
  full : Full heapDepth h.t
  next : h.next ≤ heapMost
  fresh : ∀ a, h.next ≤ a → φ a = none
  live : ∀ a p, φ a = some p → OR φ w p (h.t.get a)
  own : ∀ a p, φ a = some p → isNone (h.t.get a) = false → isRo (h.t.get a) = false → w0.heap.size ≤ p.b
  disj : ∀ a a' p p', a ≠ a' → φ a = some p → φ a' = some p' → isNone (h.t.get a) = false → isNone (h.t.get a') = false →
    p.b ≠ p'.b
  busy : ∀ a p b left cur, φ a = some p → h.t.get a = .iter (some b) left cur → (b, a) ∈ h.busy ∧ (∃ l, h.t.get b = .map l) ∧ (φ b).isSome = true
  size : w0.heap.size ≤ w.heap.size
  base : ∀ b, b < w0.heap.size → w.heap[b]? = w0.heap[b]?
  os : w.os = w0.os
  tape : w.tape = w0.tape
  output : w.output = w0.output

theorem WR.disj3 {w0 w : World} {φ : Phi} {h : AHeap} (W : WR w0 φ h w) (a a' : Nat) (p p' : Pl) (hne : a ≠ a') (ha : φ a = some p) (ha' : φ a' = some p') (hn : isNone (h.t.get a) = false) (hn' : isNone (h.t.get a') = false) :
    p.b ≠ p'.b ∨ p.o + p.r ≤ p'.o ∨ p'.o + p'.r ≤ p.o := .inl (W.disj a a' p p' hne ha ha' hn hn')

/-- phq knows more than φ, and of the numbers below n the same. -/
def Ext (n : Nat) (φ phq : Phi) : Prop := Sub φ phq ∧ ∀ a, a < n → phq a = φ a
theorem Ext.refl (n : Nat) (φ : Phi) : Ext n φ φ := ⟨Sub.refl φ, fun _ _ => rfl⟩
theorem Ext.trans {n m : Nat} {a b c : Phi} (h : Ext n a b) (k : Ext m b c) (le : n ≤ m) : Ext n a c :=
  ⟨h.1.trans k.1, fun x hx => (k.2 x (Nat.lt_of_lt_of_le hx le)).trans (h.2 x hx)⟩
theorem Ext.mono {n m : Nat} {a b : Phi} (h : Ext n a b) (le : m ≤ n) : Ext m a b := ⟨h.1, fun x hx => h.2 x (Nat.lt_of_lt_of_le hx le)⟩

theorem TmpsR.mono {φ phq : Phi} (h : Sub φ phq) {n : Nat} {t : Tr Value} {ts : Array Value} (k : TmpsR φ n t ts) : TmpsR phq n t ts :=
  ⟨k.1, k.2.1, fun i hi => (k.2.2 i hi).mono h⟩
theorem LoopR.mono {φ phq : Phi} (h : Sub φ phq) {l : ALoop} {l' : Loop} (k : LoopR φ l l') : LoopR phq l l' :=
  { k with tmps := k.tmps.mono h, defers := let ⟨p, a, b⟩ := k.defers; ⟨p, h _ _ a, b⟩ }
theorem DefR.mono {φ phq : Phi} (h : Sub φ phq) {d d' : Deferred} : DefR φ d d' → DefR phq d d'
  | .fn f0 f1 c c' a a' f x y => .fn f0 f1 c c' a a' (f.mono h) (x.mono h) (y.mono h)
  | .collected b p e => .collected b p (h _ _ e)
theorem DefRs.mono {φ phq : Phi} (h : Sub φ phq) {d d' : List Deferred} : DefRs φ d d' → DefRs phq d d'
  | .nil => .nil
  | .cons x y => .cons (x.mono h) (y.mono h)
theorem DefRs.append {φ : Phi} : ∀ {a a' b b' : List Deferred}, DefRs φ a a' → DefRs φ b b' → DefRs φ (a ++ b) (a' ++ b')
  | _, _, _, _, .nil, k => k
  | _, _, _, _, .cons x y, k => .cons x (DefRs.append y k)
theorem MR.mono {φ phq : Phi} (h : Sub φ phq) {l : List (Value × Value)} {es : Array MapEntry} {c : Nat} (k : MR φ l es c) : MR phq l es c :=
  { k with
    fwd := fun a b m => let ⟨e, x, y, z⟩ := k.fwd a b m; ⟨e, x, y, z.mono h⟩
    bwd := fun e m => let ⟨v, x, y⟩ := k.bwd e m; ⟨v, x, y.mono h⟩ }
theorem CR.mono {φ phq : Phi} (h : Sub φ phq) {k : AKind} {p : Pl} {c : List Value} {c' : Array Value} {e : TypeId} {fz : Nat × Nat} (x : CR φ k p c c' e fz) : CR phq k p c c' e fz :=
  { x with cells := fun i v hv => let ⟨v', a, b⟩ := x.cells i v hv; ⟨v', a, b.mono h⟩ }
/-- What is said of an object holds on, while φ knows more, and its blocks stand. -/
theorem OR.mono {φ phq : Phi} {w w' : World} {p : Pl} {o : AObj} (h : Sub φ phq) (k : OR φ w p o) (hb : isNone o = false → w'.heap[p.b]? = w.heap[p.b]?)
    (hm : ∀ b left cur pm, o = .iter (some b) left cur → φ b = some pm → w'.heap[pm.b]? = w.heap[pm.b]?) : OR phq w' p o := by
  cases o with
  | none => trivial
  | cells c g => obtain ⟨c', e, fz, a, b⟩ := k; exact ⟨c', e, fz, (hb rfl).trans a, b.mono h⟩
  | map l => obtain ⟨x, y, es, cl, a, b⟩ := k; exact ⟨x, y, es, cl, (hb rfl).trans a, b.mono h⟩
  | iter m left cur =>
    obtain ⟨x, y, m', since, seen, st, a, b⟩ := k
    refine ⟨x, y, m', since, seen, st, (hb rfl).trans a, ?_⟩
    cases m with
    | none => exact b
    | some bb =>
      obtain ⟨pm, q1, q2, q3⟩ := b
      obtain ⟨es, cl, r1, r2, r3, r4, r5, r6, r7, r8, r9, r10⟩ := q3.es
      exact ⟨pm, h _ _ q1, q2, ⟨es, cl, (hm bb left cur pm rfl q1).trans r1, r2, r3, r4, r5, r6, fun k v m => let ⟨e, u1, u2, u3, u4⟩ := r7 k v m; ⟨e, u1, u2, u3.mono h, u4⟩,
        fun e m n => let ⟨v, u1, u2⟩ := r8 e m n; ⟨v, u1, u2.mono h⟩, r9, fun k v m => let ⟨e, u1, u2, u3, u4⟩ := r10 k v m; ⟨e, u1, u2, u3, u4.mono h⟩⟩⟩
  | loop l => obtain ⟨x, y, l', a, b⟩ := k; exact ⟨x, y, l', (hb rfl).trans a, b.mono h⟩
  | deferred d =>
    obtain ⟨x, y, d', a, b⟩ := k
    refine ⟨x, y, d', (hb rfl).trans a, ?_⟩
    cases d <;> cases d' <;> first | trivial | exact b | exact DefRs.mono h b

theorem OR.lt {φ : Phi} {w : World} {p : Pl} {o : AObj} (k : OR φ w p o) (hn : isNone o = false) : p.b < w.heap.size := by
  have : ∃ x, w.heap[p.b]? = some x := by
    cases o with
    | none => simp [isNone] at hn
    | cells c g => obtain ⟨c', e, fz, a, b⟩ := k; exact ⟨_, a⟩
    | map l => obtain ⟨x, y, es, cl, a, b⟩ := k; exact ⟨_, a⟩
    | iter m left cur => obtain ⟨x, y, m', since, seen, st, a, b⟩ := k; exact ⟨_, a⟩
    | loop l => obtain ⟨x, y, l', a, b⟩ := k; exact ⟨_, a⟩
    | deferred d => obtain ⟨x, y, d', a, b⟩ := k; exact ⟨_, a⟩
  obtain ⟨x, hx⟩ := this
  rcases Nat.lt_or_ge p.b w.heap.size with h | h
  · exact h
  · rw [Array.getElem?_eq_none h] at hx; cases hx

def upd (φ : Phi) (a : Nat) (p : Pl) : Phi := fun x => if x = a then some p else φ x
theorem upd_same (φ : Phi) (a : Nat) (p : Pl) : upd φ a p a = some p := by simp [upd]
theorem upd_other (φ : Phi) {a x : Nat} (p : Pl) (h : x ≠ a) : upd φ a p x = φ x := by simp [upd, h]
theorem Sub.upd {φ : Phi} {a : Nat} {p : Pl} (h : φ a = none) : Sub φ (upd φ a p) := fun x q e => by
  rw [upd_other]; exact e
  intro hx; subst hx; rw [h] at e; cases e

def World.pushed (w : World) (o : Obj) : World := { w with heap := w.heap.push o }

theorem pushed_old (w : World) (o : Obj) {x : Nat} (h : x < w.heap.size) : (World.pushed w o).heap[x]? = w.heap[x]? := by
  show (w.heap.push o)[x]? = _
  rw [Array.getElem?_push, if_neg (by omega)]
theorem pushed_new (w : World) (o : Obj) : (World.pushed w o).heap[w.heap.size]? = some o := by
  show (w.heap.push o)[w.heap.size]? = _
  simp

theorem alloc_eq {h h' : AHeap} {o : AObj} {b : Nat} (e : h.alloc o = some (b, h')) :
    b = h.next ∧ h.next < heapMost ∧ h' = { h with t := h.t.set h.next o, next := h.next + 1 } := by
  unfold AHeap.alloc at e
  cases hb : Nat.blt h.next heapMost with
  | false => simp [hb] at e
  | true =>
    simp only [hb, cond_true, Option.some.injEq, Prod.mk.injEq] at e
    exact ⟨e.1.symm, by simpa [Nat.blt_eq] using hb, e.2.symm⟩

theorem put_eq {h h' : AHeap} {o : AObj} {b : Nat} (e : h.put b o = some h') : h' = { h with t := h.t.set b o } ∧ h.floor ≤ b := by
  unfold AHeap.put at e
  cases hb : Nat.blt b h.floor with
  | true => simp [hb] at e
  | false =>
    simp only [hb, cond_false, Option.some.injEq] at e
    refine ⟨e.symm, ?_⟩
    rcases Nat.lt_or_ge b h.floor with k | k
    · have : Nat.blt b h.floor = true := by simpa [Nat.blt_eq] using k
      rw [this] at hb; cases hb
    · exact k

theorem WR.lt_most {w0 w : World} {φ : Phi} {h : AHeap} (W : WR w0 φ h w) {a : Nat} {p : Pl} (e : φ a = some p) : a < h.next ∧ a < 8 ^ heapDepth := by
  have h1 : a < h.next := by
    rcases Nat.lt_or_ge a h.next with k | k
    · exact k
    · rw [W.fresh a k] at e; cases e
  have := W.next
  have : heapMost = 8 ^ heapDepth := by rfl
  omega

/-- A new block on both sides. -/
theorem WR.new {w0 w : World} {φ : Phi} {h h' : AHeap} {o : AObj} {b : Nat} (W : WR w0 φ h w) (e : h.alloc o = some (b, h')) (obj : Obj) (p : Pl)
    (hp : p.b = w.heap.size) (hro : isRo o = false) (hit : ∀ m left cur, o = .iter (some m) left cur → (m, h.next) ∈ h.busy ∧ (∃ l, h.t.get m = .map l) ∧ (φ m).isSome = true) (hO : OR (upd φ b p) (World.pushed w obj) p o) :
    WR w0 (upd φ b p) h' (World.pushed w obj) ∧ Ext h.next φ (upd φ b p) := by
  obtain ⟨rfl, hlt, rfl⟩ := alloc_eq e
  have hfr : φ h.next = none := W.fresh _ (Nat.le_refl _)
  have hsub : Sub φ (upd φ h.next p) := Sub.upd hfr
  have hmost : heapMost = 8 ^ heapDepth := by rfl
  have get_old : ∀ a, a ≠ h.next → a < h.next → (h.t.set h.next o).get a = h.t.get a := fun a ha hl => by
    rw [get_set W.full _ _ _ (by omega) (by omega), if_neg ha]
  have get_new : (h.t.set h.next o).get h.next = o := by rw [get_set W.full _ _ _ (by omega) (by omega), if_pos rfl]
  refine ⟨{ full := W.full.set _ _, next := by show h.next + 1 ≤ _; omega, fresh := fun a ha => ?_, live := fun a q ha => ?_, own := fun a q ha hn hr => ?_,
            disj := fun a a' q q' hne ha ha' hn hn' => ?_, busy := fun a q bb left cur ha hi => ?_, size := ?_, base := fun x hx => ?_, os := W.os, tape := W.tape, output := W.output }, hsub, fun a ha => upd_other _ _ (by omega)⟩
  · have ha' : h.next + 1 ≤ a := ha
    rw [upd_other _ _ (by omega)]; exact W.fresh a (by omega)
  · by_cases hx : a = h.next
    · subst hx
      rw [upd_same] at ha
      cases ha
      show OR _ _ p ((h.t.set h.next o).get h.next)
      rw [get_new]; exact hO
    · rw [upd_other _ _ hx] at ha
      have hl := (W.lt_most ha).1
      show OR _ _ q ((h.t.set h.next o).get a)
      rw [get_old a hx hl]
      have k := W.live a q ha
      refine k.mono hsub (fun hn => pushed_old _ _ (k.lt hn)) (fun b left cur pm ho hpm => ?_)
      have hko := k
      rw [ho] at hko
      obtain ⟨_, _, m', since, seen, st, _, pm', q1, q2, q3⟩ := hko
      obtain ⟨es, cl, r1, _⟩ := q3.es
      rw [hpm] at q1; cases q1
      refine pushed_old _ _ ?_
      rcases Nat.lt_or_ge pm.b w.heap.size with z | z
      · exact z
      · rw [Array.getElem?_eq_none z] at r1; cases r1
  · by_cases hx : a = h.next
    · subst hx
      rw [upd_same] at ha
      cases ha
      rw [hp]; exact W.size
    · rw [upd_other _ _ hx] at ha
      have hl := (W.lt_most ha).1
      change isNone ((h.t.set h.next o).get a) = false at hn
      change isRo ((h.t.set h.next o).get a) = false at hr
      rw [get_old a hx hl] at hn hr
      exact W.own a q ha hn hr
  · change isNone ((h.t.set h.next o).get a) = false at hn
    change isNone ((h.t.set h.next o).get a') = false at hn'
    by_cases hx : a = h.next <;> by_cases hx' : a' = h.next
    · exact absurd (hx.trans hx'.symm) hne
    · subst hx
      rw [upd_same] at ha
      cases ha
      rw [upd_other _ _ hx'] at ha'
      rw [get_old a' hx' (W.lt_most ha').1] at hn'
      have := (W.live a' q' ha').lt hn'
      omega
    · subst hx'
      rw [upd_same] at ha'
      cases ha'
      rw [upd_other _ _ hx] at ha
      rw [get_old a hx (W.lt_most ha).1] at hn
      have := (W.live a q ha).lt hn
      omega
    · rw [upd_other _ _ hx] at ha
      rw [upd_other _ _ hx'] at ha'
      rw [get_old a hx (W.lt_most ha).1] at hn
      rw [get_old a' hx' (W.lt_most ha').1] at hn'
      exact W.disj a a' q q' hne ha ha' hn hn'
  · by_cases hx : a = h.next
    · subst hx
      change (h.t.set h.next o).get h.next = _ at hi
      rw [get_new] at hi
      obtain ⟨z1, ⟨l, z2⟩, z3⟩ := hit bb left cur hi
      obtain ⟨pb, hpb⟩ := Option.isSome_iff_exists.1 z3
      have hbl := (W.lt_most hpb).1
      exact ⟨z1, ⟨l, by show (h.t.set h.next o).get bb = _; rw [get_old bb (by omega) hbl]; exact z2⟩, by rw [hsub _ _ hpb]; rfl⟩
    · rw [upd_other _ _ hx] at ha
      change (h.t.set h.next o).get a = _ at hi
      rw [get_old a hx (W.lt_most ha).1] at hi
      obtain ⟨z1, ⟨l, z2⟩, z3⟩ := W.busy a q bb left cur ha hi
      obtain ⟨pb, hpb⟩ := Option.isSome_iff_exists.1 z3
      have hbl := (W.lt_most hpb).1
      exact ⟨z1, ⟨l, by show (h.t.set h.next o).get bb = _; rw [get_old bb (by omega) hbl]; exact z2⟩, by rw [hsub _ _ hpb]; rfl⟩
  · show _ ≤ (w.heap.push obj).size
    have := W.size
    simp; omega
  · exact (pushed_old w obj (Nat.lt_of_lt_of_le hx W.size)).trans (W.base x hx)

/-- A block is turned on both sides; what lies in the same block beside it holds on. -/
theorem WR.turn {w0 w w' : World} {φ : Phi} {h h' : AHeap} {o : AObj} {a : Nat} {p : Pl} (W : WR w0 φ h w) (e : h.put a o = some h') (ha : φ a = some p)
    (hn : isNone (h.t.get a) = false) (hr : isRo (h.t.get a) = false) (hro : isRo o = false)
    (hs : w'.heap.size = w.heap.size) (hb : ∀ x, x ≠ p.b → w'.heap[x]? = w.heap[x]?) (hos : w'.os = w.os) (ht : w'.tape = w.tape) (ho : w'.output = w.output)
    (hO : OR φ w' p o)
    (hside : ∀ a' p', a' ≠ a → φ a' = some p' → p'.b = p.b → isNone (h.t.get a') = false → OR φ w' p' (h.t.get a'))
    (hiter : ∀ a' p' m left cur pm, a' ≠ a → φ a' = some p' → h.t.get a' = .iter (some m) left cur → φ m = some pm → pm.b ≠ p.b)
    (hit : ∀ m left cur, o = .iter (some m) left cur → (m, a) ∈ h.busy ∧ (∃ l, h.t.get m = .map l) ∧ (φ m).isSome = true) (hmk : ∀ l, h.t.get a = .map l → ∃ l', o = .map l') :
    WR w0 φ h' w' := by
  obtain ⟨rfl, _⟩ := put_eq e
  have hlt := (W.lt_most ha).2
  have get_old : ∀ x q, x ≠ a → φ x = some q → (h.t.set a o).get x = h.t.get x := fun x q hx hq => by
    rw [get_set W.full _ _ _ hlt (W.lt_most hq).2, if_neg hx]
  have get_new : (h.t.set a o).get a = o := by rw [get_set W.full _ _ _ hlt hlt, if_pos rfl]
  refine { full := W.full.set _ _, next := W.next, fresh := W.fresh, live := fun x q hx => ?_, own := fun x q hx hnx hrx => ?_,
           disj := fun x x' q q' hne hx hx' hnx hnx' => ?_, busy := fun x q bb left cur hx hi => ?_, size := hs ▸ W.size, base := fun x hx => ?_, os := hos.trans W.os, tape := ht.trans W.tape, output := ho.trans W.output }
  · show OR _ _ q ((h.t.set a o).get x)
    by_cases e : x = a
    · subst e
      rw [ha] at hx; cases hx
      rw [get_new]; exact hO
    · rw [get_old x q e hx]
      by_cases eb : q.b = p.b
      · cases hz : isNone (h.t.get x) with
        | true =>
          cases hg : h.t.get x <;> simp [hg, isNone] at hz
          trivial
        | false => exact hside x q e hx eb hz
      · exact (W.live x q hx).mono (Sub.refl φ) (fun _ => hb _ eb) (fun b left cur pm ho' hpm => hb _ (hiter x q b left cur pm e hx ho' hpm))
  · change isNone ((h.t.set a o).get x) = false at hnx
    change isRo ((h.t.set a o).get x) = false at hrx
    by_cases e : x = a
    · subst e
      rw [ha] at hx; cases hx
      exact W.own x p ha hn hr
    · rw [get_old x q e hx] at hnx hrx
      exact W.own x q hx hnx hrx
  · change isNone ((h.t.set a o).get x) = false at hnx
    change isNone ((h.t.set a o).get x') = false at hnx'
    have f : ∀ y r, φ y = some r → isNone ((h.t.set a o).get y) = false → isNone (h.t.get y) = false := fun y r hy hz => by
      by_cases e : y = a
      · subst e; exact hn
      · rwa [get_old y r e hy] at hz
    exact W.disj x x' q q' hne hx hx' (f x q hx hnx) (f x' q' hx' hnx')
  · change (h.t.set a o).get x = _ at hi
    have fin : ((bb, x) ∈ h.busy ∧ (∃ l, h.t.get bb = .map l) ∧ (φ bb).isSome = true) → ((bb, x) ∈ h.busy ∧ (∃ l, (h.t.set a o).get bb = .map l) ∧ (φ bb).isSome = true) := by
      rintro ⟨z1, ⟨l, z2⟩, z3⟩
      obtain ⟨pb, hpb⟩ := Option.isSome_iff_exists.1 z3
      refine ⟨z1, ?_, z3⟩
      by_cases e : bb = a
      · subst e
        rw [get_new]
        exact hmk l z2
      · rw [get_old bb pb e hpb]; exact ⟨l, z2⟩
    by_cases e : x = a
    · subst e
      rw [get_new] at hi
      exact fin (hit bb left cur hi)
    · rw [get_old x q e hx] at hi
      exact fin (W.busy x q bb left cur hx hi)
  · have := W.own a p ha hn hr
    rw [hb x (by omega)]; exact W.base x hx

/-- A block is struck out on the small machine's side alone. -/
theorem WR.strike {w0 w : World} {φ : Phi} {h h' : AHeap} {a : Nat} {p : Pl} (W : WR w0 φ h w) (e : h.put a .none = some h') (ha : φ a = some p) (hmk : ∀ l, h.t.get a ≠ .map l) : WR w0 φ h' w := by
  obtain ⟨rfl, _⟩ := put_eq e
  have hlt := (W.lt_most ha).2
  have get_old : ∀ x q, x ≠ a → φ x = some q → (h.t.set a .none).get x = h.t.get x := fun x q hx hq => by
    rw [get_set W.full _ _ _ hlt (W.lt_most hq).2, if_neg hx]
  have get_new : (h.t.set a .none).get a = .none := by rw [get_set W.full _ _ _ hlt hlt, if_pos rfl]
  have f : ∀ y r, φ y = some r → isNone ((h.t.set a .none).get y) = false → (h.t.set a .none).get y = h.t.get y := fun y r hy hz => by
    by_cases e : y = a
    · subst e; rw [get_new] at hz; simp [isNone] at hz
    · exact get_old y r e hy
  refine { W with full := W.full.set _ _, live := fun x q hx => ?_, own := fun x q hx hnx hrx => ?_, disj := fun x x' q q' hne hx hx' hnx hnx' => ?_, busy := fun x q bb left cur hx hi => ?_ }
  · show OR _ _ q ((h.t.set a .none).get x)
    by_cases e : x = a
    · subst e; rw [get_new]; trivial
    · rw [get_old x q e hx]; exact W.live x q hx
  · have := f x q hx hnx
    change isRo ((h.t.set a .none).get x) = false at hrx
    change isNone ((h.t.set a .none).get x) = false at hnx
    rw [this] at hnx hrx
    exact W.own x q hx hnx hrx
  · have e1 := f x q hx hnx
    have e2 := f x' q' hx' hnx'
    change isNone ((h.t.set a .none).get x) = false at hnx
    change isNone ((h.t.set a .none).get x') = false at hnx'
    rw [e1] at hnx
    rw [e2] at hnx'
    exact W.disj x x' q q' hne hx hx' hnx hnx'
  · have := f x q hx (by show isNone ((h.t.set a .none).get x) = false; change (h.t.set a .none).get x = _ at hi; rw [hi]; rfl)
    change (h.t.set a .none).get x = _ at hi
    rw [this] at hi
    obtain ⟨z1, ⟨l, z2⟩, z3⟩ := W.busy x q bb left cur hx hi
    obtain ⟨pb, hpb⟩ := Option.isSome_iff_exists.1 z3
    have hne : bb ≠ a := fun e => by rw [e] at z2; exact hmk l z2
    exact ⟨z1, ⟨l, by show (h.t.set a .none).get bb = _; rw [get_old bb pb hne hpb]; exact z2⟩, z3⟩

end Go.Ab
