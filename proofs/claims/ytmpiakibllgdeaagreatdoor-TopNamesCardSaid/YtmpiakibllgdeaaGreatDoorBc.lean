/-
  The small machine's frames and the model's. No statement of the seat is proved here. Conditions: none.
-/
import Derived.Test.YtmpiakibllgdeaaGreatDoorBb
set_option linter.unusedVariables false
set_option linter.unusedSimpArgs false
namespace Go.Ab

/-- Operations by their numbers. -/
inductive SelR (ops : Array Oper) : List Nat → List Oper → Prop
  | nil : SelR ops [] []
  | cons {i : Nat} {o : Oper} {l : List Nat} {r : List Oper} : ops[i]? = some o → SelR ops l r → SelR ops (i :: l) (o :: r)

inductive ItemR (φ : Phi) : AItem → Item → Prop
  | code (c : Code) : ItemR φ (.code c) (.code c)
  | inBlock (id : Nat) : ItemR φ (.inBlock id) (.inBlock id)
  | inLoop (c : Code) : ItemR φ (.inLoop c) (.inLoop c)
  | inScope (c : Code) : ItemR φ (.inScope c) (.inScope c)
  | inRegion (ops : Array Oper) (rest : List Oper) (l : List Nat) : SelR ops l rest → ItemR φ (.inRegion ops rest) (.inRegion ops l)
  | inRangeFunc (l : Nat) (p : Pl) : φ l = some p → ItemR φ (.inRangeFunc l) (.inRangeFunc p.b)
  | endRangeFunc (l : Nat) (p : Pl) : φ l = some p → ItemR φ (.endRangeFunc l) (.endRangeFunc p.b)
  | beginRound : ItemR φ .beginRound .beginRound
inductive ItemsR (φ : Phi) : List AItem → List Item → Prop
  | nil : ItemsR φ [] []
  | cons {a : AItem} {b : Item} {k : List AItem} {k' : List Item} : ItemR φ a b → ItemsR φ k k' → ItemsR φ (a :: k) (b :: k')

def Deps (o : Oper) (e : Edge) : Prop := e ∈ o.after.toList ∧ Region.binds .any e = true

/-- A region that draws its order, under way: left, done on the small machine's side; l what the model's machine has before it. -/
structure DrawR (φ : Phi) (lo hi : Nat) (ops : Array Oper) (left done : List (Nat × Oper)) (mask n : Nat) (t : Tr Value) (ts : Array Value) (l : List Nat) : Prop where
  ok : regionOk ops = true
  full : Full (tDepth n) t
  size : ts.size = n
  mem : ∀ p, (p ∈ left ∨ p ∈ done) → ops[p.1]? = some p.2
  all : ∀ j, j < ops.size → ∃ o, (j, o) ∈ left ∨ (j, o) ∈ done
  sep : ∀ j o o', (j, o) ∈ left → (j, o') ∈ done → False
  sorted : left.Pairwise (fun a b => a.1 < b.1)
  nodup : l.Nodup
  lt : ∀ j ∈ l, j < ops.size
  leftIn : ∀ p ∈ left, p.1 ∈ l
  valid : ∀ l1 i l2, l = l1 ++ i :: l2 → ∀ o, ops[i]? = some o → ∀ e, Deps o e → e.on ∉ i :: l2
  down : ∀ x, x < ops.size → x ∉ l → ∀ o, ops[x]? = some o → ∀ e, Deps o e → e.on ∉ l
  tmps : ∀ i, i < n → (∀ j ∈ l, ∀ o, ops[j]? = some o → o.dst ≠ some i) → VR φ (t.get i) (ts.getD i undef)
  mask : ∀ j, mask.testBit j = true → j ∉ l
  ghost : ∀ p ∈ done, p.1 ∈ l → isAlloc p.2.op = true → ∀ d a, p.2.dst = some d → d < n → t.get d = .pointer (some a) → φ a.block = none ∧ lo ≤ a.block ∧ a.block < hi

def isDraw : List AItem → Bool
  | .draw .. :: _ => true
  | _ => false
/-- If a drawn region is under way, then its next operation on both sides is the same. -/
def HeadOK (todo : List AItem) (todo' : List Item) : Prop :=
  ∀ ops left done mask k, todo = .draw ops left done mask :: k → ∃ i o left' l' k', left = (i, o) :: left' ∧ todo' = .inRegion ops (i :: l') :: k'
theorem HeadOK.plain {todo : List AItem} {todo' : List Item} (h : isDraw todo = false) : HeadOK todo todo' := fun _ _ _ _ _ e => by
  subst e; simp [isDraw] at h
theorem ItemsR.notDraw {φ : Phi} {k : List AItem} {k' : List Item} (h : ItemsR φ k k') : isDraw k = false := by
  cases h with
  | nil => rfl
  | cons a b => cases a <;> rfl

inductive RoundR (φ : Phi) : Option Nat → Option Nat → Prop
  | none : RoundR φ none none
  | some (l : Nat) (p : Pl) : φ l = some p → RoundR φ (some l) (some p.b)

/-- What is to be done, and the temporaries. -/
inductive BodyR (φ : Phi) (lo hi : Nat) : List AItem → Nat → Tr Value → List Item → Array Value → Prop
  | plain {k : List AItem} {k' : List Item} {n : Nat} {t : Tr Value} {ts : Array Value} : ItemsR φ k k' → TmpsR φ n t ts → BodyR φ lo hi k n t k' ts
  | draw {ops : Array Oper} {left done : List (Nat × Oper)} {mask n : Nat} {t : Tr Value} {ts : Array Value} {l : List Nat} {k : List AItem} {k' : List Item} :
      DrawR φ lo hi ops left done mask n t ts l → ItemsR φ k k' → BodyR φ lo hi (.draw ops left done mask :: k) n t (.inRegion ops l :: k') ts

structure FrameR (φ : Phi) (lo hi : Nat) (fr : AFrame) (fr' : Frame) : Prop where
  fn : fr'.fn = fr.fn
  mode : fr'.mode = (if fr.ret then .returning else .run)
  kind : fr'.kind = (if fr.deferred then .deferred else .normal)
  defers : DefRs φ fr.defers fr'.defers
  round : RoundR φ fr.round fr'.roundOf
  body : BodyR φ lo hi fr.todo fr.n fr.tmps fr'.todo fr'.tmps
  head : fr.ret = true → isDraw fr.todo = false

/-- A stack of frames, above frames of which nothing is said; ghosts of each lie between the bounds. -/
inductive StackR (φ : Phi) (base : List Frame) (n0 : Nat) : List AFrame → List Frame → Nat → Prop
  | nil (n : Nat) : n0 ≤ n → StackR φ base n0 [] base n
  | cons {c : AFrame} {c' : Frame} {cs : List AFrame} {cs' : List Frame} (lo hi n : Nat) : FrameR φ lo hi c c' → HeadOK c.todo c'.todo → StackR φ base n0 cs cs' lo → lo ≤ hi → hi ≤ n → StackR φ base n0 (c :: cs) (c' :: cs') n
theorem StackR.le {φ : Phi} {base : List Frame} {n0 : Nat} {cs : List AFrame} {cs' : List Frame} {n : Nat} (S : StackR φ base n0 cs cs' n) : n0 ≤ n := by
  induction S with
  | nil n h => exact h
  | cons lo hi n _ _ _ h1 h2 ih => omega

/-- A state of the small machine and one of the model's: since the heap was h0 and the places φ0. -/
structure Rel (E : Env) (w0 : World) (base : List Frame) (h0 : AHeap) (φ0 : Phi) (S : AState) (fr' : Frame) (cs' : List Frame) (w : World) : Prop where
  ex : ∃ φ lo, WR w0 φ S.h w ∧ GR E.globals φ ∧ Ext h0.next φ0 φ ∧ Keeps h0 S.h ∧ FrameR φ lo S.h.next S.fr fr' ∧ StackR φ base h0.next S.cs cs' lo ∧ lo ≤ S.h.next

theorem ItemR.mono {φ phq : Phi} (h : Sub φ phq) {a : AItem} {b : Item} : ItemR φ a b → ItemR phq a b
  | .code c => .code c
  | .inBlock i => .inBlock i
  | .inLoop c => .inLoop c
  | .inScope c => .inScope c
  | .inRegion ops r l e => .inRegion ops r l e
  | .inRangeFunc l p e => .inRangeFunc l p (h _ _ e)
  | .endRangeFunc l p e => .endRangeFunc l p (h _ _ e)
  | .beginRound => .beginRound
theorem ItemsR.mono {φ phq : Phi} (h : Sub φ phq) {k : List AItem} {k' : List Item} : ItemsR φ k k' → ItemsR phq k k'
  | .nil => .nil
  | .cons a b => .cons (a.mono h) (b.mono h)
theorem RoundR.mono {φ phq : Phi} (h : Sub φ phq) {a b : Option Nat} : RoundR φ a b → RoundR phq a b
  | .none => .none
  | .some l p e => .some l p (h _ _ e)
/-- phq says the same of what lies in these bounds. -/
theorem DrawR.mono {φ phq : Phi} {lo hi : Nat} (h : Sub φ phq) (hg : ∀ a, lo ≤ a → a < hi → phq a = φ a) {ops : Array Oper} {left done : List (Nat × Oper)} {mask n : Nat} {t : Tr Value} {ts : Array Value} {l : List Nat}
    (D : DrawR φ lo hi ops left done mask n t ts l) : DrawR phq lo hi ops left done mask n t ts l :=
  { D with
    tmps := fun i hi hj => (D.tmps i hi hj).mono h
    ghost := fun p hp hl ha d a hd hn hv => let ⟨x, y, z⟩ := D.ghost p hp hl ha d a hd hn hv; ⟨(hg _ y z).trans x, y, z⟩ }
theorem BodyR.mono {φ phq : Phi} {lo hi : Nat} (h : Sub φ phq) (hg : ∀ a, lo ≤ a → a < hi → phq a = φ a) {k : List AItem} {n : Nat} {t : Tr Value} {k' : List Item} {ts : Array Value} : BodyR φ lo hi k n t k' ts → BodyR phq lo hi k n t k' ts
  | .plain a b => .plain (a.mono h) (b.mono h)
  | .draw a b => .draw (a.mono h hg) (b.mono h)
theorem FrameR.mono {φ phq : Phi} {lo hi : Nat} (h : Sub φ phq) (hg : ∀ a, lo ≤ a → a < hi → phq a = φ a) {fr : AFrame} {fr' : Frame} (F : FrameR φ lo hi fr fr') : FrameR phq lo hi fr fr' :=
  { F with defers := F.defers.mono h, round := F.round.mono h, body := F.body.mono h hg }
theorem DrawR.wide {φ : Phi} {lo hi hi' : Nat} (hh : hi ≤ hi') {ops : Array Oper} {left done : List (Nat × Oper)} {mask n : Nat} {t : Tr Value} {ts : Array Value} {l : List Nat}
    (D : DrawR φ lo hi ops left done mask n t ts l) : DrawR φ lo hi' ops left done mask n t ts l :=
  { D with ghost := fun p hp hl ha d a hd hn hv => let ⟨x, y, z⟩ := D.ghost p hp hl ha d a hd hn hv; ⟨x, y, by omega⟩ }
theorem BodyR.wide {φ : Phi} {lo hi hi' : Nat} (hh : hi ≤ hi') {k : List AItem} {n : Nat} {t : Tr Value} {k' : List Item} {ts : Array Value} : BodyR φ lo hi k n t k' ts → BodyR φ lo hi' k n t k' ts
  | .plain a b => .plain a b
  | .draw a b => .draw (a.wide hh) b
theorem FrameR.wide {φ : Phi} {lo hi hi' : Nat} (hh : hi ≤ hi') {fr : AFrame} {fr' : Frame} (F : FrameR φ lo hi fr fr') : FrameR φ lo hi' fr fr' :=
  { F with body := F.body.wide hh }
theorem StackR.mono {φ phq : Phi} {base : List Frame} {n0 : Nat} (h : Sub φ phq) {cs : List AFrame} {cs' : List Frame} {n : Nat} (S : StackR φ base n0 cs cs' n) (hg : ∀ a, a < n → phq a = φ a) : StackR phq base n0 cs cs' n := by
  induction S with
  | nil n h => exact .nil n h
  | cons lo hi n F H _ h1 h2 ih => exact .cons lo hi n (F.mono h fun a _ q => hg a (by omega)) H (ih fun a q => hg a (by omega)) h1 h2
theorem StackR.wide {φ : Phi} {base : List Frame} {n0 : Nat} {cs : List AFrame} {cs' : List Frame} {n m : Nat} (S : StackR φ base n0 cs cs' n) (hm : n ≤ m) : StackR φ base n0 cs cs' m := by
  cases S with
  | nil _ h => exact .nil m (by omega)
  | cons lo hi _ F H S h1 h2 => exact .cons lo hi m F H S h1 (by omega)

def putDst (ts : Array Value) (dst : Option Tmp) (v : Value) : Array Value :=
  match dst with
  | some d => ts.setIfInBounds d v
  | none => ts
/-- The slot of an operation that is done gets its value, on both sides. -/
theorem setDst_rel {φ : Phi} {n : Nat} {t t' : Tr Value} {ts : Array Value} {dst : Option Tmp} {v v' : Value} (k : TmpsR φ n t ts) (hv : VR φ v v') (e : setDst n t dst v = some t') :
    TmpsR φ n t' (putDst ts dst v') := by
  unfold setDst at e
  split at e
  · simp only [Option.some.injEq] at e; subst e; exact k
  · rename_i d
    cases hb : Nat.blt d n with
    | false => simp [hb] at e
    | true =>
      simp only [hb, cond_true, Option.some.injEq] at e
      subst e
      exact k.set (by simpa [Nat.blt_eq] using hb) hv

/-- 'finish' on both sides, away from regions that draw. -/
theorem finish_rel {φ : Phi} {lo hi : Nat} {fr fr2 : AFrame} {fr' : Frame} {v v' : Value} (F : FrameR φ lo hi fr fr') (hd : isDraw fr.todo = false) (hv : VR φ v v') (e : finishE fr v = some fr2) :
    FrameR φ lo hi fr2 (fr'.finish v') := by
  obtain ⟨fn, n, tmps, todo, defers, ret, deferred, round⟩ := fr
  obtain ⟨fn', tmps', todo', defers', mode', kind', round'⟩ := fr'
  obtain ⟨h1, h2, h3, h4, h5, h6, h7⟩ := F
  simp only at h1 h2 h3 h4 h5 h6 hd
  unfold finishE at e
  simp only at e
  split at e
  · rename_i ops o rest k
    cases h6 with
    | plain hk ht =>
      cases hk with
      | cons hi hk =>
        cases hi with
        | inRegion _ _ l hs =>
          cases hs with
          | @cons i _ l' _ ho hs =>
            simp only [Option.bind_eq_some_iff, Option.some.injEq] at e
            obtain ⟨t, ht', rfl⟩ := e
            have := setDst_rel ht hv ht'
            refine ⟨h1, h2, h3, h4, h5, .plain (.cons (.inRegion ops _ l' hs) hk) ?_, fun _ => rfl⟩
            simp only [Frame.finish, ho, Option.bind_some]
            cases hdst : o.dst with
            | none => simpa [hdst, putDst] using this
            | some d => simpa [hdst, putDst] using this
  · simp [isDraw] at hd
  · rename_i l k
    cases h6 with
    | plain hk ht =>
      cases hk with
      | cons hi hk =>
        cases hi with
        | inRangeFunc _ p hp =>
          simp only [Option.some.injEq] at e
          subst e
          exact ⟨h1, h2, h3, h4, h5, .plain (.cons (.endRangeFunc l p hp) hk) ht, fun _ => rfl⟩
  · cases h6 with
    | plain hk ht =>
      cases hk with
      | cons hi hk =>
        cases hi with
        | beginRound =>
          simp only [Option.some.injEq] at e
          subst e
          exact ⟨h1, h2, h3, h4, h5, .plain hk ht, fun _ => hk.notDraw⟩
  · cases e

theorem SelR.range (ops : Array Oper) : SelR ops (List.range ops.size) ops.toList := by
  have : ∀ (k : Nat) (l : List Oper), ops.toList.drop k = l → SelR ops (List.range' k l.length) l := by
    intro k l
    induction l generalizing k with
    | nil => intro _; exact .nil
    | cons o l ih =>
      intro e
      simp only [List.length_cons, List.range'_succ]
      refine .cons ?_ (ih (k + 1) ?_)
      · have : ops.toList[k]? = some o := by
          have := congrArg (fun x => x[0]?) e
          simpa [List.getElem?_drop] using this
        simpa using this
      · have := congrArg List.tail e
        simpa [List.tail_drop] using this
  have h := this 0 ops.toList (by simp)
  rw [List.range_eq_range']
  simpa using h

theorem exit_rel {φ : Phi} {id : Nat} {k : List AItem} {k' : List Item} (h : ItemsR φ k k') : ∀ r, exitE id k = some r → ∃ r', exitTo id k' = some r' ∧ ItemsR φ r r' := by
  induction h with
  | nil => intro r e; simp [exitE] at e
  | cons hi hk ih =>
    intro r e
    cases hi with
    | inBlock id' =>
      simp only [exitE] at e
      cases hb : Nat.beq id' id with
      | true =>
        simp only [hb, cond_true, Option.some.injEq] at e
        subst e
        have : id' = id := by simpa using hb
        exact ⟨_, by simp [exitTo, this], hk⟩
      | false =>
        simp only [hb, cond_false] at e
        have : id' ≠ id := fun z => by rw [z] at hb; simp at hb
        obtain ⟨r', h1, h2⟩ := ih r e
        exact ⟨r', by simp [exitTo, this, h1], h2⟩
    | _ =>
      simp only [exitE] at e
      obtain ⟨r', h1, h2⟩ := ih r e
      exact ⟨r', by simp [exitTo, h1], h2⟩
theorem exit_none {φ : Phi} {id : Nat} {k : List AItem} {k' : List Item} (h : ItemsR φ k k') : exitE id k = none → exitTo id k' = none := by
  induction h with
  | nil => intro _; rfl
  | cons hi hk ih =>
    intro e
    cases hi with
    | inBlock id' =>
      simp only [exitE] at e
      cases hb : Nat.beq id' id with
      | true => simp [hb] at e
      | false =>
        simp only [hb, cond_false] at e
        have : id' ≠ id := fun z => by rw [z] at hb; simp at hb
        simp [exitTo, this, ih e]
    | _ => simp only [exitE] at e; simp [exitTo, ih e]
end Go.Ab
