/-
  The small machine's relation to the model's: definitions and first laws. No statement of the seat is proved here. Conditions: none.
-/
import Derived.Test.YtmpiakibllgdeaaGreatDoorAb
import Derived.Laws.Sem
import Derived.Laws.Cells
import Derived.Laws.IdiomCopy
set_option linter.unusedVariables false
set_option linter.unusedSimpArgs false
namespace Go.Ab

theorem eight {n : Nat} (h : n < 8) : n = 0 ∨ n = 1 ∨ n = 2 ∨ n = 3 ∨ n = 4 ∨ n = 5 ∨ n = 6 ∨ n = 7 := by omega
theorem N8.get_set {α : Type} (x : N8 α) {n m : Nat} (v : α) (hn : n < 8) (hm : m < 8) : (x.set n v).get m = if m = n then v else x.get m := by
  obtain ⟨a, b, c, d, e, f, g, h⟩ := x
  rcases eight hn with rfl | rfl | rfl | rfl | rfl | rfl | rfl | rfl <;> rcases eight hm with rfl | rfl | rfl | rfl | rfl | rfl | rfl | rfl <;> rfl
theorem N8.get_rep {α : Type} (x : α) (n : Nat) : (N8.rep x).get n = x := by
  simp only [N8.rep, N8.get]
  cases dig n <;> rfl

namespace Br
inductive Full {α : Type} : Nat → Br α → Prop
  | leaf (x : α) : Full 0 (.leaf x)
  | node {n : Nat} {a b c d e f g h : Br α} : Full n a → Full n b → Full n c → Full n d → Full n e → Full n f → Full n g → Full n h → Full (n + 1) (.node a b c d e f g h)
theorem Full.mk {α : Type} (a : α) : ∀ d, Full d (Br.mk d a)
  | 0 => .leaf a
  | d + 1 => .node (Full.mk a d) (Full.mk a d) (Full.mk a d) (Full.mk a d) (Full.mk a d) (Full.mk a d) (Full.mk a d) (Full.mk a d)
theorem get_mk {α : Type} (a : α) : ∀ d n, (Br.mk d a).get n = a
  | 0, _ => rfl
  | d + 1, n => by
    unfold Br.mk Br.get
    split <;> exact get_mk a d _
theorem Full.set {α : Type} {d : Nat} {t : Br α} (h : Full d t) (n : Nat) (a : α) : Full d (t.set n a) := by
  induction h generalizing n with
  | leaf b => exact .leaf a
  | node h0 h1 h2 h3 h4 h5 h6 h7 i0 i1 i2 i3 i4 i5 i6 i7 =>
    unfold Br.set
    split
    · exact .node (i0 _) h1 h2 h3 h4 h5 h6 h7
    · exact .node h0 (i1 _) h2 h3 h4 h5 h6 h7
    · exact .node h0 h1 (i2 _) h3 h4 h5 h6 h7
    · exact .node h0 h1 h2 (i3 _) h4 h5 h6 h7
    · exact .node h0 h1 h2 h3 (i4 _) h5 h6 h7
    · exact .node h0 h1 h2 h3 h4 (i5 _) h6 h7
    · exact .node h0 h1 h2 h3 h4 h5 (i6 _) h7
    · exact .node h0 h1 h2 h3 h4 h5 h6 (i7 _)
theorem get_set {α : Type} {d : Nat} {t : Br α} (h : Full d t) (n m : Nat) (a : α) (hn : n < 8 ^ d) (hm : m < 8 ^ d) :
    (t.set n a).get m = if m = n then a else t.get m := by
  induction h generalizing n m with
  | leaf b =>
    have h0 : n = 0 := by simp at hn; exact hn
    have h1 : m = 0 := by simp at hm; exact hm
    subst h0; subst h1
    simp [Br.set, Br.get]
  | @node d _ _ _ _ _ _ _ _ h0 h1 h2 h3 h4 h5 h6 h7 i0 i1 i2 i3 i4 i5 i6 i7 =>
    have hn' : n / 8 < 8 ^ d := by rw [Nat.pow_succ] at hn; omega
    have hm' : m / 8 < 8 ^ d := by rw [Nat.pow_succ] at hm; omega
    have e : m = n ↔ (m % 8 = n % 8 ∧ m / 8 = n / 8) := by omega
    clear hn hm
    rcases eight (Nat.mod_lt n (by omega : 8 > 0)) with pn | pn | pn | pn | pn | pn | pn | pn <;> rcases eight (Nat.mod_lt m (by omega : 8 > 0)) with pm | pm | pm | pm | pm | pm | pm | pm <;>
      simp only [Br.set, Br.get, pn, pm, i0 _ _ hn' hm', i1 _ _ hn' hm', i2 _ _ hn' hm', i3 _ _ hn' hm', i4 _ _ hn' hm', i5 _ _ hn' hm', i6 _ _ hn' hm', i7 _ _ hn' hm', e] <;> simp
end Br

inductive Full {α : Type} : Nat → Tr α → Prop
  | two (x : N8 (N8 α)) : Full 2 (.two x)
  | three (x : N8 (N8 (N8 α))) : Full 3 (.three x)
  | five (x : N8 (N8 (N8 (N8 (N8 α))))) : Full 5 (.five x)
  | big {d : Nat} {x : Br α} : Br.Full d x → Full d (.big x)
theorem Full.mk {α : Type} (a : α) (d : Nat) : Full d (Tr.mk d a) := by
  unfold Tr.mk
  split
  · exact .two _
  · exact .three _
  · exact .five _
  · exact .big (Br.Full.mk a d)
theorem get_mk {α : Type} (a : α) (d n : Nat) : (Tr.mk d a).get n = a := by
  unfold Tr.mk
  split
  · simp only [Tr.get, N8.get_rep]
  · simp only [Tr.get, N8.get_rep]
  · simp only [Tr.get, N8.get_rep]
  · exact Br.get_mk a d n
theorem Full.set {α : Type} {d : Nat} {t : Tr α} (h : Full d t) (n : Nat) (a : α) : Full d (t.set n a) := by
  cases h with
  | two x => exact .two _
  | three x => exact .three _
  | five x => exact .five _
  | big h => exact .big (h.set n a)
theorem get_set2 {α : Type} (x : N8 (N8 α)) {i j k l : Nat} (v : α) (hi : i < 8) (hj : j < 8) (hk : k < 8) (hl : l < 8) : ((Tr.set2 x i j v).get k).get l = if k = i ∧ l = j then v else (x.get k).get l := by
  unfold Tr.set2
  rw [N8.get_set _ _ hi hk]
  by_cases e : k = i
  · subst e
    rw [if_pos rfl, N8.get_set _ _ hj hl]
    simp
  · simp [e]
theorem get_set3 {α : Type} (x : N8 (N8 (N8 α))) {i j m k l n : Nat} (v : α) (hi : i < 8) (hj : j < 8) (hm : m < 8) (hk : k < 8) (hl : l < 8) (hn : n < 8) :
    (((Tr.set3 x i j m v).get k).get l).get n = if k = i ∧ l = j ∧ n = m then v else ((x.get k).get l).get n := by
  unfold Tr.set3
  rw [N8.get_set _ _ hi hk]
  by_cases e : k = i
  · subst e
    rw [if_pos rfl, get_set2 _ _ hj hm hl hn]
    simp
  · simp [e]
theorem get_set4 {α : Type} (x : N8 (N8 (N8 (N8 α)))) {i j m p k l n q : Nat} (v : α) (hi : i < 8) (hj : j < 8) (hm : m < 8) (hp : p < 8) (hk : k < 8) (hl : l < 8) (hn : n < 8) (hq : q < 8) :
    ((((Tr.set4 x i j m p v).get k).get l).get n).get q = if k = i ∧ l = j ∧ n = m ∧ q = p then v else (((x.get k).get l).get n).get q := by
  unfold Tr.set4
  rw [N8.get_set _ _ hi hk]
  by_cases e : k = i
  · subst e
    rw [if_pos rfl, get_set3 _ _ hj hm hp hl hn hq]
    simp
  · simp [e]
theorem get_set5 {α : Type} (x : N8 (N8 (N8 (N8 (N8 α))))) {i j m p s k l n q r : Nat} (v : α) (hi : i < 8) (hj : j < 8) (hm : m < 8) (hp : p < 8) (hs : s < 8) (hk : k < 8) (hl : l < 8) (hn : n < 8) (hq : q < 8) (hr : r < 8) :
    (((((Tr.set5 x i j m p s v).get k).get l).get n).get q).get r = if k = i ∧ l = j ∧ n = m ∧ q = p ∧ r = s then v else ((((x.get k).get l).get n).get q).get r := by
  unfold Tr.set5
  rw [N8.get_set _ _ hi hk]
  by_cases e : k = i
  · subst e
    rw [if_pos rfl, get_set4 _ _ hj hm hp hs hl hn hq hr]
    simp
  · simp [e]
theorem get_set {α : Type} {d : Nat} {t : Tr α} (h : Full d t) (n m : Nat) (a : α) (hn : n < 8 ^ d) (hm : m < 8 ^ d) :
    (t.set n a).get m = if m = n then a else t.get m := by
  cases h with
  | two x =>
    simp only [Tr.set, Tr.get]
    rw [get_set2 _ _ (by omega) (by omega) (by omega) (by omega)]
    have e : (m % 8 = n % 8 ∧ m / 8 = n / 8) ↔ m = n := by omega
    simp only [e]
  | three x =>
    simp only [Tr.set, Tr.get]
    rw [get_set3 _ _ (by omega) (by omega) (by omega) (by omega) (by omega) (by omega)]
    have e : (m % 8 = n % 8 ∧ m / 8 % 8 = n / 8 % 8 ∧ m / 64 = n / 64) ↔ m = n := by omega
    simp only [e]
  | five x =>
    simp only [Tr.set, Tr.get]
    rw [get_set5 _ _ (by omega) (by omega) (by omega) (by omega) (by omega) (by omega) (by omega) (by omega) (by omega) (by omega)]
    have e : (m % 8 = n % 8 ∧ m / 8 % 8 = n / 8 % 8 ∧ m / 64 % 8 = n / 64 % 8 ∧ m / 512 % 8 = n / 512 % 8 ∧ m / 4096 = n / 4096) ↔ m = n := by omega
    simp only [e]
  | big h => exact Br.get_set h n m a hn hm

/-- So many temporaries find their place. -/
theorem lt_tDepth (n : Nat) : n < 8 ^ tDepth n := by
  unfold tDepth
  cases h1 : Nat.blt n 64 with
  | true => simp only [Nat.blt_eq] at h1; exact h1
  | false =>
    cases h2 : Nat.blt n 512 with
    | true => simp only [Nat.blt_eq] at h2; exact h2
    | false =>
      have h1 : n < 2 ^ (n.log2 + 1) := Nat.lt_log2_self
      have h2 : 2 ^ (n.log2 + 1) ≤ 8 ^ (n.log2 / 3 + 6) := by
        rw [show (8 : Nat) = 2 ^ 3 from rfl, ← Nat.pow_mul]
        exact Nat.pow_le_pow_right (by omega) (by omega)
      exact Nat.lt_of_lt_of_le h1 h2

/-! ### Places -/
structure Pl where
  b : Nat
  o : Nat
  r : Nat
  g : Option Nat

abbrev Phi := Nat → Option Pl

def notYield : Fn → Bool
  | .yield _ => false
  | _ => true
inductive FnR (φ : Phi) : Fn → Fn → Prop
  | same (f : Fn) : notYield f = true → FnR φ f f
  | yield (l : Nat) (p : Pl) : φ l = some p → FnR φ (.yield l) (.yield p.b)

/-- The capacity: known, or at least so much. -/
def CapR (p : Pl) (off cap cap' : Nat) : Prop :=
  match p.g with
  | none => cap' = cap
  | some s => cap ≤ cap' ∧ off + cap' * s ≤ p.r

mutual
inductive VR (φ : Phi) : Value → Value → Prop
  | atom (v : Value) : atom v = true → VR φ v v
  | ptr (a : Addr) (p : Pl) : a.spot = none → φ a.block = some p → VR φ (.pointer (some a)) (.pointer (some ⟨p.b, p.o + a.off, none⟩))
  | slice (a : Addr) (p : Pl) (len cap cap' : Nat) : a.spot = none → φ a.block = some p → CapR p a.off cap cap' →
      VR φ (.slice (some a) len cap) (.slice (some ⟨p.b, p.o + a.off, none⟩) len cap')
  | junk (a' : Addr) (cap' : Nat) : VR φ (.slice (some junk) 0 0) (.slice (some a') 0 cap')
  | map (r : Nat) (p : Pl) : φ r = some p → VR φ (.map (some r)) (.map (some p.b))
  | func (fn fn' : Fn) (a b a' b' : Array Value) : FnR φ fn fn' → VRs φ a.toList a'.toList → VRs φ b.toList b'.toList → VR φ (.func fn a b) (.func fn' a' b')
  | iface (t : TypeId) (v v' : Value) : VR φ v v' → VR φ (.iface t v) (.iface t v')
  | agg (a a' : Array Value) : VRs φ a.toList a'.toList → VR φ (.agg a) (.agg a')
  | tuple (a a' : Array Value) : VRs φ a.toList a'.toList → VR φ (.tuple a) (.tuple a')
inductive VRs (φ : Phi) : List Value → List Value → Prop
  | nil : VRs φ [] []
  | cons {v v' : Value} {l l' : List Value} : VR φ v v' → VRs φ l l' → VRs φ (v :: l) (v' :: l')
end

def Sub (φ phq : Phi) : Prop := ∀ a p, φ a = some p → phq a = some p
theorem Sub.refl (φ : Phi) : Sub φ φ := fun _ _ h => h
theorem Sub.trans {a b c : Phi} (h : Sub a b) (k : Sub b c) : Sub a c := fun x p e => k x p (h x p e)

theorem FnR.mono {φ phq : Phi} (h : Sub φ phq) {f g : Fn} : FnR φ f g → FnR phq f g
  | .same f e => .same f e
  | .yield l p e => .yield l p (h _ _ e)
mutual
theorem VR.mono {φ phq : Phi} (h : Sub φ phq) {v v' : Value} : VR φ v v' → VR phq v v'
  | .atom v e => .atom v e
  | .ptr a p s e => .ptr a p s (h _ _ e)
  | .slice a p len cap cap' s e c => .slice a p len cap cap' s (h _ _ e) c
  | .junk a c => .junk a c
  | .map r p e => .map r p (h _ _ e)
  | .func fn fn' a b a' b' f x y => .func fn fn' a b a' b' (f.mono h) (VRs.mono h x) (VRs.mono h y)
  | .iface t v v' e => .iface t v v' (VR.mono h e)
  | .agg a a' e => .agg a a' (VRs.mono h e)
  | .tuple a a' e => .tuple a a' (VRs.mono h e)
theorem VRs.mono {φ phq : Phi} (h : Sub φ phq) {l l' : List Value} : VRs φ l l' → VRs phq l l'
  | .nil => .nil
  | .cons x y => .cons (VR.mono h x) (VRs.mono h y)
end

theorem VRs.length {φ : Phi} {l l' : List Value} (h : VRs φ l l') : l.length = l'.length := by
  induction l generalizing l' with
  | nil => cases h; rfl
  | cons v l ih => cases h with | cons a b => simp [ih b]
theorem VRs.get {φ : Phi} : ∀ {l l' : List Value}, VRs φ l l' → ∀ {i : Nat} {v : Value}, l[i]? = some v → ∃ v', l'[i]? = some v' ∧ VR φ v v'
  | [], _, .nil, i, v, h => by simp at h
  | x :: l, _, .cons (v' := x') (l' := l') a b, 0, v, h => by simp at h; subst h; exact ⟨x', by simp, a⟩
  | x :: l, _, .cons (v' := x') (l' := l') a b, i + 1, v, h => by
    obtain ⟨v', h1, h2⟩ := VRs.get b (i := i) (v := v) (by simpa using h)
    exact ⟨v', by simpa using h1, h2⟩
theorem VRs.of_get {φ : Phi} : ∀ (l l' : List Value), l.length = l'.length → (∀ (i : Nat) (v v' : Value), l[i]? = some v → l'[i]? = some v' → VR φ v v') → VRs φ l l'
  | [], [], _, _ => .nil
  | [], _ :: _, h, _ => by simp at h
  | _ :: _, [], h, _ => by simp at h
  | v :: l, v' :: l', h, k => .cons (k 0 v v' rfl rfl) (VRs.of_get l l' (by simpa using h) fun i a b x y => k (i + 1) a b (by simpa using x) (by simpa using y))
theorem VRs.append {φ : Phi} : ∀ {a a' b b' : List Value}, VRs φ a a' → VRs φ b b' → VRs φ (a ++ b) (a' ++ b')
  | [], _, _, _, .nil, k => k
  | _ :: _, _, _, _, .cons x y, k => .cons x (VRs.append y k)
theorem VRs.atoms {φ : Phi} : ∀ {l : List Value}, l.all atom = true → VRs φ l l
  | [], _ => .nil
  | v :: l, h => by
    simp only [List.all_cons, Bool.and_eq_true] at h
    exact .cons (.atom v h.1) (VRs.atoms h.2)
theorem VR.const {φ : Phi} {v : Value} (h : constOk v = true) : VR φ v v := by
  cases v <;> first
    | exact .atom _ h
    | exact .agg _ _ (VRs.atoms h)
    | exact .tuple _ _ (VRs.atoms h)
theorem VRs.drop {φ : Phi} : ∀ {l l' : List Value} (n : Nat), VRs φ l l' → VRs φ (l.drop n) (l'.drop n)
  | _, _, 0, h => by simpa using h
  | [], _, _ + 1, .nil => by simpa using VRs.nil
  | _ :: _, _, n + 1, .cons _ y => by simpa using VRs.drop n y
theorem VRs.takeN {φ : Phi} : ∀ {l l' : List Value} (n : Nat) {m : List Value}, VRs φ l l' → takeN n l = some m → m.length = n ∧ VRs φ m (l'.take n)
  | l, l', 0, m, h, e => by
    cases l <;> simp [Ab.takeN] at e <;> subst e <;> exact ⟨rfl, by simpa using VRs.nil⟩
  | [], _, _ + 1, _, _, e => by simp [Ab.takeN] at e
  | v :: l, _, n + 1, m, .cons (v' := v') (l' := l') x y, e => by
    simp only [Ab.takeN, Option.bind_eq_some_iff] at e
    obtain ⟨r, hr, e⟩ := e
    obtain ⟨h1, h2⟩ := VRs.takeN n y hr
    simp only [Option.some.injEq] at e
    subst e
    exact ⟨by simp [h1], by simpa using VRs.cons x h2⟩
theorem takeN_eq : ∀ (n : Nat) (l m : List Value), takeN n l = some m → m = l.take n ∧ n ≤ l.length
  | 0, l, m, e => by cases l <;> simp [takeN] at e <;> simp [e]
  | _ + 1, [], _, e => by simp [takeN] at e
  | n + 1, v :: l, m, e => by
    simp only [takeN, Option.bind_eq_some_iff] at e
    obtain ⟨r, hr, e⟩ := e
    obtain ⟨h1, h2⟩ := takeN_eq n l r hr
    simp only [Option.some.injEq] at e
    subst e
    exact ⟨by simp [h1], by simp; omega⟩
theorem cut_eq {c l : List Value} {off n : Nat} (h : cut c off n = some l) : l = (c.drop off).take n ∧ n ≤ (c.drop off).length := takeN_eq _ _ _ h
theorem cut_get {c l : List Value} {off n : Nat} (h : cut c off n = some l) {i : Nat} {v : Value} (hi : l[i]? = some v) : c[off + i]? = some v ∧ i < n := by
  obtain ⟨rfl, hn⟩ := cut_eq h
  have hlt : i < n := by
    rcases Nat.lt_or_ge i n with h | h
    · exact h
    · rw [List.getElem?_take_eq_none h] at hi; simp at hi
  rw [List.getElem?_take_of_lt hlt, List.getElem?_drop] at hi
  exact ⟨hi, hlt⟩
theorem cut_length {c l : List Value} {off n : Nat} (h : cut c off n = some l) : l.length = n ∧ off + n ≤ c.length ∨ (l.length = n ∧ n = 0) := by
  obtain ⟨rfl, hn⟩ := cut_eq h
  simp only [List.length_drop] at hn
  simp only [List.length_take, List.length_drop]
  omega
theorem splice_get : ∀ (c : List Value) (off : Nat) (new l : List Value), splice c off new = some l →
    l.length = c.length ∧ (∀ i, l[i]? = if off ≤ i ∧ i < off + new.length then new[i - off]? else c[i]?) ∧ (off + new.length ≤ c.length ∨ new = [])
  | c, off, [], l, h => by
    have : l = c := by cases c <;> cases off <;> simp [splice] at h <;> simp [h]
    subst this
    refine ⟨rfl, fun i => ?_, .inr rfl⟩
    rw [if_neg (by simp)]
  | [], off, v :: new, l, h => by cases off <;> simp [splice] at h
  | u :: c, 0, v :: new, l, h => by
    simp only [splice, Option.bind_eq_some_iff, Option.some.injEq] at h
    obtain ⟨r, hr, rfl⟩ := h
    obtain ⟨h1, h2, h3⟩ := splice_get c 0 new r hr
    refine ⟨by simp [h1], fun i => ?_, .inl ?_⟩
    · cases i with
      | zero => simp
      | succ i => simp [h2 i]
    · rcases h3 with h3 | h3
      · simpa using h3
      · subst h3; simp
  | u :: c, off + 1, v :: new, l, h => by
    simp only [splice, Option.bind_eq_some_iff, Option.some.injEq] at h
    obtain ⟨r, hr, rfl⟩ := h
    obtain ⟨h1, h2, h3⟩ := splice_get c off (v :: new) r hr
    refine ⟨by simp [h1], fun i => ?_, .inl ?_⟩
    · cases i with
      | zero => simp
      | succ i =>
        simp only [List.getElem?_cons_succ, h2 i]
        have e : (off + 1 ≤ i + 1 ∧ i + 1 < off + 1 + (v :: new).length) ↔ (off ≤ i ∧ i < off + (v :: new).length) := by omega
        simp only [e, Nat.add_sub_add_right]
    · rcases h3 with h3 | h3
      · simp at h3 ⊢; omega
      · simp at h3

end Go.Ab
