/-
  The summaries are sound, and the calls of Go's library without a body. No statement of the seat is proved here. Conditions: none.
-/
import Derived.Test.YtmpiakibllgdeaaGreatDoorCb
import Derived.Test.YtmpiakibllgdeaaGreatDoorCrc
import Derived.Laws.Externs
set_option linter.unusedVariables false
set_option linter.unusedSimpArgs false
namespace Go.Ab
open Go.Proofs Go.Proofs.YtmpiakibllgdeaaGreatDoor

theorem follows : EE.P.follows .mixedOrders = true := by kernel_rfl

/-- A contract of a call that turns nothing. -/
theorem sum_of_calls {f : FuncId} {args' : Array Value} {w : World} {v' : Value} (C : Calls Tryz.prog f args' w fun e w' => e = .returned v' ∧ w = w') (c : Frame) (cs : List Frame) :
    Steps EE.P (lone (Frame.enter EE.P f args' .normal) (c :: cs) w) (lone (c.finish v') cs w) := by
  obtain ⟨e, w', fr, ⟨rfl, rfl⟩, st, _, hl⟩ := C (c :: cs)
  exact Steps.trans st (.one (step_leave_returned hl))

section
variable {w0 w : World} {φ : Phi} {h : AHeap}
theorem VR.number {k : IntKind} {n : Int} {v' : Value} (k : VR φ (.int k n) v') : v' = .int ‹IntKind› n := by cases k; rfl
/-- A row of cells that came in. -/
theorem row_in {a : Addr} {len cap : Nat} {sv : Value} {c : List Value × AKind} {l : List Value} (W : WR w0 φ h w) (V : VR φ (.slice (some a) len cap) sv) (hs : a.spot = none) (hc : getCells h a.block = some c) (hl : cut c.1 a.off len = some l) :
    ∃ g off cap', sv = .slice (some ⟨g, off, none⟩) len cap' ∧ l.length = len ∧ ∀ (i : Nat) (v : Value), l[i]? = some v → ∃ v', w.cell? ⟨g, off + i, none⟩ = some v' ∧ VR φ v v' := by
  cases V with
  | atom _ z => simp [Ab.atom] at z
  | junk a' c' => simp [junk] at hs
  | slice _ p _ _ cap' s1 hp hcap =>
    have hg := getCells_eq hc
    refine ⟨p.b, p.o + a.off, cap', rfl, ?_, fun i v hi => ?_⟩
    · rcases cut_length hl with h | h <;> exact h.1
    · obtain ⟨h1, _⟩ := cut_get hl hi
      have := W.cell hp hg h1
      rwa [← Nat.add_assoc] at this
end

/-! ### crc -/
theorem natsOf_eq : ∀ {l : List Value} {bs : List Nat}, natsOf l = some bs → l = bs.map (fun n => .int .u8 (.ofNat n)) ∧ ∀ n ∈ bs, n < 256
  | [], bs, e => by cases e; exact ⟨rfl, by simp⟩
  | v :: r, bs, e => by
    unfold natsOf at e
    split at e
    · rename_i h; cases h
    · rename_i n r' h
      cases h
      cases hb : Nat.blt n 256 with
      | false => simp [hb] at e
      | true =>
        simp only [hb, cond_true, Option.bind_eq_some_iff, Option.some.injEq] at e
        obtain ⟨l, hl, rfl⟩ := e
        obtain ⟨rfl, h2⟩ := natsOf_eq hl
        refine ⟨rfl, fun m hm => ?_⟩
        rcases List.mem_cons.1 hm with rfl | hm
        · simpa [Nat.blt_eq] using hb
        · exact h2 m hm
    · cases e
def halfT (i : Nat) : Int := (halfN.getD i 0 : Nat)
theorem half_small (i : Nat) : halfN.getD i 0 < 4294967296 := by
  rcases Nat.lt_or_ge i 16 with h | h
  · have : ∀ j : Fin 16, halfN.getD j 0 < 4294967296 := by decide
    exact this ⟨i, h⟩
  · have e : halfN.getD i 0 = 0 := by
      have hl : halfN.length = 16 := rfl
      rw [List.getD_eq_getElem?_getD, List.getElem?_eq_none (by omega)]; rfl
    rw [e]; decide
theorem xor_small {m n : Nat} (hm : m < 4294967296) (hn : n < 4294967296) : bits .xor .u32 (m : Int) (n : Int) = (Nat.xor m n : Nat) ∧ Nat.xor m n < 4294967296 := by
  have e1 : (BitVec.ofInt IntKind.u32.bits (m : Int)).toNat = m := small_bits (k := .u32) hm
  have e2 : (BitVec.ofInt IntKind.u32.bits (n : Int)).toNat = n := small_bits (k := .u32) hn
  have lt : Nat.xor m n < 2 ^ 32 := Nat.xor_lt_two_pow hm hn
  refine ⟨?_, lt⟩
  show IntKind.u32.wrap ((BitVec.ofInt IntKind.u32.bits (m : Int) ^^^ BitVec.ofInt IntKind.u32.bits (n : Int)).toNat : Nat) = _
  rw [BitVec.toNat_xor, e1, e2]
  exact wrap_small (k := .u32) lt
theorem nib_eq {x : Nat} (hx : x < 4294967296) : nib halfT (x : Int) = (nibN x : Nat) ∧ nibN x < 4294967296 := by
  have e : nib halfT (x : Int) = bits .xor .u32 ((x / 16 : Nat) : Int) ((halfN.getD (x % 16) 0 : Nat) : Int) := by
    unfold nib halfT
    have e1 : ((x : Int) / 16) = ((x / 16 : Nat) : Int) := by omega
    have e2 : ((x : Int) % 16).toNat = x % 16 := by omega
    rw [e1, e2]
  rw [e]
  exact xor_small (by omega) (half_small _)
theorem crc_eq : ∀ (bs : List Nat) (x : Nat), (∀ n ∈ bs, n < 256) → x < 4294967296 → crcOf halfT (x : Int) (bs.map fun n => ((n : Nat) : Int)) = (crcN bs x : Nat) ∧ crcN bs x < 4294967296
  | [], x, _, hx => ⟨rfl, hx⟩
  | b :: bs, x, hb, hx => by
    obtain ⟨e1, l1⟩ := xor_small hx (show b < 4294967296 by have := hb b (by simp); omega)
    obtain ⟨e2, l2⟩ := nib_eq l1
    obtain ⟨e3, l3⟩ := nib_eq l2
    have e : crcOf halfT (x : Int) ((b :: bs).map fun n => ((n : Nat) : Int)) = crcOf halfT (nibs halfT (bits .xor .u32 (x : Int) (b : Int)) 2) (bs.map fun n => ((n : Nat) : Int)) := rfl
    rw [e, e1]
    have e4 : nibs halfT ((Nat.xor x b : Nat) : Int) 2 = ((nibN (nibN (Nat.xor x b)) : Nat) : Int) := by
      show nib halfT (nib halfT ((Nat.xor x b : Nat) : Int)) = _
      rw [e2, e3]
    rw [e4]
    exact crc_eq bs _ (fun n hn => hb n (by simp [hn])) l3
theorem inv_eq {x : Nat} (hx : x < 4294967296) : inv32 (x : Int) = (Nat.xor 4294967295 x : Nat) ∧ Nat.xor 4294967295 x < 4294967296 := by
  have e : IntKind.u32.max = ((4294967295 : Nat) : Int) := by decide
  unfold inv32
  rw [e]
  exact xor_small (by decide) hx
theorem crcE_sound {w0 w : World} {φ : Phi} {h h' : AHeap} {args : List Value} {args' : Array Value} {v : Value} (W : WR w0 φ h w) (G : GR EE.globals φ) (A : VRs φ args args'.toList) (e : crcE args h = some (v, h')) :
    h' = h ∧ VR φ v v ∧ Calls Tryz.prog 199 args' w fun e w' => e = .returned v ∧ w = w' := by
  unfold crcE at e
  split at e
  · rename_i a len cap
    split at e
    · rename_i tb hs ht
      cases hc : (eqAtoms tb halfCells && Nat.ble len 1000000) with
      | false => simp [hc] at e
      | true =>
        simp only [hc, cond_true, Option.bind_eq_some_iff, Option.some.injEq, Prod.mk.injEq] at e
        obtain ⟨c, hcells, l, hl, bs, hbs, rfl, rfl⟩ := e
        simp only [Bool.and_eq_true] at hc
        have htb := eqAtoms_eq hc.1
        have hlen := Nat.le_of_ble_eq_true hc.2
        subst htb
        obtain ⟨rfl, hbnd⟩ := natsOf_eq hbs
        obtain ⟨sv, l', hargs, h0, hsv⟩ : ∃ sv l', args'.toList = [l', sv] ∧ VR φ (.int .u32 (.ofNat 0)) l' ∧ VR φ (.slice (some a) len cap) sv := by
          generalize args'.toList = q at A
          cases A with
          | cons x y => cases y with
            | cons x2 y2 => cases y2 with
              | nil => exact ⟨_, _, rfl, x, x2⟩
        obtain ⟨g, off, cap', rfl, hll, hat⟩ := row_in W hsv hs hcells hl
        obtain rfl := VR.number h0
        have ha : args' = #[.int .u32 0, .slice (some ⟨g, off, none⟩) len cap'] := by
          apply Array.toList_inj.1
          rw [hargs]; rfl
        subst ha
        simp only [List.length_map] at hll
        have hr : Reads w g off (bs.map fun n => ((n : Nat) : Int)) := by
          refine ⟨fun i hi => ?_, fun i => ?_⟩
          · simp only [List.length_map] at hi
            have h1 : (bs.map fun n => Value.int .u8 (.ofNat n))[i]? = some (.int .u8 (.ofNat bs[i])) := by simp [hi]
            obtain ⟨v', h2, h3⟩ := hat i _ h1
            rw [h2, VR.number h3]
            simp [hi]
          · rcases Nat.lt_or_ge i bs.length with hi | hi
            · have := hbnd bs[i] (List.getElem_mem hi)
              simp only [List.getElem?_map, List.getElem?_eq_getElem hi, Option.map_some, Option.getD_some]
              omega
            · simp only [List.getElem?_map, List.getElem?_eq_none hi, Option.map_none, Option.getD_none]
              omega
        have hT : Half w halfT := by
          intro i hi
          obtain ⟨p, hp, pb, po⟩ := G 1 (by decide)
          have hcell : halfCells[i]? = some (.int .u32 (.ofNat (halfN.getD i 0))) := by
            have hl16 : halfN.length = 16 := rfl
            unfold halfCells
            rw [List.getElem?_map, List.getElem?_eq_getElem (by omega), List.getD_eq_getElem?_getD, List.getElem?_eq_getElem (by omega)]
            rfl
          obtain ⟨v', h2, h3⟩ := W.cell hp ht hcell
          rw [pb, po, Nat.zero_add, VR.number h3] at h2
          have := half_small i
          refine ⟨h2, ?_, ?_⟩ <;> unfold halfT <;> omega
        have C := more_any g off len cap' (bs.map fun n => ((n : Nat) : Int)) 0 halfT w hr (by simpa using hll) hlen hT (by omega) (by omega)
        obtain ⟨e0, l0⟩ := inv_eq (x := 0) (by omega)
        have e0' : inv32 0 = ((4294967295 : Nat) : Int) := e0
        obtain ⟨e1, l1⟩ := crc_eq bs 4294967295 hbnd (by omega)
        obtain ⟨e2, l2⟩ := inv_eq l1
        rw [e0', e1, e2] at C
        refine ⟨rfl, .atom _ rfl, ?_⟩
        have ex : Nat.xor 4294967295 (crcN bs 4294967295) = Nat.xor (crcN bs 4294967295) 4294967295 := Nat.xor_comm _ _
        rw [ex] at C
        exact C
    · cases e
  · cases e

/-! ### noughts -/
theorem zeroCell_eq {v : Value} (h : zeroCell v = true) : v = .int .u8 0 := by
  unfold zeroCell at h
  split at h
  · rfl
  · cases h
theorem two_args {φ : Phi} {a b : Value} {args' : Array Value} (A : VRs φ [a, b] args'.toList) : ∃ x y, args' = #[x, y] ∧ VR φ a x ∧ VR φ b y := by
  obtain ⟨l⟩ := args'
  cases A with
  | cons x y => cases y with
    | cons x2 y2 => cases y2 with
      | nil => exact ⟨_, _, rfl, x, x2⟩
theorem zerosE_sound {w0 w : World} {φ : Phi} {h h' : AHeap} {args : List Value} {args' : Array Value} {v : Value} (W : WR w0 φ h w) (A : VRs φ args args'.toList) (e : zerosE args h = some (v, h')) :
    h' = h ∧ VR φ v v ∧ Calls Tryz.prog 333 args' w fun e w' => e = .returned v ∧ w = w' := by
  unfold zerosE at e
  split at e
  · rename_i a len cap x y
    split at e
    · rename_i hs
      cases hc : (x.toList.isEmpty && y.toList.isEmpty && Nat.ble len 1000) with
      | false => rw [hc] at e; cases e
      | true =>
        simp only [hc, cond_true, Option.bind_eq_some_iff] at e
        obtain ⟨c, hcells, l, hl, e⟩ := e
        cases hz : l.all zeroCell with
        | false => simp [hz] at e
        | true =>
          simp only [hz, cond_true, Option.some.injEq, Prod.mk.injEq] at e
          obtain ⟨rfl, rfl⟩ := e
          simp only [Bool.and_eq_true, List.isEmpty_iff] at hc
          obtain ⟨sv, fv, rfl, hsv, hfv⟩ := two_args A
          obtain ⟨g, off, cap', rfl, hll, hat⟩ := row_in W hsv hs hcells hl
          have hf : fv = .func (.func 334) #[] #[] := by
            obtain ⟨x⟩ := x
            obtain ⟨y⟩ := y
            obtain ⟨⟨h1, h2⟩, _⟩ := hc
            simp only at h1 h2
            subst h1; subst h2
            cases hfv with
            | atom _ z => simp [Ab.atom] at z
            | func fn fn' a b a' b' f p q =>
              have := p.nil_right
              have := q.nil_right
              obtain ⟨a'⟩ := a'
              obtain ⟨b'⟩ := b'
              simp_all
              cases f; rfl
          subst hf
          refine ⟨rfl, .atom _ rfl, contains_no g off len cap' w (fun i hi => ?_) (Nat.le_of_ble_eq_true hc.2)⟩
          have h1 : l[i]? = some l[i] := List.getElem?_eq_getElem (by omega)
          obtain ⟨v', h2, h3⟩ := hat i _ h1
          have hz0 := zeroCell_eq (List.all_eq_true.1 hz l[i] (List.getElem_mem (by omega)))
          rw [hz0] at h3
          rw [h2, VR.number h3]
    · cases e
  · cases e

/-! ### blocks -/
theorem lowCell_eq {n : Nat} {v : Value} (h : lowCell n v = true) : ∃ m, v = .int .i64 (.ofNat m) ∧ m < n := by
  unfold lowCell at h
  split at h
  · rename_i m
    exact ⟨m, rfl, by simpa [Nat.blt_eq] using h⟩
  · cases h
def natOf : Value → Nat
  | .int _ (.ofNat m) => m
  | _ => 0
theorem withinE_sound {w0 w : World} {φ : Phi} {h h' : AHeap} {args : List Value} {args' : Array Value} {v : Value} (W : WR w0 φ h w) (A : VRs φ args args'.toList) (e : withinE args h = some (v, h')) :
    h' = h ∧ VR φ v v ∧ Calls Tryz.prog 285 args' w fun e w' => e = .returned v ∧ w = w' := by
  unfold withinE at e
  split at e
  · rename_i p a len cap
    split at e
    · rename_i hs hps
      cases hc : Nat.ble len 1000 with
      | false => simp [hc] at e
      | true =>
        simp only [hc, cond_true, Option.bind_eq_some_iff] at e
        obtain ⟨q, hq, c, hcells, l, hl, e⟩ := e
        split at e
        · rename_i n hn
          cases hz : l.all (lowCell n) with
          | false => simp [hz] at e
          | true =>
            simp only [hz, cond_true, Option.some.injEq, Prod.mk.injEq] at e
            obtain ⟨rfl, rfl⟩ := e
            obtain ⟨pv, sv, rfl, hpv, hsv⟩ := two_args A
            obtain ⟨g, off, cap', rfl, hll, hat⟩ := row_in W hsv hs hcells hl
            cases hpv with
            | atom _ z => simp [Ab.atom] at z
            | ptr _ pp hs2 hpp =>
              have hb : w.cell? ⟨pp.b, pp.o + p.off + 1, none⟩ = some (.int .i64 n) := by
                rw [List.head?_drop] at hn
                obtain ⟨v', h2, h3⟩ := W.cell hpp (getCells_eq hq) hn
                rw [VR.number h3, ← Nat.add_assoc] at h2
                exact h2
              refine ⟨rfl, .tuple _ _ .nil, within_any pp.b (pp.o + p.off) g off len cap' n (fun i => natOf (l[i]?.getD undef)) w hb (fun i hi => ?_) (Nat.le_of_ble_eq_true hc)⟩
              have h1 : l[i]? = some l[i] := List.getElem?_eq_getElem (by omega)
              obtain ⟨v', h2, h3⟩ := hat i _ h1
              obtain ⟨m, hm, hlt⟩ := lowCell_eq (List.all_eq_true.1 hz l[i] (List.getElem_mem (by omega)))
              rw [hm] at h3
              rw [h2, VR.number h3, h1, Option.getD_some, hm]
              exact ⟨rfl, hlt⟩
        · cases e
    · cases e
  · cases e
end Go.Ab

/-
  All that the machine made for the kernel leans on holds of the program. No statement of the seat is proved here. Conditions: none.
-/
set_option linter.unusedVariables false
set_option linter.unusedSimpArgs false
namespace Go.Ab
open Go.Proofs

theorem placeN_eq {s : ByteArray} {c : Nat} {x : UInt8} (hx : x.toNat = c) : ∀ (n k : Nat), k + n = s.size → (List.range' k n).find? (fun i => s[i]! == x) = placeN c (s.data.toList.drop k) k
  | 0, k, h => by
    have : s.data.toList.drop k = [] := List.drop_eq_nil_of_le (by rw [Array.length_toList]; have h' : k + 0 = s.data.size := h; omega)
    rw [this]; rfl
  | n + 1, k, h => by
    have hk : k < s.data.toList.length := by rw [Array.length_toList]; have h' : k + (n + 1) = s.data.size := h; omega
    have hg : s[k]! = s.data.toList[k] := by
      have hd : k < s.data.size := by simpa using hk
      cases s with
      | mk d => simp only [getElem!_pos, ByteArray.size, hd]; rfl
    rw [List.range'_succ, List.find?_cons, List.drop_eq_getElem_cons hk, hg]
    have e : (s.data.toList[k] == x) = Nat.beq (s.data.toList[k]).toNat c := by
      rw [Bool.eq_iff_iff]
      simp only [beq_iff_eq, Nat.beq_eq, ← hx]
      exact ⟨fun h => by rw [h], fun h => UInt8.toNat_inj.1 h⟩
    simp only [placeN, e]
    cases Nat.beq (s.data.toList[k]).toNat c with
    | true => rfl
    | false => exact placeN_eq hx n (k + 1) (by omega)
theorem index_eq {s : ByteArray} {c : Nat} (hc : c < 256) : firstIdx s (Int.ofNat c).toNat.toUInt8 = (match placeN c s.data.toList 0 with | some i => .ofNat i | none => .negSucc 0) := by
  have hx : ((Int.ofNat c).toNat.toUInt8).toNat = c := by
    show (UInt8.ofNat c).toNat = c
    simp only [UInt8.toNat_ofNat']
    omega
  have := placeN_eq (s := s) hx s.size 0 (by omega)
  rw [List.drop_zero, ← List.range_eq_range'] at this
  unfold firstIdx
  rw [this]
  cases placeN c s.data.toList 0 <;> rfl

theorem ext_ok : ExtOK EE := by
  intro f g hg φ args args' v w A e
  change exts f = some g at hg
  unfold exts at hg
  cases h1 : Nat.beq f 265 with
  | true =>
    simp only [h1, cond_true, Option.some.injEq] at hg
    subst hg
    obtain rfl : f = 265 := Nat.eq_of_beq_eq_true h1
    unfold noEscapeE at e
    split at e
    · rename_i x
      cases e
      obtain ⟨l⟩ := args'
      cases A with
      | @cons _ v' _ _ a b =>
        cases b
        exact ⟨v', (run_callFunc_extern Tryz.func265 (by kernel_rfl) (by kernel_rfl) (by kernel_rfl) (e := Extern.AbiNoEscape.same) (by kernel_rfl) #[v'] w).trans rfl, a⟩
    · cases e
  | false =>
    simp only [h1, cond_false] at hg
    cases h2 : Nat.beq f 376 with
    | false => simp [h2] at hg
    | true =>
      simp only [h2, cond_true, Option.some.injEq] at hg
      subst hg
      obtain rfl : f = 376 := Nat.eq_of_beq_eq_true h2
      unfold indexB at e
      split at e
      · rename_i s c
        cases hb : Nat.blt c 256 with
        | false => simp [hb] at e
        | true =>
          simp only [hb, cond_true, Option.some.injEq] at e
          have hc : c < 256 := by simpa [Nat.blt_eq] using hb
          obtain ⟨x, y, rfl, hx, hy⟩ := two_args A
          obtain rfl := VR.number hy
          cases hx with
          | atom _ _ =>
            refine ⟨_, (run_callFunc_extern Tryz.func376 (by kernel_rfl) (by kernel_rfl) (by kernel_rfl) (e := Extern.BytealgIndexByte.indexByte) (by kernel_rfl) _ w).trans (by rw [run_indexByte_string]; rfl), ?_⟩
            rw [index_eq hc]
            subst e
            exact .atom _ rfl
      · cases e

/-- The same, without summaries. -/
noncomputable def EE0 : Env := { EE with sum := fun _ => none }
theorem blank_ok : memoOK EE0 5000 blank = true := by kernel_rfl
theorem sum_ok : SumOK EE := by
  intro f s hs w0 φ h w args args' v h' W G A e c cs
  change sums f = some s at hs
  unfold sums at hs
  have fin : ∀ {f : FuncId}, (h' = h ∧ VR φ v v ∧ Calls Tryz.prog f args' w fun e w' => e = .returned v ∧ w = w') →
      ∃ v' w' phq, Steps EE.P (lone (Frame.enter EE.P f args' .normal) (c :: cs) w) (lone (c.finish v') cs w') ∧ WR w0 phq h' w' ∧ Ext h.next φ phq ∧ VR phq v v' ∧ Keeps h h' := by
    rintro f ⟨rfl, hV, C⟩
    exact ⟨v, w, φ, sum_of_calls C c cs, W, Ext.refl _ _, hV, Keeps.refl _⟩
  cases h1 : Nat.beq f 254 with
  | true =>
    simp only [h1, cond_true, Option.some.injEq] at hs
    subst hs
    obtain rfl : f = 254 := Nat.eq_of_beq_eq_true h1
    exact memo_sound (E := EE0) follows ext_ok (fun _ _ z => by cases z) blank_ok W G A e c cs
  | false =>
    simp only [h1, cond_false] at hs
    cases h2 : Nat.beq f 199 with
    | true =>
      simp only [h2, cond_true, Option.some.injEq] at hs
      subst hs
      obtain rfl : f = 199 := Nat.eq_of_beq_eq_true h2
      exact fin (crcE_sound W G A e)
    | false =>
      simp only [h2, cond_false] at hs
      cases h3 : Nat.beq f 333 with
      | true =>
        simp only [h3, cond_true, Option.some.injEq] at hs
        subst hs
        obtain rfl : f = 333 := Nat.eq_of_beq_eq_true h3
        exact fin (zerosE_sound W A e)
      | false =>
        simp only [h3, cond_false] at hs
        cases h4 : Nat.beq f 285 with
        | true =>
          simp only [h4, cond_true, Option.some.injEq] at hs
          subst hs
          obtain rfl : f = 285 := Nat.eq_of_beq_eq_true h4
          exact fin (withinE_sound W A e)
        | false => simp [h4] at hs
theorem sound : Sound := ⟨follows, ext_ok, sum_ok⟩
end Go.Ab
