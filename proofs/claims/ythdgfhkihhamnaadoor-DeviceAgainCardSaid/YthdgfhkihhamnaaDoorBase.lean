/-
  PROVED HERE: contracts of package device, the first part.
-/
import Derived.Test.YthdgfhkihhamnaaDoorRows
import Derived.WalkKit
import Derived.ProofKit
import Derived.OpenShut
import Derived.Lib.Hide
import Derived.Handy
import Derived.Laws.CopyOwn
import Derived.Laws.BytesString
import Derived.Deep.QuietTactic
import Derived.BigQuiet
import Derived.BigRegion
import Derived.Deep.DeepCutAuto
import Derived.Maps.OwnSet
namespace Go.Proofs.YthdgfhkihhamnaaDoor
open Go.ChangeShapes Go.WideShapes Go.ChangeAt Go.RowKit

theorem ret_int {k : IntKind} {a b : Int} (h : a = b) : Ending.returned (.int k a) = .returned (.int k b) := by rw [h]
theorem ret_bool {c d : Bool} (h : c = d) : Ending.returned (.bool c) = .returned (.bool d) := by rw [h]

/-- The bytes bs lie in block g. -/
def Bytes (w : World) (g : Nat) (bs : List Int) : Prop := w.heap[g]? = some (.cells (bs.map (Value.int .u8)).toArray 5 (0, 0))
/-- A slice of 512 bytes at block g. -/
def dv (g : Nat) : Value := .slice (some ⟨g, 0, none⟩) 512 512
/-- What 'sector' makes. -/
def noughts : List Int := List.replicate 512 (0 : Int)
def sec (n : Int) : List Int := ((noughts.set 0 (n % 256)).set 1 (n / 256 % 256)).set 511 ((n + 1) % 256)
theorem sec_def (n : Int) : sec n = ((noughts.set 0 (n % 256)).set 1 (n / 256 % 256)).set 511 ((n + 1) % 256) := rfl
theorem noughts_len : noughts.length = 512 := List.length_replicate
theorem sec_len (n : Int) : (sec n).length = 512 := by unfold sec; rw [List.length_set, List.length_set, List.length_set, noughts_len]
theorem noughts_map : (List.replicate 512 (Value.int .u8 0)) = noughts.map (Value.int .u8) := by unfold noughts; rw [List.map_replicate]

theorem Bytes.raw {w : World} {g : Nat} {bs : List Int} (h : Bytes w g bs) : w.heap[g]? = some (.cells (bs.map (Value.int .u8)).toArray 5 (0, 0)) := h
theorem Bytes.lt {w : World} {g : Nat} {bs : List Int} (h : Bytes w g bs) : g < w.heap.size := (Array.getElem?_eq_some_iff.1 h).1
theorem Bytes.kept {w w' : World} {g : Nat} {bs : List Int} (h : Bytes w g bs) (hb : Below w.heap.size w w') : Bytes w' g bs := (hb.block g h.lt).trans h
theorem Bytes.grown {w w' : World} {g : Nat} {bs : List Int} {row : Option Nat} (h : Bytes w g bs) (hg : w.grownBy w' row) (hr : some g ≠ row) : Bytes w' g bs := (hg.block g h.lt hr).trans h
theorem Bytes.cell {w : World} {g : Nat} {bs : List Int} (h : Bytes w g bs) (j : Nat) : w.cell? ⟨g, j, none⟩ = (bs[j]?).map (Value.int .u8) := by
  unfold Bytes at h
  simp [World.cell?, h]
theorem Bytes.at {w : World} {g : Nat} {bs : List Int} (h : Bytes w g bs) (j : Nat) (hj : j < bs.length) : w.cell? ⟨g, j, none⟩ = some (.int .u8 (bs[j]?.getD 0)) := by
  rw [h.cell j, List.getElem?_eq_getElem hj]; rfl
theorem Bytes.free {w : World} {g : Nat} {bs : List Int} (h : Bytes w g bs) (j : Nat) : w.frozen? ⟨g, j, none⟩ = false := by
  unfold Bytes at h
  simp [World.frozen?, h]
theorem Bytes.set {w : World} {g : Nat} {bs : List Int} (h : Bytes w g bs) (j : Nat) (v : Int) : Bytes (w.setCell ⟨g, j, none⟩ (.int .u8 v)) g (bs.set j v) := by
  have hl := h.lt
  unfold Bytes at h ⊢
  simp only [World.setCell, Array.getElem?_modify, h]
  simp [List.map_set]

theorem Tryd.info5 : (Tryd.prog.info? 5).map (fun i => (i.zero, i.size, i.bytes)) = some (some (.int .u8 0), 1, 1) := by kernel_rfl

theorem made_bytes {w w1 : World} {B : Nat} (hown : w1.ownsRow B 5 1 (.slice (some ⟨w.heap.size, 0, none⟩) 512 512) 512 (madeCells #[.int .u8 0] (512 * 1)).toList) : Bytes w1 w.heap.size noughts := by
  obtain ⟨h1, h2⟩ := hown
  rcases h2 with ⟨h2, _⟩ | ⟨g, cap, cur, hv, hb, hh, hn, hc, hs, ht⟩
  · simp at h2
  · simp only [Value.slice.injEq, Option.some.injEq, Addr.mk.injEq, and_true, true_and] at hv
    obtain ⟨rfl, rfl⟩ := hv
    unfold Bytes
    rw [hh]
    have e : cur.toList = (noughts.map (Value.int .u8)) := by
      rw [Nat.mul_one, toList_madeCells_one, noughts_map] at ht
      rw [List.take_of_length_le (by rw [Array.length_toList]; omega)] at ht
      exact ht
    rw [← e]

set_option maxHeartbeats 1000000 in
theorem sector_any (n : Int) (w : World) :
    Calls Tryd.prog 11 #[.int .i64 n] w fun e w' => e = .returned (dv w.heap.size) ∧ Bytes w' w.heap.size (sec n) ∧ Below w.heap.size w w' := by
  obtain ⟨i0, hi, hz0, hz1, hz2⟩ := info_parts Tryd.info5
  go_enter Tryd.func11, Tryd.ntmps11
  go_wp2_with (at_make; refine wpList_make_full _ rfl _ _ 38 rfl w.heap.size 5 i0 (.int .u8 0) 1 Tryd.underlying38 hi hz0 hz1 .i64 .i64 _ _ 512 rfl rfl rfl rfl (by rw [hz2]; decide) (by unfold maxLen; decide) (Nat.le_refl _) ?_; intro w1 hown hgr; have hbs := made_bytes hown; have c0 := hbs.at 0 (by rw [noughts_len]; decide); have c1 := hbs.at 1 (by rw [noughts_len]; decide); have c2 := hbs.at 511 (by rw [noughts_len]; decide); have f0 := hbs.free 0; have f1 := hbs.free 1; have f2 := hbs.free 511; have HB := Lib.hid (And.intro hbs ((Below.refl _ _).grown hgr (Nat.le_refl _) (fun k e => by cases e))); clear hbs hown hgr)
  go_ret
  refine ⟨rfl, ?_, ?_⟩
  · have h := ((HB.out.1.set 0 (n % 256)).set 1 (n / 256 % 256)).set 511 ((n + 1) % 256)
    rw [← sec_def] at h
    exact h
  · exact ((HB.out.2.setCell (Nat.le_refl _) _).setCell (Nat.le_refl _) _).setCell (Nat.le_refl _) _

/-- The text of bytes. -/
def txt (bs : List Int) : ByteArray := bs.foldl (fun r n => r.push (UInt8.ofNat n.toNat)) ByteArray.empty
theorem loads {w : World} {g : Nat} {bs : List Int} (h : Bytes w g bs) (hl : bs.length = 512) : (loadCells ⟨g, 0, none⟩ 512).run Tryd.prog w = .ok (bs.map (Value.int .u8)).toArray w := by
  have h1 := run_loadCells_list (P := Tryd.prog) w ⟨g, 0, none⟩ (bs.map (Value.int .u8)) (fun j v hv => by
    have e : (⟨g, 0, none⟩ : Addr).add j = ⟨g, j, none⟩ := by unfold Addr.add; split <;> simp_all
    rw [e, h.cell j]; rw [List.getElem?_map] at hv; exact hv)
  rw [List.length_map, hl] at h1
  exact h1
set_option maxHeartbeats 1000000 in
theorem same_any (g h : Nat) (cs bs : List Int) (w : World) (ha : Bytes w g cs) (hb : Bytes w h bs) (la : cs.length = 512) (lb : bs.length = 512) :
    Calls Tryd.prog 16 #[dv g, dv h] w fun e w' => e = .returned (.bool ((txt cs).toList == (txt bs).toList)) ∧ w = w' := by
  have k1 := (run_convert_bytes_string (P := Tryd.prog) w 38 9 5 (some ⟨g, 0, none⟩) 512 512 Tryd.underlying38 Tryd.underlying5 Tryd.underlying9).trans (run_bytesToString w ⟨g, 0, none⟩ 512 512 cs (loads ha la))
  have k2 := (run_convert_bytes_string (P := Tryd.prog) w 38 9 5 (some ⟨h, 0, none⟩) 512 512 Tryd.underlying38 Tryd.underlying5 Tryd.underlying9).trans (run_bytesToString w ⟨h, 0, none⟩ 512 512 bs (loads hb lb))
  change (convert 38 9 (.slice (some ⟨g, 0, none⟩) 512 512)).run Tryd.prog w = .ok (.string (txt cs)) w at k1
  change (convert 38 9 (.slice (some ⟨h, 0, none⟩) 512 512)).run Tryd.prog w = .ok (.string (txt bs)) w at k2
  unfold dv
  generalize txt cs = s1 at *
  generalize txt bs = s2 at *
  go_enter Tryd.func16, Tryd.ntmps16
  go_wp2
  go_ret
  exact ⟨rfl, rfl⟩

theorem sz5 : (Tryd.prog.info? 5).map (·.size) = some 1 := by kernel_rfl
theorem splice_all (cur cs : List Value) (h : cs.length = cur.length) : splice cur 0 cs = cs := by
  unfold splice
  simp [h]
set_option maxHeartbeats 1000000 in
theorem copied_data (g : Nat) (bs : List Int) (w : World) (hb : Bytes w g bs) (lb : bs.length = 512) :
    Calls Tryd.prog 21 #[dv g] w fun e w' => e = .returned (dv w.heap.size) ∧ Bytes w' w.heap.size bs ∧ Below w.heap.size w w' := by
  obtain ⟨i0, hi, hz0, hz1, hz2⟩ := info_parts Tryd.info5
  unfold dv
  have HS := Lib.hid hb
  clear hb
  go_enter Tryd.func21, Tryd.ntmps21
  go_wp2_with (first | (at_make; refine wpList_make_full _ rfl _ _ 38 rfl w.heap.size 5 i0 (.int .u8 0) 1 Tryd.underlying38 hi hz0 hz1 .i64 .i64 _ _ 512 rfl rfl rfl rfl (by rw [hz2]; decide) (by unfold maxLen; decide) (Nat.le_refl _) ?_; intro w1 hown hgr; have HB := Lib.hid (And.intro (made_bytes hown) (And.intro ((Below.refl _ _).grown hgr (Nat.le_refl _) (fun k e => by cases e)) (HS.out.kept ((Below.refl _ _).grown hgr (Nat.le_refl _) (fun k e => by cases e))))); clear hown hgr) | (with_reducible refine wpList_copy_splice rfl (.tmp 5) (.tmp 6) 38 38 rfl 5 Tryd.underlying38 sz5 (some ⟨w.heap.size, 0, none⟩) (some ⟨g, 0, none⟩) 512 512 512 512 rfl rfl w.heap.size 0 (noughts.map (.int .u8)) 5 (Bytes.raw HB.out.1) (bs.map (.int .u8)) ?c1 ?c2 ?c3 ?c4 w.heap.size w HB.out.2.1 (Nat.le_refl _) ?_))
  case c1 => first | (rw [List.length_map, lb]; rfl) | (rw [lb]; rfl)
  case c2 => intro j a ha; rw [HB.out.2.2.cell j, ha]; rfl
  case c3 => first | (rw [List.length_map, List.length_map, lb, noughts_len]; decide) | (rw [lb, noughts_len]; decide)
  case c4 => first | (intro v hv; obtain ⟨x, _, rfl⟩ := List.mem_map.1 hv; rfl) | (intros; rfl)
  intro w2 h2 hb2
  go_wp2
  go_ret
  refine ⟨rfl, ?_, hb2⟩
  have h3 := h2.out
  rw [splice_all _ _ (by rw [List.length_map, List.length_map, lb, noughts_len])] at h3
  exact h3
set_option maxHeartbeats 1000000 in
theorem copied_nil (w : World) :
    Calls Tryd.prog 21 #[.slice none 0 0] w fun e w' => e = .returned (dv w.heap.size) ∧ Bytes w' w.heap.size noughts ∧ Below w.heap.size w w' := by
  obtain ⟨i0, hi, hz0, hz1, hz2⟩ := info_parts Tryd.info5
  go_enter Tryd.func21, Tryd.ntmps21
  go_wp2_with (first | (at_make; refine wpList_make_full _ rfl _ _ 38 rfl w.heap.size 5 i0 (.int .u8 0) 1 Tryd.underlying38 hi hz0 hz1 .i64 .i64 _ _ 512 rfl rfl rfl rfl (by rw [hz2]; decide) (by unfold maxLen; decide) (Nat.le_refl _) ?_; intro w1 hown hgr; have HB := Lib.hid (And.intro (made_bytes hown) ((Below.refl _ _).grown hgr (Nat.le_refl _) (fun k e => by cases e))); clear hown hgr) | (with_reducible refine wpList_copy_nothing rfl (.tmp 5) (.tmp 6) 38 38 rfl 5 Tryd.underlying38 sz5 (some ⟨w.heap.size, 0, none⟩) none 512 512 0 0 rfl rfl rfl ?_))
  go_ret
  exact ⟨rfl, HB.out⟩

/-! ### The plain model of a device -/
structure Dev where
  n : Nat
  secs : Int → Option (List Int)
  wait : List (Int × List Int)
  torn : Int → Bool
  r : Int
  w : Int
  f : Int
  down : Bool
  armed : Bool
  left : Int
  keep : List Int

/-- A write is done for good. -/
def Dev.done (D : Dev) (i : Int) (bs : List Int) : Dev := { D with secs := fun j => if j = i then some bs else D.secs j, torn := fun j => if j = i then false else D.torn j }
def Dev.tear (D : Dev) (i : Int) : Dev := { D with torn := fun j => if j = i then true else D.torn j }
/-- What a crash does with one write. -/
def Dev.fate (D : Dev) (how : Int) (x : Int × List Int) : Dev := if how = 1 then D.done x.1 x.2 else if how = 2 then D.tear x.1 else D
/-- .. with those that wait, from number i on. -/
def Dev.fates (keep : List Int) : Nat → Dev → List (Int × List Int) → Dev
  | _, D, [] => D
  | i, D, x :: l => Dev.fates keep (i + 1) (D.fate (keep[i]?.getD 0) x) l
def Dev.dones : Dev → List (Int × List Int) → Dev
  | D, [] => D
  | D, x :: l => Dev.dones (D.done x.1 x.2) l
def Dev.crash (D : Dev) (keep : List Int) : Dev := { Dev.fates keep 0 D D.wait with wait := [], down := true, armed := false, left := 0, keep := [] }
/-- The device behind 'begin', and what it answers. -/
def Dev.begin (D : Dev) : Dev := if D.down = false ∧ D.armed = true ∧ D.left = 0 then D.crash D.keep else if D.down = true then D else if D.armed = true then { D with left := D.left - 1 } else D
def Dev.err (D : Dev) : Int := if D.begin.down = true then 2 else 0
def Dev.has (D : Dev) (i : Int) : Bool := decide (0 ≤ i) && decide (i < (D.n : Int))
def Dev.flush (D : Dev) : Dev := if D.err = 2 then D.begin else { Dev.dones { D.begin with f := D.begin.f + 1 } D.begin.wait with wait := [] }
def Dev.write (D : Dev) (i : Int) (bs : List Int) : Dev := if D.err = 2 then D.begin else { D.begin with w := D.begin.w + 1, wait := D.begin.wait ++ [(i, bs)] }
def Dev.arm (D : Dev) (n : Int) (keep : List Int) : Dev := if n < 0 then { D with armed := false, left := 0, keep := [] } else { D with armed := true, left := n, keep := keep }
/-- What was written to a sector last and waits. -/
def newest (i : Int) : List (Int × List Int) → Option (List Int)
  | [] => none
  | x :: l => match newest i l with
    | some bs => some bs
    | none => if x.1 = i then some x.2 else none
/-- Behind a Read of a sector that there is. -/
def Dev.read (D : Dev) : Dev := if D.err = 2 then D.begin else { D.begin with r := D.begin.r + 1 }
def Dev.fresh (n : Nat) : Dev := { n := n, secs := fun _ => none, wait := [], torn := fun _ => false, r := 0, w := 0, f := 0, down := false, armed := false, left := 0, keep := [] }

/-! ### A device in memory -/
def SecIs (w : World) (Z : Nat → Prop) (v : Value) : Option (List Int) → Prop
  | none => v = .slice none 0 0
  | some bs => ∃ g, Z g ∧ v = dv g ∧ Bytes w g bs ∧ bs.length = 512

structure Rest (w : World) (Z : Nat → Prop) (sb tm tn : Nat) (wv kv : Value) (ss cs : List Value) (D : Dev) : Prop where
  row : w.heap[sb]? = some (.cells ss.toArray 38 (0, 0))
  ssl : ss.length = D.n
  sd : ∀ (i : Nat) v, ss[i]? = some v → SecIs w Z v (D.secs i)
  wrow : w.ownsRow 0 55 2 wv D.wait.length cs
  wd : ∀ (i : Nat) at' bs, D.wait[i]? = some (at', bs) → (0 ≤ at' ∧ at' < D.n) ∧ cs[2 * i]? = some (.int .i64 at') ∧ ∃ g, Z g ∧ cs[2 * i + 1]? = some (dv g) ∧ Bytes w g bs ∧ bs.length = 512
  tr : ∃ T, w.ownsMap (H := Unit) Tryd.prog 3 unitElem tm tn T ∧ ∀ a, (Lit.int .i64 a).wf = true → Maps.has T (.int .i64 a) = D.torn a
  krow : w.ownsRow 0 3 1 kv D.keep.length (D.keep.map (Value.int .i64))
  wZ : ∀ g, wv.ownBlock = some g → Z g
  kZ : ∀ g, kv.ownBlock = some g → Z g
  sZ : Z sb
  tZ : Z tm
  n1 : 1 ≤ D.n
  n2 : D.n ≤ 20000

/-- The ten cells of a device. -/
def cellsOf (D : Dev) (sb tm : Nat) (wv kv : Value) : Array Value :=
  #[.slice (some ⟨sb, 0, none⟩) D.n D.n, wv, .map (some tm), .int .i64 D.r, .int .i64 D.w, .int .i64 D.f, .bool D.down, .bool D.armed, .int .i64 D.left, kv]
structure DevMem (w : World) (Z : Nat → Prop) (dp sb tm tn : Nat) (wv kv : Value) (ss cs : List Value) (D : Dev) : Prop where
  head : w.heap[dp]? = some (.cells (cellsOf D sb tm wv kv) 49 (0, 0))
  rest : Rest w Z sb tm tn wv kv ss cs D
  dZ : Z dp
def DevAt (w : World) (Z : Nat → Prop) (dp : Nat) (D : Dev) : Prop := ∃ sb tm tn wv kv ss cs, DevMem w Z dp sb tm tn wv kv ss cs D ∧ (tn : Int) + D.wait.length ≤ D.w ∧ 0 ≤ D.left ∧ D.left ≤ 9223372036854775807 ∧ D.keep.length ≤ 17592186043904

section
variable {w w' : World} {Z : Nat → Prop} {sb tm tn : Nat} {wv kv : Value} {ss cs : List Value} {D : Dev}

theorem SecIs.mono {v : Value} {c : Option (List Int)} (h : SecIs w Z v c) (hb : ∀ g bs, Z g → Bytes w g bs → Bytes w' g bs) : SecIs w' Z v c := by
  cases c with
  | none => exact h
  | some bs => obtain ⟨g, h1, h2, h3, h4⟩ := h; exact ⟨g, h1, h2, hb g bs h1 h3, h4⟩

theorem Rest.kept {row : Option Nat} (h : Rest w Z sb tm tn wv kv ss cs D) (hg : w.grownBy w' row) (h1 : row ≠ some sb) (h2 : row ≠ some tm) (h3 : wv.ownBlock = none ∨ wv.ownBlock ≠ row) (h4 : kv.ownBlock = none ∨ kv.ownBlock ≠ row)
    (h5 : ∀ g bs, Z g → Bytes w g bs → some g ≠ row) : Rest w' Z sb tm tn wv kv ss cs D := by
  have hb : ∀ g bs, Z g → Bytes w g bs → Bytes w' g bs := fun g bs hx hB => hB.grown hg (h5 g bs hx hB)
  refine ⟨?_, h.ssl, fun i v hv => (h.sd i v hv).mono hb, h.wrow.kept hg h3, fun i a bs hi => ?_, ?_, h.krow.kept hg h4, h.wZ, h.kZ, h.sZ, h.tZ, h.n1, h.n2⟩
  · rw [hg.block sb (Array.getElem?_eq_some_iff.1 h.row).1 (Ne.symm h1)]; exact h.row
  · obtain ⟨k1, k2, g, k3, k4, k5, k6⟩ := h.wd i a bs hi
    exact ⟨k1, k2, g, k3, k4, hb g bs k3 k5, k6⟩
  · obtain ⟨T, k1, k2⟩ := h.tr
    exact ⟨T, k1.kept hg (Ne.symm h2), k2⟩

/-- A block of another make than r's is not r. -/
def tag : Obj → Nat
  | .cells _ e _ => e + 1
  | _ => 0
theorem tag_ne {r s : Nat} {a b : Obj} (h : w.heap[r]? = some a) (k : w.heap[s]? = some b) (hne : tag a ≠ tag b) : s ≠ r := by
  rintro rfl; rw [h] at k; cases k; exact hne rfl
theorem own_ne {r size n : Nat} {e : TypeId} {o : Obj} {v : Value} {xs : List Value} {B : Nat} (h : w.ownsRow B e size v n xs) (k : w.heap[r]? = some o) (hne : tag o ≠ e + 1) : v.ownBlock = none ∨ v.ownBlock ≠ some r := by
  rcases h.2 with ⟨rfl, _⟩ | ⟨g, cap, cur, rfl, _, hh, _⟩
  · exact .inl rfl
  · right; simp only [Value.ownBlock, ne_eq, Option.some.injEq]; exact fun e' => hne (by rw [e', k] at hh; cases hh; rfl)
theorem bytes_ne {r g : Nat} {bs : List Int} {o : Obj} (h : Bytes w g bs) (k : w.heap[r]? = some o) (hne : tag o ≠ 6) : some g ≠ some r := by
  intro e; cases e; unfold Bytes at h; rw [k] at h; cases h; exact hne rfl
theorem Rest.mapAt (h : Rest w Z sb tm tn wv kv ss cs D) : ∃ es clock, w.heap[tm]? = some (.map es clock) := by
  obtain ⟨T, ⟨es, clock, hb, _⟩, _⟩ := h.tr
  exact ⟨es, clock, hb⟩

/-- A write into a block of a make of its own (the struct itself, a loop's variable ..) leaves the rest. -/
theorem Rest.apart {r : Nat} {o : Obj} (h : Rest w Z sb tm tn wv kv ss cs D) (hg : w.grownBy w' (some r)) (ho : w.heap[r]? = some o) (t1 : tag o ≠ 39) (t2 : tag o ≠ 0) (t3 : tag o ≠ 56) (t4 : tag o ≠ 4) (t5 : tag o ≠ 6) : Rest w' Z sb tm tn wv kv ss cs D := by
  obtain ⟨es, clock, hm⟩ := h.mapAt
  refine h.kept hg ?_ ?_ (own_ne h.wrow ho t3) (own_ne h.krow ho t4) (fun g bs _ hb => bytes_ne hb ho t5)
  · intro e; cases e; have k := h.row; rw [ho] at k; cases k; exact t1 rfl
  · intro e; cases e; rw [ho] at hm; cases hm; exact t2 rfl
/-- Nothing outside Z turns but what is new. -/
structure Out (Z : Nat → Prop) (w w' : World) : Prop where
  os : w'.os = w.os
  tape : w'.tape = w.tape
  output : w'.output = w.output
  size : w.heap.size ≤ w'.heap.size
  block : ∀ k, k < w.heap.size → ¬ Z k → w'.heap[k]? = w.heap[k]?
theorem Out.refl (Z : Nat → Prop) (w : World) : Out Z w w := ⟨rfl, rfl, rfl, Nat.le_refl _, fun _ _ _ => rfl⟩
theorem Out.trans {w'' : World} (h : Out Z w w') (k : Out Z w' w'') : Out Z w w'' :=
  ⟨k.os.trans h.os, k.tape.trans h.tape, k.output.trans h.output, Nat.le_trans h.size k.size, fun i hi hz => (k.block i (Nat.lt_of_lt_of_le hi h.size) hz).trans (h.block i hi hz)⟩
theorem Out.of_below (h : Below w.heap.size w w') : Out Z w w' := ⟨h.os, h.tape, h.output, h.size, fun k hk _ => h.block k hk⟩
theorem Out.of_grown {row : Option Nat} (h : w.grownBy w' row) (hr : ∀ k, row = some k → Z k) : Out Z w w' := ⟨h.os, h.tape, h.output, h.size, fun k hk hz => h.block k hk (fun e => hz (hr k e.symm))⟩
theorem Out.mono {Z' : Nat → Prop} (h : Out Z w w') (hz : ∀ k, k < w.heap.size → Z k → Z' k) : Out Z' w w' := ⟨h.os, h.tape, h.output, h.size, fun k hk hn => h.block k hk (fun e => hn (hz k hk e))⟩
theorem Out.below {B : Nat} (h : Out (fun k => B ≤ k) w w') (hB : B ≤ w.heap.size) : Below B w w' := ⟨h.os, h.tape, h.output, h.size, fun k hk => h.block k (by omega) (by omega)⟩

/-- Whatever leaves the blocks of Z leaves the device. -/
theorem Rest.keep (h : Rest w Z sb tm tn wv kv ss cs D) (hk : ∀ k, Z k → k < w.heap.size → w'.heap[k]? = w.heap[k]?) : Rest w' Z sb tm tn wv kv ss cs D := by
  have hb : ∀ g bs, Z g → Bytes w g bs → Bytes w' g bs := fun g bs hx hB => (hk g hx hB.lt).trans hB
  have ho : ∀ (e size n : Nat) (v : Value) (xs : List Value), (∀ g, v.ownBlock = some g → Z g) → w.ownsRow 0 e size v n xs → w'.ownsRow 0 e size v n xs := by
    intro e size n v xs hz ⟨h1, h2⟩
    refine ⟨h1, ?_⟩
    rcases h2 with h2 | ⟨g, cap, cur, rfl, hg, hh, r⟩
    · exact .inl h2
    · exact .inr ⟨g, cap, cur, rfl, hg, (hk g (hz g rfl) (Array.getElem?_eq_some_iff.1 hh).1).trans hh, r⟩
  refine ⟨(hk sb h.sZ (Array.getElem?_eq_some_iff.1 h.row).1).trans h.row, h.ssl, fun i v hv => (h.sd i v hv).mono hb, ho _ _ _ _ _ h.wZ h.wrow, fun i a bs hi => ?_, ?_, ho _ _ _ _ _ h.kZ h.krow, h.wZ, h.kZ, h.sZ, h.tZ, h.n1, h.n2⟩
  · obtain ⟨k1, k2, g, k3, k4, k5, k6⟩ := h.wd i a bs hi
    exact ⟨k1, k2, g, k3, k4, hb g bs k3 k5, k6⟩
  · obtain ⟨T, ⟨es, clock, k0, r⟩, k2⟩ := h.tr
    exact ⟨T, ⟨es, clock, (hk tm h.tZ (Array.getElem?_eq_some_iff.1 k0).1).trans k0, r⟩, k2⟩
theorem DevAt.keep {dp : Nat} (h : DevAt w Z dp D) (hk : ∀ k, Z k → k < w.heap.size → w'.heap[k]? = w.heap[k]?) : DevAt w' Z dp D := by
  obtain ⟨sb, tm, tn, wv, kv, ss, cs, m, l⟩ := h
  exact ⟨sb, tm, tn, wv, kv, ss, cs, ⟨(hk dp m.dZ (Array.getElem?_eq_some_iff.1 m.head).1).trans m.head, m.rest.keep hk, m.dZ⟩, l⟩
/-- A wider Z serves. -/
theorem SecIs.wide {Z' : Nat → Prop} {v : Value} {c : Option (List Int)} (h : SecIs w Z v c) (hz : ∀ k, k < w.heap.size → Z k → Z' k) : SecIs w Z' v c := by
  cases c with
  | none => exact h
  | some bs => obtain ⟨g, h1, h2, h3, h4⟩ := h; exact ⟨g, hz g h3.lt h1, h2, h3, h4⟩
theorem own_lt {size n : Nat} {e : TypeId} {v : Value} {xs : List Value} (h : w.ownsRow 0 e size v n xs) : ∀ g, v.ownBlock = some g → g < w.heap.size := fun g e => (h.lt g e).2
theorem Rest.wide {Z' : Nat → Prop} (h : Rest w Z sb tm tn wv kv ss cs D) (hz : ∀ k, k < w.heap.size → Z k → Z' k) : Rest w Z' sb tm tn wv kv ss cs D := by
  obtain ⟨T, ⟨es, clock, k0, r⟩, k2⟩ := h.tr
  refine ⟨h.row, h.ssl, fun i v hv => (h.sd i v hv).wide hz, h.wrow, fun i a bs hi => ?_, h.tr, h.krow, fun g e => hz g (own_lt h.wrow g e) (h.wZ g e), fun g e => hz g (own_lt h.krow g e) (h.kZ g e), hz sb (Array.getElem?_eq_some_iff.1 h.row).1 h.sZ, hz tm (Array.getElem?_eq_some_iff.1 k0).1 h.tZ, h.n1, h.n2⟩
  obtain ⟨k1, k2, g, k3, k4, k5, k6⟩ := h.wd i a bs hi
  exact ⟨k1, k2, g, hz g k5.lt k3, k4, k5, k6⟩
theorem DevAt.wide {Z' : Nat → Prop} {dp : Nat} (h : DevAt w Z dp D) (hz : ∀ k, k < w.heap.size → Z k → Z' k) : DevAt w Z' dp D := by
  obtain ⟨sb, tm, tn, wv, kv, ss, cs, m, l⟩ := h
  exact ⟨sb, tm, tn, wv, kv, ss, cs, ⟨m.head, m.rest.wide hz, hz dp (Array.getElem?_eq_some_iff.1 m.head).1 m.dZ⟩, l⟩

/-- New blocks leave all of it. -/
theorem Rest.below (h : Rest w Z sb tm tn wv kv ss cs D) (hb : Below w.heap.size w w') : Rest w' Z sb tm tn wv kv ss cs D :=
  h.kept (row := none) ⟨hb.os, hb.tape, hb.output, hb.size, fun k hk _ => hb.block k hk⟩ (by simp) (by simp) (by cases wv.ownBlock <;> simp) (by cases kv.ownBlock <;> simp) (fun _ _ _ _ => by simp)
theorem DevMem.below {dp : Nat} (h : DevMem w Z dp sb tm tn wv kv ss cs D) (hb : Below w.heap.size w w') : DevMem w' Z dp sb tm tn wv kv ss cs D :=
  ⟨(hb.block dp (Array.getElem?_eq_some_iff.1 h.head).1).trans h.head, h.rest.below hb, h.dZ⟩
theorem DevAt.below {dp : Nat} (h : DevAt w Z dp D) (hb : Below w.heap.size w w') : DevAt w' Z dp D := by
  obtain ⟨sb, tm, tn, wv, kv, ss, cs, k, l⟩ := h
  exact ⟨sb, tm, tn, wv, kv, ss, cs, k.below hb, l⟩
/-- The same rest under a device whose other fields are others. -/
theorem Rest.same {D' : Dev} (h : Rest w Z sb tm tn wv kv ss cs D) (e1 : D'.n = D.n) (e2 : D'.secs = D.secs) (e3 : D'.wait = D.wait) (e4 : D'.torn = D.torn) (e5 : D'.keep = D.keep) : Rest w Z sb tm tn wv kv ss cs D' :=
  ⟨h.row, by rw [e1]; exact h.ssl, by rw [e2]; exact h.sd, by rw [e3]; exact h.wrow, by rw [e3, e1]; exact h.wd, by rw [e4]; exact h.tr, by rw [e5]; exact h.krow, h.wZ, h.kZ, h.sZ, h.tZ, by rw [e1]; exact h.n1, by rw [e1]; exact h.n2⟩

theorem grown_setCell (w : World) (a : Addr) (u : Value) : w.grownBy (w.setCell a u) (some a.block) :=
  ⟨rfl, rfl, rfl, by simp [World.setCell], fun k _ hk => Below.heap_setCell w a u k (fun e => hk (by rw [e]))⟩
/-- A store into the struct. -/
theorem DevMem.store {dp : Nat} {D' : Dev} (h : DevMem w Z dp sb tm tn wv kv ss cs D) (j : Nat) (u : Value) (e : (cellsOf D sb tm wv kv).setIfInBounds j u = cellsOf D' sb tm wv kv)
    (e1 : D'.n = D.n) (e2 : D'.secs = D.secs) (e3 : D'.wait = D.wait) (e4 : D'.torn = D.torn) (e5 : D'.keep = D.keep) : DevMem (w.setCell ⟨dp, j, none⟩ u) Z dp sb tm tn wv kv ss cs D' :=
  ⟨by rw [heap_setCell_same w dp j _ _ _ h.head, e], (h.rest.apart (grown_setCell w ⟨dp, j, none⟩ u) h.head (by simp [tag]) (by simp [tag]) (by simp [tag]) (by simp [tag]) (by simp [tag])).same e1 e2 e3 e4 e5, h.dZ⟩
theorem DevMem.cell {dp : Nat} (h : DevMem w Z dp sb tm tn wv kv ss cs D) (j : Nat) : w.cell? ⟨dp, j, none⟩ = (cellsOf D sb tm wv kv)[j]? := by
  have k := h.head
  simp [World.cell?, k]
theorem DevMem.free {dp : Nat} (h : DevMem w Z dp sb tm tn wv kv ss cs D) (j : Nat) : w.frozen? ⟨dp, j, none⟩ = false := by
  have k := h.head
  simp [World.frozen?, k]
end

/-! ### Contracts: the small ones -/
section
variable {w : World} {Z : Nat → Prop} {dp sb tm tn : Nat} {wv kv : Value} {ss cs : List Value} {D : Dev}

theorem sectors_any (h : DevMem w Z dp sb tm tn wv kv ss cs D) : Calls Tryd.prog 7 #[.pointer (some ⟨dp, 0, none⟩)] w fun e w' => e = .returned (.int .i64 D.n) ∧ w = w' := by
  have c0 : w.cell? ⟨dp, 0, none⟩ = some (.slice (some ⟨sb, 0, none⟩) D.n D.n) := h.cell 0
  clear h
  go_enter Tryd.func7, Tryd.ntmps7
  go_wp2
  go_ret
  exact ⟨rfl, rfl⟩
theorem has_any (h : DevMem w Z dp sb tm tn wv kv ss cs D) (i : Int) : Calls Tryd.prog 19 #[.pointer (some ⟨dp, 0, none⟩), .int .i64 i] w fun e w' => e = .returned (.bool (D.has i)) ∧ w = w' := by
  have H := Lib.hid h
  have n2 := h.rest.n2
  clear h
  rcases (show i < 0 ∨ (0 ≤ i ∧ i < D.n) ∨ (0 ≤ i ∧ D.n ≤ i) by omega) with h1 | ⟨h1, h2⟩ | ⟨h1, h2⟩
  · have HR := Lib.hid (show D.has i = false by simp [Dev.has]; omega)
    go_enter Tryd.func19, Tryd.ntmps19
    go_wp2_with fail
    go_ret
    exact ⟨ret_bool HR.out.symm, rfl⟩
  · have HR := Lib.hid (show D.has i = true by simp [Dev.has]; omega)
    go_enter Tryd.func19, Tryd.ntmps19
    go_wp2_with (go_at_call 7; refine (sectors_any H.out).mono ?_; rintro e w' ⟨rfl, rfl⟩)
    go_ret
    exact ⟨ret_bool HR.out.symm, rfl⟩
  · have HR := Lib.hid (show D.has i = false by simp [Dev.has]; omega)
    have hd : decide (i < (D.n : Int)) = false := by rw [decide_eq_false_iff_not]; omega
    go_enter Tryd.func19, Tryd.ntmps19
    go_wp2_with (go_at_call 7; refine (sectors_any H.out).mono ?_; rintro e w' ⟨rfl, rfl⟩)
    go_ret
    exact ⟨ret_bool (by rw [HR.out]), rfl⟩
theorem down_any (h : DevMem w Z dp sb tm tn wv kv ss cs D) : Calls Tryd.prog 8 #[.pointer (some ⟨dp, 0, none⟩)] w fun e w' => e = .returned (.bool D.down) ∧ w = w' := by
  have c6 : w.cell? ⟨dp, 6, none⟩ = some (.bool D.down) := h.cell 6
  clear h
  go_enter Tryd.func8, Tryd.ntmps8
  go_wp2
  go_ret
  exact ⟨rfl, rfl⟩
theorem counts_any (h : DevMem w Z dp sb tm tn wv kv ss cs D) : Calls Tryd.prog 9 #[.pointer (some ⟨dp, 0, none⟩)] w fun e w' => e = .returned (.agg #[.int .i64 D.r, .int .i64 D.w, .int .i64 D.f]) ∧ Below w.heap.size w w' := by
  have c3 : w.cell? ⟨dp, 3, none⟩ = some (.int .i64 D.r) := h.cell 3
  have c4 : w.cell? ⟨dp, 4, none⟩ = some (.int .i64 D.w) := h.cell 4
  have c5 : w.cell? ⟨dp, 5, none⟩ = some (.int .i64 D.f) := h.cell 5
  have hlt := (Array.getElem?_eq_some_iff.1 h.head).1
  clear h
  go_enter Tryd.func9, Tryd.ntmps9
  go_wp2
  go_returns
  refine ⟨rfl, ?_⟩
  go_grown
theorem start_down (h : DevMem w Z dp sb tm tn wv kv ss cs D) (hd : D.down = true) : Calls Tryd.prog 15 #[.pointer (some ⟨dp, 0, none⟩)] w fun e w' => e = .returned (.int .i64 0) ∧ DevMem w' Z dp sb tm tn wv kv ss cs { D with down := false } ∧ Out Z w w' := by
  have c6 : w.cell? ⟨dp, 6, none⟩ = some (.bool D.down) := h.cell 6
  have f6 := h.free 6
  have H := Lib.hid (And.intro (h.store (D' := { D with down := false }) 6 (.bool false) rfl rfl rfl rfl rfl rfl) h.dZ)
  rw [hd] at c6
  clear h hd
  go_enter Tryd.func15, Tryd.ntmps15
  go_wp2
  go_ret
  exact ⟨rfl, H.out.1, Out.of_grown (grown_setCell w ⟨dp, 6, none⟩ _) (fun k e => by cases e; exact H.out.2)⟩
theorem start_up (h : DevMem w Z dp sb tm tn wv kv ss cs D) (hd : D.down = false) : Calls Tryd.prog 15 #[.pointer (some ⟨dp, 0, none⟩)] w fun e w' => e = .returned (.int .i64 12) ∧ w = w' := by
  have c6 : w.cell? ⟨dp, 6, none⟩ = some (.bool D.down) := h.cell 6
  rw [hd] at c6
  clear h hd
  go_enter Tryd.func15, Tryd.ntmps15
  go_wp2
  go_ret
  exact ⟨rfl, rfl⟩

/-- A sector is written for good: what it leaves in memory. -/
theorem Rest.setSec (h : Rest w Z sb tm tn wv kv ss cs D) (i : Int) (g : Nat) (bs : List Int) (h0 : 0 ≤ i) (hg : Z g) (hb : Bytes w g bs) (hl : bs.length = 512) :
    Rest (w.setCell ⟨sb, i.toNat, none⟩ (dv g)) Z sb tm tn wv kv (ss.set i.toNat (dv g)) cs { D with secs := fun j => if j = i then some bs else D.secs j } := by
  have hgr := grown_setCell w ⟨sb, i.toNat, none⟩ (dv g)
  have hk' : ∀ g' bs, Z g' → Bytes w g' bs → Bytes (w.setCell ⟨sb, i.toNat, none⟩ (dv g)) g' bs := fun g' bs _ hB => hB.grown hgr (bytes_ne hB h.row (by simp [tag]))
  obtain ⟨es, clock, hm⟩ := h.mapAt
  refine ⟨?_, by rw [List.length_set]; exact h.ssl, fun j v hv => ?_, h.wrow.kept hgr (own_ne h.wrow h.row (by simp [tag])), fun j a cs' hj => ?_, ?_, h.krow.kept hgr (own_ne h.krow h.row (by simp [tag])), h.wZ, h.kZ, h.sZ, h.tZ, h.n1, h.n2⟩
  · rw [heap_setCell_same w sb i.toNat _ _ _ h.row]; simp
  · by_cases e : (j : Int) = i
    · have e2 : i.toNat = j := by omega
      rw [e2] at hv
      have hjl : j < ss.length := by
        by_cases c : j < ss.length
        · exact c
        · rw [List.getElem?_eq_none (by rw [List.length_set]; omega)] at hv; cases hv
      rw [List.getElem?_set_self hjl] at hv
      cases hv
      simp only [if_pos e]
      exact ⟨g, hg, rfl, hk' g bs hg hb, hl⟩
    · rw [List.getElem?_set_ne (by omega)] at hv
      simp only [if_neg e]
      exact (h.sd j v hv).mono hk'
  · obtain ⟨k1, k2, g', k3, k4, k5, k6⟩ := h.wd j a cs' hj
    exact ⟨k1, k2, g', k3, k4, hk' g' cs' k3 k5, k6⟩
  · obtain ⟨T, k1, k2⟩ := h.tr
    exact ⟨T, k1.kept hgr (by intro e; cases e; have := h.row; rw [hm] at this; cases this), k2⟩

theorem key_int (a : Int) (h : (Lit.int .i64 a).wf = true) : keyOf Tryd.prog 3 (.int .i64 a) = some (.int .i64 a) := Maps.keyOf_int_mk Tryd.underlying3 h
theorem keyed : Maps.Keyed Tryd.prog 3 := Maps.int_keyed Tryd.underlying3
/-- The map of torn sectors turned: what it leaves. -/
theorem Rest.turned {w' : World} (h : Rest w Z sb tm tn wv kv ss cs D) {tn' : Nat} {t' : Int → Bool} (hg : w.grownBy w' (some tm)) (T : DataW Unit) (h1 : w'.ownsMap (H := Unit) Tryd.prog 3 unitElem tm tn' T) (h2 : ∀ a, (Lit.int .i64 a).wf = true → Maps.has T (.int .i64 a) = t' a) :
    Rest w' Z sb tm tn' wv kv ss cs { D with torn := t' } := by
  obtain ⟨es, clock, hm⟩ := h.mapAt
  have hb : ∀ g bs, Z g → Bytes w g bs → Bytes w' g bs := fun g bs _ hB => hB.grown hg (bytes_ne hB hm (by simp [tag]))
  refine ⟨?_, h.ssl, fun i v hv => (h.sd i v hv).mono hb, h.wrow.kept hg (own_ne h.wrow hm (by simp [tag])), fun i a bs hi => ?_, ⟨T, h1, h2⟩, h.krow.kept hg (own_ne h.krow hm (by simp [tag])), h.wZ, h.kZ, h.sZ, h.tZ, h.n1, h.n2⟩
  · rw [hg.block sb (Array.getElem?_eq_some_iff.1 h.row).1 (by intro e; cases e; have := h.row; rw [hm] at this; cases this)]; exact h.row
  · obtain ⟨k1, k2, g, k3, k4, k5, k6⟩ := h.wd i a bs hi
    exact ⟨k1, k2, g, k3, k4, hb g bs k3 k5, k6⟩

set_option maxRecDepth 100000 in
set_option maxHeartbeats 2000000 in
theorem done_any (h : DevMem w Z dp sb tm tn wv kv ss cs D) (i : Int) (g : Nat) (bs : List Int) (h0 : 0 ≤ i) (h1 : i < D.n) (hg : Z g) (hb : Bytes w g bs) (hl : bs.length = 512) :
    Calls Tryd.prog 22 #[.pointer (some ⟨dp, 0, none⟩), .agg #[.int .i64 i, dv g]] w fun e w' => e = .returned (.tuple #[]) ∧ DevMem w' Z dp sb tm tn wv kv (ss.set i.toNat (dv g)) cs (D.done i bs) ∧ Out (fun k => k = sb ∨ k = tm) w w' := by
  have c0 : w.cell? ⟨dp, 0, none⟩ = some (.slice (some ⟨sb, 0, none⟩) D.n D.n) := h.cell 0
  have c2 : w.cell? ⟨dp, 2, none⟩ = some (.map (some tm)) := h.cell 2
  have n2 := h.rest.n2
  have hrow := h.rest.row
  have hssl := h.rest.ssl
  have cS : w.cell? ⟨sb, i.toNat, none⟩ = some (ss[i.toNat]?.getD undef) := by
    have : i.toNat < ss.length := by omega
    simp [World.cell?, hrow, this]
  have fS : w.frozen? ⟨sb, i.toNat, none⟩ = false := by simp [World.frozen?, hrow]
  generalize ss[i.toNat]?.getD undef = old at cS
  have ld := (Array.getElem?_eq_some_iff.1 h.head).1
  have ls := (Array.getElem?_eq_some_iff.1 hrow).1
  have hne : sb ≠ dp := tag_ne h.head hrow (by simp [tag])
  have H := Lib.hid h
  clear h hrow hssl
  unfold dv
  go_enter Tryd.func22, Tryd.ntmps22
  go_wp2
  go_region
  go_wp2
  have hR1 := (H.out.rest.setSec i g bs h0 hg hb hl)
  unfold dv at hR1
  have hR2 := hR1.below ((Below.refl _ _).alloc (Nat.le_refl _) (.cells #[.int .i64 i, .slice (some ⟨g, 0, none⟩) 512 512] 55))
  obtain ⟨T, hown, hT⟩ := hR2.tr
  have hwf : (Lit.int .i64 i).wf = true := WalkArith.wf_i64 (by omega)
  obtain ⟨w', hrun, hown', hturn⟩ := World.ownsMap.drop (w := ((w.setCell ⟨sb, i.toNat, none⟩ (.slice (some ⟨g, 0, none⟩) 512 512)).alloc (.cells #[.int .i64 i, .slice (some ⟨g, 0, none⟩) 512 512] 55)).drew.drew) hown keyed Tryd.underlying46 (key_int i hwf) 0
  have HT := Lib.hid hT
  have HO := Lib.hid (And.intro hown' (And.intro hturn hR2))
  clear hR1 hR2 hown hT hown' hturn
  go_region
  go_end0
  obtain ⟨hown', hturn, hR2⟩ := HO.out
  have hT := HT.out
  have hg2 := hturn.grown
  obtain ⟨es, clock, hm⟩ := hR2.mapAt
  have hR3 : Rest ((w.setCell ⟨sb, i.toNat, none⟩ (.slice (some ⟨g, 0, none⟩) 512 512)).alloc (.cells #[.int .i64 i, .slice (some ⟨g, 0, none⟩) 512 512] 55)).drew.drew Z sb tm tn wv kv (ss.set i.toNat (.slice (some ⟨g, 0, none⟩) 512 512)) cs { D with secs := fun j => if j = i then some bs else D.secs j } :=
    hR2.below ⟨rfl, rfl, rfl, Nat.le_refl _, fun _ _ => rfl⟩
  have hR4 := hR3.turned (t' := fun j => if j = i then false else D.torn j) hg2 _ hown' (fun a ha => by
    by_cases e : a = i
    · rw [if_pos e, e]; exact Maps.has_del_same
    · rw [if_neg e, Maps.has_del_other (by intro c; cases c; exact e rfl)]; exact hT a ha)
  have hhead : w'.heap[dp]? = some (.cells (cellsOf D sb tm wv kv) 49 (0, 0)) := by
    rw [hg2.block dp (by simp; omega) (by
      intro e; cases e
      have k1 : ((w.setCell ⟨sb, i.toNat, none⟩ (.slice (some ⟨g, 0, none⟩) 512 512)).alloc (.cells #[.int .i64 i, .slice (some ⟨g, 0, none⟩) 512 512] 55)).heap[dp]? = some (.cells (cellsOf D sb dp wv kv) 49 (0, 0)) := by
        rw [Below.heap_alloc _ _ _ (by simp; omega), Below.heap_setCell _ _ _ _ (Ne.symm hne)]; exact H.out.head
      rw [hm] at k1; cases k1)]
    show ((w.setCell ⟨sb, i.toNat, none⟩ (.slice (some ⟨g, 0, none⟩) 512 512)).alloc (.cells #[.int .i64 i, .slice (some ⟨g, 0, none⟩) 512 512] 55)).heap[dp]? = _
    rw [Below.heap_alloc _ _ _ (by simp; omega), Below.heap_setCell _ _ _ _ (Ne.symm hne)]; exact H.out.head
  refine ⟨rfl, ⟨hhead, hR4, H.out.dZ⟩, ?_⟩
  have o1 : Out (fun k => k = sb ∨ k = tm) w (w.setCell ⟨sb, i.toNat, none⟩ (.slice (some ⟨g, 0, none⟩) 512 512)) := Out.of_grown (grown_setCell _ _ _) (fun k e => by cases e; exact .inl rfl)
  have o2 : Out (fun k => k = sb ∨ k = tm) (w.setCell ⟨sb, i.toNat, none⟩ (.slice (some ⟨g, 0, none⟩) 512 512)) ((w.setCell ⟨sb, i.toNat, none⟩ (.slice (some ⟨g, 0, none⟩) 512 512)).alloc (.cells #[.int .i64 i, .slice (some ⟨g, 0, none⟩) 512 512] 55)).drew.drew :=
    Out.of_below ((((Below.refl _ _).alloc (Nat.le_refl _) _).drew).drew)
  exact (o1.trans o2).trans (Out.of_grown hg2 (fun k e => by cases e; exact .inr rfl))
end
end Go.Proofs.YthdgfhkihhamnaaDoor
