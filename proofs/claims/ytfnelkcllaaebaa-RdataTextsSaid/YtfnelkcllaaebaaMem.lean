/- What memory says: slices that read as lists, and what a call leaves as it was. No condition: definitions and plain laws on worlds. -/
import Derived.Test.YtfnelkcllaaebaaChecked
import Derived.WalkKit
import Derived.WalkLawsBesides
import Derived.WalkSpells
import Derived.Lib.Hide
import Derived.Lib.ConvBytes
import Derived.Laws.BytesArg
import Derived.Deep.QuietTactic
import Derived.BigQuiet
open Go.RowKit
set_option linter.unusedVariables false
set_option linter.unusedSimpArgs false
namespace Go.Proofs.Ytfnelkcllaaebaa
/-- Nothing that was there has turned. -/
def Ext (w w' : World) : Prop := Below w.heap.size w w'
theorem Ext.refl (w : World) : Ext w w := Below.refl _ _
theorem Ext.size {w w' : World} (h : Ext w w') : w.heap.size ≤ w'.heap.size := Below.size h
theorem Ext.trans {a b c : World} (h : Ext a b) (k : Ext b c) : Ext a c :=
  Below.trans h (Below.mono k (Below.size h))
theorem Ext.alloc {w w' : World} (h : Ext w w') (o : Obj) : Ext w (w'.alloc o) := Below.alloc h (Below.size h) o
theorem Ext.drew {w w' : World} (h : Ext w w') : Ext w w'.drew := Below.drew h
theorem Ext.drewN {w w' : World} (h : Ext w w') (n : Nat) : Ext w (w'.drewN n) := Below.trans h ⟨rfl, rfl, rfl, Nat.le_refl _, fun _ _ => rfl⟩
theorem Ext.setCell {w w' : World} (h : Ext w w') {p : Addr} (hp : w.heap.size ≤ p.block) (u : Value) : Ext w (w'.setCell p u) := Below.setCell h hp u
theorem Ext.grown {w w' w'' : World} {row : Option Nat} (h : Ext w w') (hg : w'.grownBy w'' row) (hr : ∀ k, row = some k → w.heap.size ≤ k) : Ext w w'' :=
  Below.grown h hg (Below.size h) hr
theorem Ext.cell {w w' : World} (h : Ext w w') {a : Addr} {v : Value} (hc : w.cell? a = some v) : w'.cell? a = some v :=
  (Below.cell h (World.block_lt_of_cell? w a hc)).trans hc
theorem Ext.frozen {w w' : World} (h : Ext w w') {a : Addr} (hb : a.block < w.heap.size) : w'.frozen? a = w.frozen? a := Below.frozen h hb
theorem Ext.block {w w' : World} (h : Ext w w') {k : Nat} {o : Obj} (hk : w.heap[k]? = some o) : w'.heap[k]? = some o :=
  (Below.block h k (Array.getElem?_eq_some_iff.1 hk).1).trans hk
/-- Only draws were made. -/
def Dr (w w' : World) : Prop := ∃ m, w' = w.drewN m
theorem Dr.refl (w : World) : Dr w w := ⟨0, rfl⟩
theorem Dr.drewN {w w' : World} (h : Dr w w') (n : Nat) : Dr w (w'.drewN n) := by obtain ⟨m, rfl⟩ := h; exact ⟨m + n, World.drewN_drewN ..⟩
theorem Dr.trans {a b c : World} (h : Dr a b) (k : Dr b c) : Dr a c := by obtain ⟨m, rfl⟩ := k; exact h.drewN m
theorem Dr.ext {w w' : World} (h : Dr w w') : Ext w w' := by obtain ⟨m, rfl⟩ := h; exact (Ext.refl w).drewN m
/-- Nothing that was there has turned but for the blocks of S. -/
structure Kp (S : Nat → Prop) (w w' : World) : Prop where
  os : w'.os = w.os
  tape : w'.tape = w.tape
  output : w'.output = w.output
  size : w.heap.size ≤ w'.heap.size
  block : ∀ k, k < w.heap.size → ¬ S k → w'.heap[k]? = w.heap[k]?
theorem Kp.refl (S : Nat → Prop) (w : World) : Kp S w w := ⟨rfl, rfl, rfl, Nat.le_refl _, fun _ _ _ => rfl⟩
theorem Kp.trans {S : Nat → Prop} {a b c : World} (h : Kp S a b) (k : Kp S b c) : Kp S a c :=
  ⟨k.os.trans h.os, k.tape.trans h.tape, k.output.trans h.output, Nat.le_trans h.size k.size, fun i hi hn => (k.block i (Nat.lt_of_lt_of_le hi h.size) hn).trans (h.block i hi hn)⟩
theorem Kp.trans' {S T : Nat → Prop} {a b c : World} (h : Kp S a b) (k : Kp T b c) (hs : ∀ i, T i → S i ∨ a.heap.size ≤ i) : Kp S a c :=
  ⟨k.os.trans h.os, k.tape.trans h.tape, k.output.trans h.output, Nat.le_trans h.size k.size, fun i hi hn =>
    (k.block i (Nat.lt_of_lt_of_le hi h.size) (fun ht => (hs i ht).elim hn (fun h2 => by omega))).trans (h.block i hi hn)⟩
theorem Kp.mono {S T : Nat → Prop} {a b : World} (h : Kp S a b) (hs : ∀ i, S i → T i) : Kp T a b := ⟨h.os, h.tape, h.output, h.size, fun i hi hn => h.block i hi (fun hk => hn (hs i hk))⟩
theorem Kp.of_ext {S : Nat → Prop} {w w' : World} (h : Ext w w') : Kp S w w' := ⟨Below.os h, Below.tape h, Below.output h, Below.size h, fun i hi _ => Below.block h i hi⟩
theorem Kp.ext {S : Nat → Prop} {a b c : World} (h : Kp S a b) (k : Ext b c) : Kp S a c := h.trans (.of_ext k)
theorem Kp.to_ext {S : Nat → Prop} {w w' : World} (h : Kp S w w') (hs : ∀ i, i < w.heap.size → ¬ S i) : Ext w w' := ⟨h.os, h.tape, h.output, h.size, fun i hi => h.block i hi (hs i hi)⟩
theorem Kp.alloc {S : Nat → Prop} {w w' : World} (h : Kp S w w') (o : Obj) : Kp S w (w'.alloc o) := h.ext ((Ext.refl _).alloc o)
theorem Kp.drew {S : Nat → Prop} {w w' : World} (h : Kp S w w') : Kp S w w'.drew := h.ext (Ext.refl _).drew
theorem Kp.drewN {S : Nat → Prop} {w w' : World} (h : Kp S w w') (n : Nat) : Kp S w (w'.drewN n) := h.ext ((Ext.refl _).drewN n)
theorem Kp.setCell {S : Nat → Prop} {w w' : World} (h : Kp S w w') {p : Addr} (hp : S p.block ∨ w.heap.size ≤ p.block) (u : Value) : Kp S w (w'.setCell p u) :=
  h.trans' (T := fun k => k = p.block) ⟨rfl, rfl, rfl, by simp [World.setCell], fun i _ hn => Below.heap_setCell _ p u i hn⟩ (fun i hi => by rw [hi]; exact hp)
theorem Kp.grown {S : Nat → Prop} {w w' w'' : World} {row : Option Nat} (h : Kp S w w') (hg : w'.grownBy w'' row) (hr : ∀ k, row = some k → S k ∨ w.heap.size ≤ k) : Kp S w w'' :=
  h.trans' (T := fun k => row = some k) ⟨hg.os, hg.tape, hg.output, hg.size, fun i hi hn => hg.block i hi (fun e => hn e.symm)⟩ (fun i hi => hr i hi)
theorem Kp.cell {S : Nat → Prop} {w w' : World} (h : Kp S w w') {a : Addr} {v : Value} (hc : w.cell? a = some v) (hn : ¬ S a.block) : w'.cell? a = some v :=
  (World.cell?_of_block (h.block a.block (World.block_lt_of_cell? w a hc) hn)).trans hc
theorem Kp.heap {S : Nat → Prop} {w w' : World} (h : Kp S w w') {k : Nat} {o : Obj} (hk : w.heap[k]? = some o) (hn : ¬ S k) : w'.heap[k]? = some o :=
  (h.block k (Array.getElem?_eq_some_iff.1 hk).1 hn).trans hk

/-- The bound of an int. -/
abbrev maxI : Nat := 9223372036854775807
/-- A slice of one-cell elements that reads as a list. -/
def Fl {α : Type} (V : α → Value) (w : World) (v : Value) (l : List α) : Prop :=
  ∃ A c, v = .slice A l.length c ∧ l.length ≤ c ∧ c ≤ maxI ∧ (0 < l.length → ∃ b o, A = some ⟨b, o, none⟩ ∧ ∀ j x, l[j]? = some x → w.cell? ⟨b, o + j, none⟩ = some (V x))
/-- A slice of elements of several cells that reads as a list. -/
def Sl {α : Type} (R : World → List Value → α → Prop) (sz : Nat) (w : World) (v : Value) (l : List α) : Prop :=
  ∃ A c, v = .slice A l.length c ∧ l.length ≤ c ∧ c ≤ maxI ∧ (0 < l.length → ∃ b o, A = some ⟨b, o, none⟩ ∧ ∀ j x, l[j]? = some x → ∃ cs : List Value, cs.length = sz ∧ R w cs x ∧ ∀ i u, cs[i]? = some u → w.cell? ⟨b, o + (j * sz + i), none⟩ = some u)
theorem Fl.ext {α : Type} {V : α → Value} {w w' : World} {v : Value} {l : List α} (h : Fl V w v l) (he : Ext w w') : Fl V w' v l := by
  obtain ⟨A, c, h1, h2, h3, h4⟩ := h
  refine ⟨A, c, h1, h2, h3, fun hl => ?_⟩
  obtain ⟨b, o, e, hc⟩ := h4 hl
  exact ⟨b, o, e, fun j x hx => he.cell (hc j x hx)⟩
/-- The elements' reading goes on into later worlds. -/
def Mon {α : Type} (R : World → List Value → α → Prop) : Prop := ∀ {w w' : World} {cs : List Value} {x : α}, R w cs x → Ext w w' → R w' cs x
theorem Sl.ext {α : Type} {R : World → List Value → α → Prop} (hR : Mon R) {sz : Nat} {w w' : World} {v : Value} {l : List α} (h : Sl R sz w v l) (he : Ext w w') : Sl R sz w' v l := by
  obtain ⟨A, c, h1, h2, h3, h4⟩ := h
  refine ⟨A, c, h1, h2, h3, fun hl => ?_⟩
  obtain ⟨b, o, e, hc⟩ := h4 hl
  refine ⟨b, o, e, fun j x hx => ?_⟩
  obtain ⟨cs, k1, k2, k3⟩ := hc j x hx
  exact ⟨cs, k1, hR k2 he, fun i u hu => he.cell (k3 i u hu)⟩
theorem Fl.len {α : Type} {V : α → Value} {w : World} {v : Value} {l : List α} (h : Fl V w v l) : l.length ≤ maxI := by
  obtain ⟨A, c, h1, h2, h3, h4⟩ := h; omega
theorem Sl.len {α : Type} {R : World → List Value → α → Prop} {sz : Nat} {w : World} {v : Value} {l : List α} (h : Sl R sz w v l) : l.length ≤ maxI := by
  obtain ⟨A, c, h1, h2, h3, h4⟩ := h; omega
theorem Fl.nil {α : Type} (V : α → Value) (w : World) : Fl V w (.slice none 0 0) [] := ⟨none, 0, rfl, by simp, by simp, by simp⟩
theorem Sl.nil {α : Type} (R : World → List Value → α → Prop) (sz : Nat) (w : World) : Sl R sz w (.slice none 0 0) [] := ⟨none, 0, rfl, by simp, by simp, by simp⟩
/-- Opened: not empty. -/
theorem Fl.opens {α : Type} {V : α → Value} {w : World} {v : Value} {l : List α} (h : Fl V w v l) (hl : 0 < l.length) :
    ∃ b o c, v = .slice (some ⟨b, o, none⟩) l.length c ∧ l.length ≤ c ∧ c ≤ maxI ∧ ∀ j x, l[j]? = some x → w.cell? ⟨b, o + j, none⟩ = some (V x) := by
  obtain ⟨A, c, h1, h2, h3, h4⟩ := h
  obtain ⟨b, o, rfl, hc⟩ := h4 hl
  exact ⟨b, o, c, h1, h2, h3, hc⟩
theorem Sl.opens {α : Type} {R : World → List Value → α → Prop} {sz : Nat} {w : World} {v : Value} {l : List α} (h : Sl R sz w v l) (hl : 0 < l.length) :
    ∃ b o c, v = .slice (some ⟨b, o, none⟩) l.length c ∧ l.length ≤ c ∧ c ≤ maxI ∧ ∀ j x, l[j]? = some x → ∃ cs : List Value, cs.length = sz ∧ R w cs x ∧ ∀ i u, cs[i]? = some u → w.cell? ⟨b, o + (j * sz + i), none⟩ = some u := by
  obtain ⟨A, c, h1, h2, h3, h4⟩ := h
  obtain ⟨b, o, rfl, hc⟩ := h4 hl
  exact ⟨b, o, c, h1, h2, h3, hc⟩
/-- A cut of a slice. -/
theorem Fl.cut {α : Type} {V : α → Value} {w : World} {b o n c lo hi : Nat} {l : List α} (h : Fl V w (.slice (some ⟨b, o, none⟩) n c) l) (h1 : lo ≤ hi) (h2 : hi ≤ l.length) :
    Fl V w (.slice (some ⟨b, o + lo, none⟩) (hi - lo) (c - lo)) ((l.take hi).drop lo) := by
  obtain ⟨A, c', e, h3, h4, h5⟩ := h
  injection e with e1 e2 e3
  subst e1 e2 e3
  have hlen : ((l.take hi).drop lo).length = hi - lo := by simp; omega
  refine ⟨_, c - lo, by rw [hlen], by rw [hlen]; omega, by omega, fun hl => ⟨b, o + lo, rfl, fun j x hx => ?_⟩⟩
  obtain ⟨b', o', e, hc⟩ := h5 (by omega)
  injection e with e
  injection e with e1 e2
  subst e1 e2
  rw [List.getElem?_drop, List.getElem?_take] at hx
  split at hx
  · have := hc (lo + j) x hx
    rwa [← Nat.add_assoc] at this
  · cases hx
theorem Fl.form {α : Type} {V : α → Value} {w : World} {v : Value} {l : List α} (h : Fl V w v l) : ∃ A c, v = .slice A l.length c ∧ l.length ≤ c ∧ c ≤ maxI := by
  obtain ⟨A, c, h1, h2, h3, h4⟩ := h; exact ⟨A, c, h1, h2, h3⟩
theorem Sl.form {α : Type} {R : World → List Value → α → Prop} {sz : Nat} {w : World} {v : Value} {l : List α} (h : Sl R sz w v l) : ∃ A c, v = .slice A l.length c ∧ l.length ≤ c ∧ c ≤ maxI := by
  obtain ⟨A, c, h1, h2, h3, h4⟩ := h; exact ⟨A, c, h1, h2, h3⟩
abbrev vByte (b : UInt8) : Value := .int .u8 (b.toNat : Int)
abbrev vInt (n : Int) : Value := .int .i64 n
abbrev BytesV : World → Value → List UInt8 → Prop := Fl vByte
abbrev NameV : World → Value → List ByteArray → Prop := Fl Value.string
abbrev IntsV : World → Value → List Int → Prop := Fl vInt
/-- A block whose first cells are a list's, free to be written. -/
def Blk {α : Type} (V : α → Value) (E : TypeId) (w : World) (g : Nat) (l : List α) : Prop :=
  ∃ cur lo hi, w.heap[g]? = some (.cells cur E (lo, hi)) ∧ (∀ j, j < l.length → ¬ (lo ≤ j ∧ j < hi)) ∧ ∀ (j : Nat) (x : α), l[j]? = some x → cur[j]? = some (V x)
theorem Blk.cell {α : Type} {V : α → Value} {E : TypeId} {w : World} {g : Nat} {l : List α} (h : Blk V E w g l) (j : Nat) (x : α) (hx : l[j]? = some x) : w.cell? ⟨g, j, none⟩ = some (V x) := by
  obtain ⟨cur, lo, hi, h1, h2, h3⟩ := h
  simp [World.cell?, h1, h3 j x hx]
theorem Blk.free {α : Type} {V : α → Value} {E : TypeId} {w : World} {g : Nat} {l : List α} (h : Blk V E w g l) (j : Nat) (hj : j < l.length) : w.frozen? ⟨g, j, none⟩ = false := by
  obtain ⟨cur, lo, hi, h1, h2, h3⟩ := h
  have := h2 j hj
  simp only [World.frozen?, h1, Bool.and_eq_false_iff, decide_eq_false_iff_not]
  omega
theorem Blk.lt {α : Type} {V : α → Value} {E : TypeId} {w : World} {g : Nat} {l : List α} (h : Blk V E w g l) : g < w.heap.size := by
  obtain ⟨cur, lo, hi, h1, h2, h3⟩ := h
  exact (Array.getElem?_eq_some_iff.1 h1).1
theorem Blk.set {α : Type} {V : α → Value} {E : TypeId} {w : World} {g : Nat} {l : List α} (h : Blk V E w g l) (j : Nat) (x : α) : Blk V E (w.setCell ⟨g, j, none⟩ (V x)) g (l.set j x) := by
  obtain ⟨cur, lo, hi, h1, h2, h3⟩ := h
  refine ⟨cur.setIfInBounds j (V x), lo, hi, by simp [World.setCell, Array.getElem?_modify, h1], by simpa using h2, fun i y hy => ?_⟩
  rw [List.getElem?_set] at hy
  split at hy
  · rename_i e
    subst e
    split at hy
    · rename_i hlt
      injection hy with hy
      subst hy
      have := h3 j l[j] (List.getElem?_eq_getElem hlt)
      rw [Array.getElem?_setIfInBounds_self_of_lt (Array.getElem?_eq_some_iff.1 this).1]
    · cases hy
  · rename_i e
    rw [Array.getElem?_setIfInBounds_ne e]
    exact h3 i y hy
theorem Blk.at_ {α : Type} {V : α → Value} {E : TypeId} {w w' : World} {g : Nat} {l : List α} (h : Blk V E w g l) (he : w'.heap[g]? = w.heap[g]?) : Blk V E w' g l := by
  obtain ⟨cur, lo, hi, h1, h2, h3⟩ := h
  exact ⟨cur, lo, hi, he.trans h1, h2, h3⟩
theorem Blk.ext {α : Type} {V : α → Value} {E : TypeId} {w w' : World} {g : Nat} {l : List α} (h : Blk V E w g l) (he : Ext w w') : Blk V E w' g l := h.at_ (Below.block he g h.lt)
theorem Blk.fl {α : Type} {V : α → Value} {E : TypeId} {w : World} {g : Nat} {l : List α} (h : Blk V E w g l) (n c : Nat) (hn : l.length = n) (hc : n ≤ c) (hm : c ≤ maxI) : Fl V w (.slice (some ⟨g, 0, none⟩) n c) l :=
  ⟨_, c, by rw [hn], by omega, hm, fun _ => ⟨g, 0, rfl, fun j x hx => by rw [Nat.zero_add]; exact h.cell j x hx⟩⟩
theorem ret_eq {a b : Value} (h : a = b) : Ending.returned a = .returned b := by rw [h]
theorem int_eq {k : IntKind} {a b : Int} (h : a = b) : Value.int k a = .int k b := by rw [h]
theorem bool_eq {a b : Bool} (h : a = b) : Value.bool a = .bool b := by rw [h]
theorem blk_bytes (w : World) (s : ByteArray) : Blk vByte 5 (Lib.bytesWorld w 5 s) w.heap.size s.data.toList := by
  refine ⟨_, _, _, Lib.bytesWorld_at_new w 5 s, fun j hj => ?_, fun j x hx => ?_⟩
  · have : s.data.toList.length ≤ (Lib.bytesCells w 5 s).size := by simp [Lib.bytesCells]
    omega
  · obtain ⟨hlt, he⟩ := List.getElem?_eq_some_iff.1 hx
    have hs : j < s.data.size := by simpa using hlt
    simp only [Lib.bytesCells, Array.getElem?_append, Array.size_map, hs, if_true, Array.getElem?_map, Array.getElem?_eq_getElem hs]
    simp at he
    simp [he]
theorem ext_bytes (w : World) (s : ByteArray) : Ext w (Lib.bytesWorld w 5 s) :=
  ⟨rfl, rfl, rfl, by rw [Lib.bytesWorld_size]; omega, fun i hi => Lib.bytesWorld_at_old w 5 s i hi⟩
/-- string(b). -/
theorem conv_string {w : World} {v : Value} {l : List UInt8} (h : BytesV w v l) : (convert 22 9 v).run Try.prog w = .ok (.string ⟨l.toArray⟩) w := by
  rcases Nat.eq_zero_or_pos l.length with h0 | h0
  · obtain rfl : l = [] := List.eq_nil_of_length_eq_zero h0
    obtain ⟨A, c, rfl, h2, h3, h4⟩ := h
    rcases A with _ | a
    · exact run_convert_bytes_nil w 22 5 Try.underlying22 Try.underlying5 _ _ 9 Try.underlying9
    · have := run_convert_bytes_string w 22 9 5 a 0 c Try.underlying22 Try.underlying5 Try.underlying9
      have hl : (loadCells a 0).run Try.prog w = .ok ((([] : List Int).map (Value.int .u8)).toArray) w := rfl
      rw [List.length_nil, this, run_bytesToString w _ 0 c [] hl]
      rfl
  · obtain ⟨b, o, c, rfl, h1, h2, h3⟩ := h.opens h0
    have := run_convert_bytes_arg (P := Try.prog) w 22 5 Try.underlying22 Try.underlying5 b o l.length c (l.map fun x => (x.toNat : Int)) (by simp) (fun i hi => by
      rw [h3 i l[i] (List.getElem?_eq_getElem hi)]
      simp [vByte, List.getD_eq_getElem?_getD, List.getElem?_eq_getElem hi]) 9 Try.underlying9
    rw [this]
    have e : strOfNums (l.map fun x => (x.toNat : Int)) = ⟨l.toArray⟩ := by
      unfold strOfNums
      have e2 : (l.map fun x => (x.toNat : Int)).map (fun n => UInt8.ofNat n.toNat) = l := by
        rw [List.map_map]
        exact (List.map_congr_left (g := id) (fun x _ => by simp)).trans (List.map_id _)
      rw [e2]
    rw [e]
theorem wraps_i64 (n : Int) (h₀ : 0 ≤ n) (h₁ : n < 2 ^ 63) : IntKind.i64.wrap n = n := by rw [IntKind.wrap_i64]; omega
theorem or_join (i : Nat) (x y : Int) (hx₀ : 0 ≤ x) (hx : x % 2 ^ i = 0) (hx₁ : x < 9223372036854775808) (hy₀ : 0 ≤ y) (hy : y < 2 ^ i) (hy₁ : y < 9223372036854775808) : bits .or .i64 x y = x + y :=
  bits_join .i64 63 (by decide) wraps_i64 i x y hx₀ hx hx₁ hy₀ hy hy₁
theorem or_byte_i64 (n : Nat) (x : UInt8) (hn : n < 281474976710656) : bits .or .i64 ((n : Int) * 256) (x.toNat : Int) = (n : Int) * 256 + (x.toNat : Int) := by
  have := x.toNat_lt
  exact or_join 8 _ _ (by omega) (by omega) (by omega) (by omega) (by omega) (by omega)
end Go.Proofs.Ytfnelkcllaaebaa
