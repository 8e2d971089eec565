/- Parts of one proof, joined: Mem, Num, Strs, Eqs. Conditions: those that each theorem states. -/
import Derived.Test.YtfnelkcllaaebaaChecked
import Derived.Test.YtfnelkcllaaebaaEB1
import Derived.WalkKit
import Derived.WalkLawsBesides
import Derived.WalkSpells
import Derived.Lib.Hide
import Derived.Lib.ConvBytes
import Derived.Laws.BytesArg
import Derived.Deep.QuietTactic
import Derived.BigQuiet
section
/- What memory says: slices that read as lists, and what a call leaves as it was. No condition: definitions and plain laws on worlds. -/
open Go.RowKit
set_option linter.unusedVariables false
set_option linter.unusedSimpArgs false
namespace Go.Proofs.Ytfnelkcllaaebaa
/-- Nothing that was there has turned. -/
def Ext (w w' : World) : Prop := Below w.heap.size w w'
theorem Ext.refl (w : World) : Ext w w := Below.refl _ _
theorem Ext.size {w w' : World} (h : Ext w w') : w.heap.size ≤ w'.heap.size := Below.size h
theorem Ext.trans {a b c : World} (h : Ext a b) (k : Ext b c) : Ext a c :=
  Below.trans h (Below.mono k (Below.size h))
theorem Ext.alloc {w w' : World} (h : Ext w w') (o : Obj) : Ext w (w'.alloc o) := Below.alloc h (Below.size h) o
theorem Ext.drew {w w' : World} (h : Ext w w') : Ext w w'.drew := Below.drew h
theorem Ext.drewN {w w' : World} (h : Ext w w') (n : Nat) : Ext w (w'.drewN n) := Below.trans h ⟨rfl, rfl, rfl, Nat.le_refl _, fun _ _ => rfl⟩
theorem Ext.setCell {w w' : World} (h : Ext w w') {p : Addr} (hp : w.heap.size ≤ p.block) (u : Value) : Ext w (w'.setCell p u) := Below.setCell h hp u
theorem Ext.grown {w w' w'' : World} {row : Option Nat} (h : Ext w w') (hg : w'.grownBy w'' row) (hr : ∀ k, row = some k → w.heap.size ≤ k) : Ext w w'' :=
  Below.grown h hg (Below.size h) hr
theorem Ext.cell {w w' : World} (h : Ext w w') {a : Addr} {v : Value} (hc : w.cell? a = some v) : w'.cell? a = some v :=
  (Below.cell h (World.block_lt_of_cell? w a hc)).trans hc
theorem Ext.block {w w' : World} (h : Ext w w') {k : Nat} {o : Obj} (hk : w.heap[k]? = some o) : w'.heap[k]? = some o :=
  (Below.block h k (Array.getElem?_eq_some_iff.1 hk).1).trans hk
/-- Only draws were made. -/
def Dr (w w' : World) : Prop := ∃ m, w' = w.drewN m
theorem Dr.refl (w : World) : Dr w w := ⟨0, rfl⟩
theorem Dr.ext {w w' : World} (h : Dr w w') : Ext w w' := by obtain ⟨m, rfl⟩ := h; exact (Ext.refl w).drewN m
/-- Nothing that was there has turned but for the blocks of S. -/
structure Kp (S : Nat → Prop) (w w' : World) : Prop where
  os : w'.os = w.os
  tape : w'.tape = w.tape
  output : w'.output = w.output
  size : w.heap.size ≤ w'.heap.size
  block : ∀ k, k < w.heap.size → ¬ S k → w'.heap[k]? = w.heap[k]?
theorem Kp.refl (S : Nat → Prop) (w : World) : Kp S w w := ⟨rfl, rfl, rfl, Nat.le_refl _, fun _ _ _ => rfl⟩
theorem Kp.trans {S : Nat → Prop} {a b c : World} (h : Kp S a b) (k : Kp S b c) : Kp S a c :=
  ⟨k.os.trans h.os, k.tape.trans h.tape, k.output.trans h.output, Nat.le_trans h.size k.size, fun i hi hn => (k.block i (Nat.lt_of_lt_of_le hi h.size) hn).trans (h.block i hi hn)⟩
theorem Kp.trans' {S T : Nat → Prop} {a b c : World} (h : Kp S a b) (k : Kp T b c) (hs : ∀ i, T i → S i ∨ a.heap.size ≤ i) : Kp S a c :=
  ⟨k.os.trans h.os, k.tape.trans h.tape, k.output.trans h.output, Nat.le_trans h.size k.size, fun i hi hn =>
    (k.block i (Nat.lt_of_lt_of_le hi h.size) (fun ht => (hs i ht).elim hn (fun h2 => by omega))).trans (h.block i hi hn)⟩
theorem Kp.mono {S T : Nat → Prop} {a b : World} (h : Kp S a b) (hs : ∀ i, S i → T i) : Kp T a b := ⟨h.os, h.tape, h.output, h.size, fun i hi hn => h.block i hi (fun hk => hn (hs i hk))⟩
theorem Kp.of_ext {S : Nat → Prop} {w w' : World} (h : Ext w w') : Kp S w w' := ⟨Below.os h, Below.tape h, Below.output h, Below.size h, fun i hi _ => Below.block h i hi⟩
theorem Kp.ext {S : Nat → Prop} {a b c : World} (h : Kp S a b) (k : Ext b c) : Kp S a c := h.trans (.of_ext k)
theorem Kp.to_ext {S : Nat → Prop} {w w' : World} (h : Kp S w w') (hs : ∀ i, i < w.heap.size → ¬ S i) : Ext w w' := ⟨h.os, h.tape, h.output, h.size, fun i hi => h.block i hi (hs i hi)⟩
theorem Kp.setCell {S : Nat → Prop} {w w' : World} (h : Kp S w w') {p : Addr} (hp : S p.block ∨ w.heap.size ≤ p.block) (u : Value) : Kp S w (w'.setCell p u) :=
  h.trans' (T := fun k => k = p.block) ⟨rfl, rfl, rfl, by simp [World.setCell], fun i _ hn => Below.heap_setCell _ p u i hn⟩ (fun i hi => by rw [hi]; exact hp)
theorem Kp.grown {S : Nat → Prop} {w w' w'' : World} {row : Option Nat} (h : Kp S w w') (hg : w'.grownBy w'' row) (hr : ∀ k, row = some k → S k ∨ w.heap.size ≤ k) : Kp S w w'' :=
  h.trans' (T := fun k => row = some k) ⟨hg.os, hg.tape, hg.output, hg.size, fun i hi hn => hg.block i hi (fun e => hn e.symm)⟩ (fun i hi => hr i hi)
theorem Kp.heap {S : Nat → Prop} {w w' : World} (h : Kp S w w') {k : Nat} {o : Obj} (hk : w.heap[k]? = some o) (hn : ¬ S k) : w'.heap[k]? = some o :=
  (h.block k (Array.getElem?_eq_some_iff.1 hk).1 hn).trans hk

/-- The bound of an int. -/
abbrev maxI : Nat := 9223372036854775807
/-- A slice of one-cell elements that reads as a list. -/
def Fl {α : Type} (V : α → Value) (w : World) (v : Value) (l : List α) : Prop :=
  ∃ A c, v = .slice A l.length c ∧ l.length ≤ c ∧ c ≤ maxI ∧ (0 < l.length → ∃ b o, A = some ⟨b, o, none⟩ ∧ ∀ j x, l[j]? = some x → w.cell? ⟨b, o + j, none⟩ = some (V x))
/-- A slice of elements of several cells that reads as a list. -/
def Sl {α : Type} (R : World → List Value → α → Prop) (sz : Nat) (w : World) (v : Value) (l : List α) : Prop :=
  ∃ A c, v = .slice A l.length c ∧ l.length ≤ c ∧ c ≤ maxI ∧ (0 < l.length → ∃ b o, A = some ⟨b, o, none⟩ ∧ ∀ j x, l[j]? = some x → ∃ cs : List Value, cs.length = sz ∧ R w cs x ∧ ∀ i u, cs[i]? = some u → w.cell? ⟨b, o + (j * sz + i), none⟩ = some u)
theorem Fl.ext {α : Type} {V : α → Value} {w w' : World} {v : Value} {l : List α} (h : Fl V w v l) (he : Ext w w') : Fl V w' v l := by
  obtain ⟨A, c, h1, h2, h3, h4⟩ := h
  refine ⟨A, c, h1, h2, h3, fun hl => ?_⟩
  obtain ⟨b, o, e, hc⟩ := h4 hl
  exact ⟨b, o, e, fun j x hx => he.cell (hc j x hx)⟩
/-- The elements' reading goes on into later worlds. -/
def Mon {α : Type} (R : World → List Value → α → Prop) : Prop := ∀ {w w' : World} {cs : List Value} {x : α}, R w cs x → Ext w w' → R w' cs x
theorem Sl.ext {α : Type} {R : World → List Value → α → Prop} (hR : Mon R) {sz : Nat} {w w' : World} {v : Value} {l : List α} (h : Sl R sz w v l) (he : Ext w w') : Sl R sz w' v l := by
  obtain ⟨A, c, h1, h2, h3, h4⟩ := h
  refine ⟨A, c, h1, h2, h3, fun hl => ?_⟩
  obtain ⟨b, o, e, hc⟩ := h4 hl
  refine ⟨b, o, e, fun j x hx => ?_⟩
  obtain ⟨cs, k1, k2, k3⟩ := hc j x hx
  exact ⟨cs, k1, hR k2 he, fun i u hu => he.cell (k3 i u hu)⟩
theorem Fl.len {α : Type} {V : α → Value} {w : World} {v : Value} {l : List α} (h : Fl V w v l) : l.length ≤ maxI := by
  obtain ⟨A, c, h1, h2, h3, h4⟩ := h; omega
theorem Sl.len {α : Type} {R : World → List Value → α → Prop} {sz : Nat} {w : World} {v : Value} {l : List α} (h : Sl R sz w v l) : l.length ≤ maxI := by
  obtain ⟨A, c, h1, h2, h3, h4⟩ := h; omega
theorem Fl.nil {α : Type} (V : α → Value) (w : World) : Fl V w (.slice none 0 0) [] := ⟨none, 0, rfl, by simp, by simp, by simp⟩
theorem Sl.nil {α : Type} (R : World → List Value → α → Prop) (sz : Nat) (w : World) : Sl R sz w (.slice none 0 0) [] := ⟨none, 0, rfl, by simp, by simp, by simp⟩
/-- Opened: not empty. -/
theorem Fl.opens {α : Type} {V : α → Value} {w : World} {v : Value} {l : List α} (h : Fl V w v l) (hl : 0 < l.length) :
    ∃ b o c, v = .slice (some ⟨b, o, none⟩) l.length c ∧ l.length ≤ c ∧ c ≤ maxI ∧ ∀ j x, l[j]? = some x → w.cell? ⟨b, o + j, none⟩ = some (V x) := by
  obtain ⟨A, c, h1, h2, h3, h4⟩ := h
  obtain ⟨b, o, rfl, hc⟩ := h4 hl
  exact ⟨b, o, c, h1, h2, h3, hc⟩
theorem Sl.opens {α : Type} {R : World → List Value → α → Prop} {sz : Nat} {w : World} {v : Value} {l : List α} (h : Sl R sz w v l) (hl : 0 < l.length) :
    ∃ b o c, v = .slice (some ⟨b, o, none⟩) l.length c ∧ l.length ≤ c ∧ c ≤ maxI ∧ ∀ j x, l[j]? = some x → ∃ cs : List Value, cs.length = sz ∧ R w cs x ∧ ∀ i u, cs[i]? = some u → w.cell? ⟨b, o + (j * sz + i), none⟩ = some u := by
  obtain ⟨A, c, h1, h2, h3, h4⟩ := h
  obtain ⟨b, o, rfl, hc⟩ := h4 hl
  exact ⟨b, o, c, h1, h2, h3, hc⟩
theorem Fl.form {α : Type} {V : α → Value} {w : World} {v : Value} {l : List α} (h : Fl V w v l) : ∃ A c, v = .slice A l.length c ∧ l.length ≤ c ∧ c ≤ maxI := by
  obtain ⟨A, c, h1, h2, h3, h4⟩ := h; exact ⟨A, c, h1, h2, h3⟩
theorem Sl.form {α : Type} {R : World → List Value → α → Prop} {sz : Nat} {w : World} {v : Value} {l : List α} (h : Sl R sz w v l) : ∃ A c, v = .slice A l.length c ∧ l.length ≤ c ∧ c ≤ maxI := by
  obtain ⟨A, c, h1, h2, h3, h4⟩ := h; exact ⟨A, c, h1, h2, h3⟩
abbrev vByte (b : UInt8) : Value := .int .u8 (b.toNat : Int)
abbrev vInt (n : Int) : Value := .int .i64 n
abbrev BytesV : World → Value → List UInt8 → Prop := Fl vByte
abbrev NameV : World → Value → List ByteArray → Prop := Fl Value.string
abbrev IntsV : World → Value → List Int → Prop := Fl vInt
/-- A block whose first cells are a list's, free to be written. -/
def Blk {α : Type} (V : α → Value) (E : TypeId) (w : World) (g : Nat) (l : List α) : Prop :=
  ∃ cur lo hi, w.heap[g]? = some (.cells cur E (lo, hi)) ∧ (∀ j, j < l.length → ¬ (lo ≤ j ∧ j < hi)) ∧ ∀ (j : Nat) (x : α), l[j]? = some x → cur[j]? = some (V x)
theorem Blk.cell {α : Type} {V : α → Value} {E : TypeId} {w : World} {g : Nat} {l : List α} (h : Blk V E w g l) (j : Nat) (x : α) (hx : l[j]? = some x) : w.cell? ⟨g, j, none⟩ = some (V x) := by
  obtain ⟨cur, lo, hi, h1, h2, h3⟩ := h
  simp [World.cell?, h1, h3 j x hx]
theorem Blk.fl {α : Type} {V : α → Value} {E : TypeId} {w : World} {g : Nat} {l : List α} (h : Blk V E w g l) (n c : Nat) (hn : l.length = n) (hc : n ≤ c) (hm : c ≤ maxI) : Fl V w (.slice (some ⟨g, 0, none⟩) n c) l :=
  ⟨_, c, by rw [hn], by omega, hm, fun _ => ⟨g, 0, rfl, fun j x hx => by rw [Nat.zero_add]; exact h.cell j x hx⟩⟩
theorem ret_eq {a b : Value} (h : a = b) : Ending.returned a = .returned b := by rw [h]
theorem int_eq {k : IntKind} {a b : Int} (h : a = b) : Value.int k a = .int k b := by rw [h]
theorem bool_eq {a b : Bool} (h : a = b) : Value.bool a = .bool b := by rw [h]
theorem blk_bytes (w : World) (s : ByteArray) : Blk vByte 5 (Lib.bytesWorld w 5 s) w.heap.size s.data.toList := by
  refine ⟨_, _, _, Lib.bytesWorld_at_new w 5 s, fun j hj => ?_, fun j x hx => ?_⟩
  · have : s.data.toList.length ≤ (Lib.bytesCells w 5 s).size := by simp [Lib.bytesCells]
    omega
  · obtain ⟨hlt, he⟩ := List.getElem?_eq_some_iff.1 hx
    have hs : j < s.data.size := by simpa using hlt
    simp only [Lib.bytesCells, Array.getElem?_append, Array.size_map, hs, if_true, Array.getElem?_map, Array.getElem?_eq_getElem hs]
    simp at he
    simp [he]
theorem ext_bytes (w : World) (s : ByteArray) : Ext w (Lib.bytesWorld w 5 s) :=
  ⟨rfl, rfl, rfl, by rw [Lib.bytesWorld_size]; omega, fun i hi => Lib.bytesWorld_at_old w 5 s i hi⟩
/-- string(b). -/
theorem conv_string {w : World} {v : Value} {l : List UInt8} (h : BytesV w v l) : (convert 22 9 v).run Try.prog w = .ok (.string ⟨l.toArray⟩) w := by
  rcases Nat.eq_zero_or_pos l.length with h0 | h0
  · obtain rfl : l = [] := List.eq_nil_of_length_eq_zero h0
    obtain ⟨A, c, rfl, h2, h3, h4⟩ := h
    rcases A with _ | a
    · exact run_convert_bytes_nil w 22 5 Try.underlying22 Try.underlying5 _ _ 9 Try.underlying9
    · have := run_convert_bytes_string w 22 9 5 a 0 c Try.underlying22 Try.underlying5 Try.underlying9
      have hl : (loadCells a 0).run Try.prog w = .ok ((([] : List Int).map (Value.int .u8)).toArray) w := rfl
      rw [List.length_nil, this, run_bytesToString w _ 0 c [] hl]
      rfl
  · obtain ⟨b, o, c, rfl, h1, h2, h3⟩ := h.opens h0
    have := run_convert_bytes_arg (P := Try.prog) w 22 5 Try.underlying22 Try.underlying5 b o l.length c (l.map fun x => (x.toNat : Int)) (by simp) (fun i hi => by
      rw [h3 i l[i] (List.getElem?_eq_getElem hi)]
      simp [vByte, List.getD_eq_getElem?_getD, List.getElem?_eq_getElem hi]) 9 Try.underlying9
    rw [this]
    have e : strOfNums (l.map fun x => (x.toNat : Int)) = ⟨l.toArray⟩ := by
      unfold strOfNums
      have e2 : (l.map fun x => (x.toNat : Int)).map (fun n => UInt8.ofNat n.toNat) = l := by
        rw [List.map_map]
        exact (List.map_congr_left (g := id) (fun x _ => by simp)).trans (List.map_id _)
      rw [e2]
    rw [e]
theorem wraps_i64 (n : Int) (h₀ : 0 ≤ n) (h₁ : n < 2 ^ 63) : IntKind.i64.wrap n = n := by rw [IntKind.wrap_i64]; omega
theorem or_join (i : Nat) (x y : Int) (hx₀ : 0 ≤ x) (hx : x % 2 ^ i = 0) (hx₁ : x < 9223372036854775808) (hy₀ : 0 ≤ y) (hy : y < 2 ^ i) (hy₁ : y < 9223372036854775808) : bits .or .i64 x y = x + y :=
  bits_join .i64 63 (by decide) wraps_i64 i x y hx₀ hx hx₁ hy₀ hy hy₁
end Go.Proofs.Ytfnelkcllaaebaa
end
section
/- Contracts of the functions on numbers as bytes: Fits (both), Get, shapes' friends. No condition but that slices read as lists. -/
open Go.RowKit
namespace Go.Proofs.Ytfnelkcllaaebaa
set_option maxHeartbeats 400000 in
/-- num.Fits. -/
theorem num_Fits (n size : Int) (w : World) :
    Calls Try.prog 94 #[.int .i64 n, .int .i64 size] w fun e w' => e = .returned (.bool (fits n size)) ∧ w = w' := by
  by_cases h : 1 ≤ size ∧ size ≤ 7 ∧ 0 ≤ n
  · obtain ⟨h1, h2, h3⟩ := h
    have hf := fits_div n size h1 h2 h3
    have H := Lib.hid hf; clear hf
    go_enter Try.func94, Try.ntmps94
    go_wp2
    go_ret
    exact ⟨ret_eq (bool_eq H.out), rfl⟩
  · have hf := fits_no n size h
    have H := Lib.hid hf; clear hf
    by_cases h1 : 1 ≤ size
    · by_cases h2 : size ≤ 7
      · have h3 : ¬ 0 ≤ n := fun h3 => h ⟨h1, h2, h3⟩
        clear h
        go_enter Try.func94, Try.ntmps94
        go_wp2
        go_ret
        exact ⟨ret_eq (bool_eq H.out.symm), rfl⟩
      · clear h
        go_enter Try.func94, Try.ntmps94
        go_wp2
        go_ret
        exact ⟨ret_eq (bool_eq H.out.symm), rfl⟩
    · clear h
      go_enter Try.func94, Try.ntmps94
      go_wp2
      go_ret
      exact ⟨ret_eq (bool_eq H.out.symm), rfl⟩
set_option maxHeartbeats 400000 in
/-- ref01.Fits. -/
theorem ref_Fits (n size : Int) (w : World) (hn : n ≤ 9223372036854775807) :
    Calls Try.prog 106 #[.int .i64 n, .int .i64 size] w fun e w' => e = .returned (.bool (fits n size)) ∧ w = w' := by
  by_cases h : 1 ≤ size ∧ size ≤ 7 ∧ 0 ≤ n
  · obtain ⟨h1, h2, h3⟩ := h
    have hf := fits_div' n size h1 h2 h3
    have H := Lib.hid hf; clear hf
    go_enter Try.func106, Try.ntmps106
    go_wp2
    go_loop [0, 5] (fun m i => ∃ k : Nat, (k : Int) ≤ size ∧ i = .int .i64 k ∧ m = .int .i64 (n / 256 ^ k)) (fun _ i => size.toNat - (intOf i).toNat)
    case atStart => exact ⟨0, by omega, rfl, by simp⟩
    case round =>
      obtain ⟨k, hk, rfl, rfl⟩ := hrel
      have hd := Lib.hid (div_div_256 n k)
      have hp : 0 ≤ n / 256 ^ k := Int.ediv_nonneg h3 (Int.le_of_lt (pow256_pos k))
      have hp2 : n / 256 ^ k ≤ 9223372036854775807 := Int.le_trans (Int.ediv_le_self _ h3) hn
      by_cases hlt : (k : Int) < size
      · go_wp2
        go_round
        case rel => exact ⟨k + 1, by omega, by go_num, by rw [← hd.out]⟩
        case measure => simp [intOf]; omega
      · go_wp2
        go_ret
        have e : size.toNat = k := by omega
        have H' := H.out
        rw [e] at H'
        exact ⟨ret_eq (bool_eq H'), rfl⟩
  · have hf := fits_no n size h
    have H := Lib.hid hf; clear hf
    have hcase : size < 1 ∨ 7 < size ∨ n < 0 := by omega
    clear h
    rcases hcase with h1 | h1 | h1
    · go_enter Try.func106, Try.ntmps106
      go_wp2
      go_ret
      exact ⟨ret_eq (bool_eq H.out.symm), rfl⟩
    · go_enter Try.func106, Try.ntmps106
      go_wp2
      all_goals
        go_ret
        exact ⟨ret_eq (bool_eq H.out.symm), rfl⟩
    · by_cases h2 : 1 ≤ size
      · by_cases h3 : size ≤ 7
        · go_enter Try.func106, Try.ntmps106
          go_wp2
          go_ret
          exact ⟨ret_eq (bool_eq H.out.symm), rfl⟩
        · go_enter Try.func106, Try.ntmps106
          go_wp2
          go_ret
          exact ⟨ret_eq (bool_eq H.out.symm), rfl⟩
      · go_enter Try.func106, Try.ntmps106
        go_wp2
        go_ret
        exact ⟨ret_eq (bool_eq H.out.symm), rfl⟩
end Go.Proofs.Ytfnelkcllaaebaa
end
section
/- Contracts of the functions on strings and names. No condition but that slices read as lists (and the bounds that the theorems name). -/
open Go.RowKit
set_option linter.unusedVariables false
set_option linter.unusedSimpArgs false
namespace Go.Proofs.Ytfnelkcllaaebaa
end Go.Proofs.Ytfnelkcllaaebaa
end
section
/- Contracts: the same lists? No condition but that slices read as lists. -/
open Go.RowKit
set_option linter.unusedVariables false
set_option linter.unusedSimpArgs false
namespace Go.Proofs.Ytfnelkcllaaebaa
theorem eq_of_take {α : Type} {a b : List α} {k : Nat} (hl : a.length = b.length) (hk : a.length ≤ k) (h : a.take k = b.take k) : a = b := by
  rw [List.take_of_length_le hk, List.take_of_length_le (by omega)] at h; exact h
theorem take_succ_eq {α : Type} {a b : List α} {k : Nat} {x : α} (ha : a[k]? = some x) (hb : b[k]? = some x) (h : a.take k = b.take k) : a.take (k + 1) = b.take (k + 1) := by
  rw [List.take_add_one, List.take_add_one, ha, hb, h]
theorem ne_of_at {α : Type} {a b : List α} {k : Nat} {x y : α} (ha : a[k]? = some x) (hb : b[k]? = some y) (h : x ≠ y) : a ≠ b := by
  rintro rfl; rw [ha] at hb; injection hb with hb; exact h hb
theorem dec_true {p : Prop} [Decidable p] (h : p) : Value.bool true = .bool (decide p) := by rw [decide_eq_true h]
theorem dec_false {p : Prop} [Decidable p] (h : ¬ p) : Value.bool false = .bool (decide p) := by rw [decide_eq_false h]
theorem len_ne {a b : Nat} (h : ¬ a = b) : ((a : Int) != (b : Int)) = true := by rw [bne_iff_ne]; omega
theorem len_eq {a b : Nat} (h : a = b) : ((a : Int) != (b : Int)) = false := by rw [h]; simp
theorem byte_ne {x y : UInt8} (h : ¬ x = y) : ((x.toNat : Int) != (y.toNat : Int)) = true := by
  rw [bne_iff_ne]; intro h2; exact h (UInt8.toNat_inj.1 (by omega))
theorem byte_eq (x : UInt8) : ((x.toNat : Int) != (x.toNat : Int)) = false := by simp
theorem str_same (x : ByteArray) : (x.toList == x.toList) = true := by simp
theorem str_diff {x y : ByteArray} (h : ¬ x = y) : (x.toList == y.toList) = false := by
  rw [beq_eq_false_iff_ne]; intro h2; rw [ByteArray.toList_eq, ByteArray.toList_eq] at h2; exact h (bs_inj h2)

/-- ref_Exact. -/
theorem ref_Exact (va vb : Value) (a b : List ByteArray) (w : World) (ha : NameV w va a) (hb : NameV w vb b) :
    Calls Try.prog 55 #[va, vb] w fun e w' => e = .returned (.bool (decide (a = b))) ∧ Dr w w' := by
  have hla := ha.len
  have hlb := hb.len
  unfold maxI at hla hlb
  by_cases hlen : a.length = b.length
  · have HA := Lib.hid ha
    have HB := Lib.hid hb
    obtain ⟨A, c, rfl, h1, h2⟩ := ha.form
    obtain ⟨A', c', rfl, h3, h4⟩ := hb.form
    have ht := len_eq hlen
    clear ha hb
    have HL := Lib.hid hlen
    clear hlen
    go_enter Try.func55, Try.ntmps55
    go_wp2
    go_loopw [5] (fun i wr => ∃ k : Nat, k ≤ a.length ∧ i = .int .i64 k ∧ Hid (a.take k = b.take k) ∧ Dr w wr) (fun i _ => a.length - (intOf i).toNat)
    case atStart => exact ⟨0, by omega, rfl, rfl, Dr.refl _⟩
    case round =>
      obtain ⟨k, hk, rfl, hT, hD⟩ := hrel
      by_cases hlt : k < a.length
      · have hb1 : k < b.length := by have := HL.out; omega
        obtain ⟨b1, o1, c1, e1, _, _, hc1⟩ := HA.out.opens (by omega)
        obtain ⟨b2, o2, c2, e2, _, _, hc2⟩ := HB.out.opens (by omega)
        injection e1 with e1 e3 e4
        injection e2 with e2 e5 e6
        subst e1 e2
        clear e3 e4 e5 e6
        have hx := List.getElem?_eq_getElem hlt
        have hy := List.getElem?_eq_getElem hb1
        obtain ⟨n, rfl⟩ := hD
        have hcx := hc1 k _ hx
        have hcy := hc2 k _ hy
        have HX := Lib.hid hx
        have HY := Lib.hid hy
        clear hx hy hc1 hc2
        generalize a[k] = x at *
        generalize b[k] = y at *
        by_cases hxy : x = y
        · subst hxy
          have ht2 := str_same x
          go_wp2
          go_quiet (fail)
          go_wp2
          go_roundw
          case rel => exact ⟨k + 1, by omega, by go_num, take_succ_eq HX.out HY.out hT.out, ⟨_, rfl⟩⟩
          case measure => simp [intOf]; omega
        · have ht2 := str_diff hxy
          have HN := Lib.hid (ne_of_at HX.out HY.out hxy)
          clear hxy
          go_wp2
          go_quiet (fail)
          go_wp2
          go_ret
          exact ⟨ret_eq (dec_false HN.out), by first | exact ⟨_, rfl⟩ | exact ⟨_, World.drewN_drewN ..⟩⟩
      · have HE := Lib.hid (eq_of_take HL.out (by omega) hT.out)
        go_wp2
        go_ret
        exact ⟨ret_eq (dec_true HE.out), hD⟩
  · obtain ⟨A, c, rfl, h1, h2⟩ := ha.form
    obtain ⟨A', c', rfl, h3, h4⟩ := hb.form
    have hne : ¬ a = b := fun h => hlen (by rw [h])
    have HN := Lib.hid hne
    have ht := len_ne hlen
    clear ha hb hlen hne
    go_enter Try.func55, Try.ntmps55
    go_wp2
    go_ret
    exact ⟨ret_eq (dec_false HN.out), Dr.refl _⟩

/-- ref_Same. -/
theorem ref_Same (va vb : Value) (a b : List UInt8) (w : World) (ha : BytesV w va a) (hb : BytesV w vb b) :
    Calls Try.prog 39 #[va, vb] w fun e w' => e = .returned (.bool (decide (a = b))) ∧ Dr w w' := by
  have hla := ha.len
  have hlb := hb.len
  unfold maxI at hla hlb
  by_cases hlen : a.length = b.length
  · have HA := Lib.hid ha
    have HB := Lib.hid hb
    obtain ⟨A, c, rfl, h1, h2⟩ := ha.form
    obtain ⟨A', c', rfl, h3, h4⟩ := hb.form
    have ht := len_eq hlen
    clear ha hb
    have HL := Lib.hid hlen
    clear hlen
    go_enter Try.func39, Try.ntmps39
    go_wp2
    go_loopw [5] (fun i wr => ∃ k : Nat, k ≤ a.length ∧ i = .int .i64 k ∧ Hid (a.take k = b.take k) ∧ Dr w wr) (fun i _ => a.length - (intOf i).toNat)
    case atStart => exact ⟨0, by omega, rfl, rfl, Dr.refl _⟩
    case round =>
      obtain ⟨k, hk, rfl, hT, hD⟩ := hrel
      by_cases hlt : k < a.length
      · have hb1 : k < b.length := by have := HL.out; omega
        obtain ⟨b1, o1, c1, e1, _, _, hc1⟩ := HA.out.opens (by omega)
        obtain ⟨b2, o2, c2, e2, _, _, hc2⟩ := HB.out.opens (by omega)
        injection e1 with e1 e3 e4
        injection e2 with e2 e5 e6
        subst e1 e2
        clear e3 e4 e5 e6
        have hx := List.getElem?_eq_getElem hlt
        have hy := List.getElem?_eq_getElem hb1
        obtain ⟨n, rfl⟩ := hD
        have hcx := hc1 k _ hx
        have hcy := hc2 k _ hy
        have HX := Lib.hid hx
        have HY := Lib.hid hy
        clear hx hy hc1 hc2
        generalize a[k] = x at *
        generalize b[k] = y at *
        by_cases hxy : x = y
        · subst hxy
          have ht2 := byte_eq x
          go_wp2
          go_quiet (fail)
          go_wp2
          go_roundw
          case rel => exact ⟨k + 1, by omega, by go_num, take_succ_eq HX.out HY.out hT.out, ⟨_, rfl⟩⟩
          case measure => simp [intOf]; omega
        · have ht2 := byte_ne hxy
          have HN := Lib.hid (ne_of_at HX.out HY.out hxy)
          clear hxy
          go_wp2
          go_quiet (fail)
          go_wp2
          go_ret
          exact ⟨ret_eq (dec_false HN.out), by first | exact ⟨_, rfl⟩ | exact ⟨_, World.drewN_drewN ..⟩⟩
      · have HE := Lib.hid (eq_of_take HL.out (by omega) hT.out)
        go_wp2
        go_ret
        exact ⟨ret_eq (dec_true HE.out), hD⟩
  · obtain ⟨A, c, rfl, h1, h2⟩ := ha.form
    obtain ⟨A', c', rfl, h3, h4⟩ := hb.form
    have hne : ¬ a = b := fun h => hlen (by rw [h])
    have HN := Lib.hid hne
    have ht := len_ne hlen
    clear ha hb hlen hne
    go_enter Try.func39, Try.ntmps39
    go_wp2
    go_ret
    exact ⟨ret_eq (dec_false HN.out), Dr.refl _⟩

end Go.Proofs.Ytfnelkcllaaebaa
end
