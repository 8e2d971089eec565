/- Parts of one proof, joined: PutN, Wr, WrA, WrB, WrC, WrD, WrE, WrF. Conditions: those that each theorem states. -/
import Derived.Test.YtfnelkcllaaebaaEB2
import Derived.Test.YtfnelkcllaaebaaEB3
import Derived.Test.YtfnelkcllaaebaaEB13
import Derived.Test.YtfnelkcllaaebaaEB7
import Derived.Test.YtfnelkcllaaebaaEB10
import Derived.Laws.CopyOwn
import Derived.Maps.OwnSet
import Derived.Lib.AppendStr
import Derived.Deep.RegionHeld3
section
/- Contract of num.Put behind nothing. No condition. -/
open Go.RowKit
set_option linter.unusedVariables false
set_option linter.unusedSimpArgs false
namespace Go.Proofs.Ytfnelkcllaaebaa
theorem putN_no {n size : Int} (h : fits n size = false) : putN [] n size = [] := by unfold putN; rw [h]; rfl
theorem putN_yes {n size : Int} (h : fits n size = true) : putN [] n size = be n size.toNat := by unfold putN; rw [if_pos h]; rfl
def z7 : Array Value := #[.int .u8 0, .int .u8 0, .int .u8 0, .int .u8 0, .int .u8 0, .int .u8 0, .int .u8 0]
theorem made7 (w : World) : OwnL vByte 5 (w.alloc (.cells z7 5)) w.heap.size (.slice (some ⟨w.heap.size, 0, none⟩) 0 7) [] := by
  unfold OwnL
  exact World.ownsRow_made w z7 7 (Nat.le_refl _) (by simp [maxLen]) (by simp [z7])
set_option maxHeartbeats 400000 in
theorem num_Put_nil (n size : Int) (w : World) : Calls Try.prog 152 #[.slice none 0 0, .int .i64 n, .int .i64 size] w (NewL vByte 5 w (putN [] n size)) := by
  have hmk : ∀ w, (Instr.makeSlice 22 (.int .i64 0) (.int .i64 7)).run Try.prog w = .ok (.slice (some ⟨w.heap.size, 0, none⟩) 0 7) (w.alloc (.cells z7 5)) := fun _ => by kernel_rfl
  have HO := Lib.hid (made7 w)
  have HE := Lib.hid ((Ext.refl w).alloc (.cells z7 5))
  have HF := Lib.hid (num_Fits n size)
  cases hf : fits n size with
  | false =>
    have HM := Lib.hid (putN_no hf)
    rw [hf] at HF
    clear hf
    go_enter Try.func152, Try.ntmps152
    go_wp2_with (first | (refine wpList_copy_nothing rfl (.tmp 15) (.tmp 16) 22 22 rfl 5 Try.underlying22 (by kernel_rfl) _ _ _ _ _ _ rfl rfl rfl ?_) | (go_at_call 94; refine (HF.out _).mono ?_; rintro e w1 ⟨rfl, rfl⟩))
    go_ret
    exact newL_mk rfl (by rw [HM.out]; exact HO.out) HE.out
  | true =>
    have HM := Lib.hid (putN_yes hf)
    have hb := fits_bound n size hf
    rw [hf] at HF
    clear hf
    go_enter Try.func152, Try.ntmps152
    go_wp2_with (first | (refine wpList_copy_nothing rfl (.tmp 15) (.tmp 16) 22 22 rfl 5 Try.underlying22 (by kernel_rfl) _ _ _ _ _ _ rfl rfl rfl ?_) | (go_at_call 94; refine (HF.out _).mono ?_; rintro e w1 ⟨rfl, rfl⟩))
    go_loopw [7, 8] (fun out k wr => ∃ (j : Nat) (z : Int) (L : List UInt8), (j : Int) ≤ size ∧ z = (j : Int) - 1 ∧ k = .int .i64 z ∧ OwnL vByte 5 wr w.heap.size out L ∧ Hid (L ++ be n j = be n size.toNat) ∧ L.length + j = size.toNat ∧ Ext w wr) (fun _ k _ => (intOf k + 1).toNat)
    case atStart => exact ⟨size.toNat, size - 1, [], by omega, by omega, rfl, HO.out, rfl, by simp, HE.out⟩
    case round =>
      obtain ⟨j, z, L, hj, hz, rfl, hO, hL, hlen, hE⟩ := hrel
      have HL2 := Lib.hid hlen
      clear hlen
      rcases j with _ | j
      · obtain rfl : z = -1 := by omega
        clear hz
        go_wp2
        go_ret
        exact newL_mk rfl (by rw [HM.out, ← hL.out]; simpa [be] using hO) hE
      · obtain rfl : z = (j : Int) := by omega
        clear hz
        have hy : n / 2 ^ (8 * j) % 256 = (((UInt8.ofNat ((n / 256 ^ j).toNat % 256)).toNat : Nat) : Int) := by
          have e1 : (2 : Int) ^ (8 * j) = 256 ^ j := pow8 j
          have e2 : (UInt8.ofNat ((n / 256 ^ j).toNat % 256)).toNat = (n / 256 ^ j).toNat % 256 := by simp
          have e3 : 0 ≤ n / 256 ^ j := Int.ediv_nonneg (by omega) (Int.le_of_lt (pow256_pos j))
          rw [e1, e2]; omega
        have HY := Lib.hid hy
        have hL3 : Hid ((L ++ [UInt8.ofNat ((n / 256 ^ j).toNat % 256)]) ++ be n j = be n size.toNat) := Lib.hid (by rw [← hL.out]; simp [be])
        clear hy
        have HO1 := Lib.hid hO
        have hsz := hE.size
        have HSz := Lib.hid hsz
        have hLb : Hid ((L.length + 1) * 1 ≤ 140737488355328) := Lib.hid (by have := HL2.out; omega)
        clear hO hsz
        go_wp2_with (at_builtin; rw [HY.out]; refine wpList_app1 vByte w.heap.size rfl (.tmp 29) (.tmp 35) 22 5 (.int .u8 0) 1 rfl Try.underlying22 (by kernel_rfl) rfl (by decide) u7 L (UInt8.ofNat ((n / 256 ^ j).toNat % 256)) rfl rfl rfl HO1.out HSz.out hLb.out ?_; intro v1 w1 hO2 hg1; have HE2 := Lib.hid (grown_trans_ext hE HO1.out (Nat.le_refl _) hg1); have HO2 := Lib.hid hO2; clear hO2 hg1)
        go_roundw
        case rel => exact ⟨j, (j : Int) - 1, _, by omega, rfl, rfl, HO2.out, hL3, by have := HL2.out; simp; omega, HE2.out⟩
        case measure => simp [intOf]
end Go.Proofs.Ytfnelkcllaaebaa
end
section
/- The program's writer in memory. No condition: definitions, laws on worlds, append where the new row lies. -/
open Go.RowKit
set_option linter.unusedVariables false
set_option linter.unusedSimpArgs false
namespace Go.Proofs.Ytfnelkcllaaebaa
/-- A name's labels as they are written without pointers. -/
def wire (n : List Str) : List UInt8 := (n.map fun l => UInt8.ofNat l.size :: bs l).flatten
def goodL (n : List Str) : Prop := ∀ l ∈ n, 1 ≤ l.size ∧ l.size ≤ 63
theorem wire_inj : ∀ {a b : List Str}, goodL a → goodL b → wire a = wire b → a = b := by
  intro a
  induction a with
  | nil =>
    intro b _ _ h
    cases b with
    | nil => rfl
    | cons y b => simp [wire] at h
  | cons x a ih =>
    intro b ha hb h
    cases b with
    | nil => simp [wire] at h
    | cons y b =>
      have h1 := ha x (by simp)
      have h2 := hb y (by simp)
      simp only [wire, List.map_cons, List.flatten_cons, List.cons_append, List.cons.injEq] at h
      obtain ⟨h3, h4⟩ := h
      have h5 : x.size = y.size := by
        have := congrArg UInt8.toNat h3
        simp at this
        omega
      have h6 := List.append_inj h4 (by rw [bs_length, bs_length, h5])
      rw [bs_inj h6.1, ih (fun l hl => ha l (by simp [hl])) (fun l hl => hb l (by simp [hl])) h6.2]
/-- The map's datum says where rests stand. -/
structure RestsD (D : DataW Unit) (f : Rests) : Prop where
  isMap : Maps.IsMap D
  at_ : ∀ x, goodL x → match f x with
    | none => Maps.has D (.string (wire x)) = false
    | some k => Maps.has D (.string (wire x)) = true ∧ D.atKey (.string (wire x)) (.lit (.int .i64 0)) = .lit (.int .i64 (k : Int))
  small : ∀ x k, f x = some k → k < 16384
theorem restsD_nil : RestsD (.map []) (fun _ => none) := ⟨Maps.isMap_empty, fun x _ => rfl, fun x k h => by cases h⟩
theorem restsD_put {D : DataW Unit} {f : Rests} {n : List Str} {p : Nat} (h : RestsD D f) (hn : goodL n) (hf : f n = none) (hp : p < 16384) : RestsD (D.put (.string (wire n)) (.lit (.int .i64 (p : Int)))) (note p f n) := by
  have hk : WideAt.IsKeyLit (.string (wire n)) := trivial
  refine ⟨h.isMap.put _ _, fun x hx => ?_, fun x k hk => ?_⟩
  · by_cases hxn : x = n
    · subst hxn
      have : note p f x x = some p := by unfold note; rw [if_pos ⟨rfl, hp⟩, hf]; rfl
      rw [this]
      exact ⟨Maps.has_put_same h.isMap hk _, Maps.atKey_put_same h.isMap hk _ _⟩
    · have : note p f n x = f x := by unfold note; rw [if_neg (by simp [hxn])]
      rw [this]
      have hne : (Lit.string (wire x)) ≠ .string (wire n) := fun e => hxn (wire_inj hx hn (by injection e))
      have := h.at_ x hx
      rw [Maps.has_put_other hne]
      cases hfx : f x with
      | none => rw [hfx] at this; exact this
      | some k => rw [hfx] at this; exact ⟨this.1, by rw [Maps.atKey_put_other hne]; exact this.2⟩
  · unfold note at hk
    split at hk
    · rename_i hx
      rw [hx.1, hf] at hk
      simp at hk
      omega
    · exact h.small x k hk
/-- The writer at block p: its bytes' row v, its map at block mp (at most N entries). -/
structure WrP (w : World) (p mp : Nat) (v : Value) (N : Nat) (b : List UInt8) (f : Rests) : Prop where
  box : w.heap[p]? = some (.cells #[v, .map (some mp)] 139 (0, 0))
  row : OwnL vByte 5 w 0 v b
  map : ∃ D : DataW Unit, w.ownsMap Try.prog 9 (plainElem Try.prog 3) mp N D ∧ RestsD D f
/-- The writer's blocks. -/
def Sof (p mp : Nat) (v : Value) (k : Nat) : Prop := k = p ∨ k = mp ∨ v.ownBlock = some k
/-- A step: nothing that was there has turned but S; what is new in S' was not there. -/
def Stp (S : Nat → Prop) (w : World) (S' : Nat → Prop) (w' : World) : Prop := Kp S w w' ∧ ∀ k, S' k → S k ∨ w.heap.size ≤ k
theorem Stp.refl (S : Nat → Prop) (w : World) : Stp S w S w := ⟨Kp.refl _ _, fun k h => .inl h⟩
theorem Stp.trans {S S' S'' : Nat → Prop} {a b c : World} (h : Stp S a S' b) (k : Stp S' b S'' c) : Stp S a S'' c :=
  ⟨h.1.trans' k.1 h.2, fun i hi => (k.2 i hi).elim (h.2 i) (fun h2 => .inr (Nat.le_trans h.1.size h2))⟩
theorem Stp.of_ext {S : Nat → Prop} {w w' : World} (h : Ext w w') : Stp S w S w' := ⟨Kp.of_ext h, fun k h => .inl h⟩
theorem Stp.ext {S S' : Nat → Prop} {w w' w'' : World} (h : Stp S w S' w') (hE : Ext w' w'') : Stp S w S' w'' := h.trans (.of_ext hE)
theorem WrP.lt {w : World} {p mp : Nat} {v : Value} {N : Nat} {b : List UInt8} {f : Rests} (h : WrP w p mp v N b f) : ∀ k, Sof p mp v k → k < w.heap.size := by
  rintro k (rfl | rfl | hk)
  · exact (Array.getElem?_eq_some_iff.1 h.box).1
  · obtain ⟨D, h1, _⟩ := h.map; exact h1.lt
  · exact (World.ownsRow.lt h.row k hk).2
theorem WrP.row_type {w : World} {p mp : Nat} {v : Value} {N : Nat} {b : List UInt8} {f : Rests} (h : WrP w p mp v N b f) (k : Nat) (hk : v.ownBlock = some k) : ∃ cur, w.heap[k]? = some (.cells cur 5 (0, 0)) := by
  rcases h.row.2 with ⟨rfl, _⟩ | ⟨g, cap, cur, rfl, _, hg, _⟩
  · simp [Value.ownBlock] at hk
  · simp [Value.ownBlock] at hk; subst hk; exact ⟨cur, hg⟩
theorem WrP.ne_map {w : World} {p mp : Nat} {v : Value} {N : Nat} {b : List UInt8} {f : Rests} (h : WrP w p mp v N b f) : p ≠ mp := by
  intro e
  obtain ⟨D, ⟨es, cl, hb, _⟩, _⟩ := h.map
  have := h.box
  rw [e, hb] at this
  injection this with this
  cases this
theorem WrP.ne_row {w : World} {p mp : Nat} {v : Value} {N : Nat} {b : List UInt8} {f : Rests} (h : WrP w p mp v N b f) : v.ownBlock ≠ some p := by
  intro e
  obtain ⟨cur, hc⟩ := h.row_type p e
  have := h.box
  rw [hc] at this
  injection this with this
  injection this with _ h2 _
  cases h2
theorem WrP.map_ne_row {w : World} {p mp : Nat} {v : Value} {N : Nat} {b : List UInt8} {f : Rests} (h : WrP w p mp v N b f) : v.ownBlock ≠ some mp := by
  intro e
  obtain ⟨cur, hc⟩ := h.row_type mp e
  obtain ⟨D, ⟨es, cl, hb, _⟩, _⟩ := h.map
  rw [hc] at hb
  injection hb with hb
  cases hb
/-- Whatever leaves the writer's blocks alone leaves it. -/
theorem WrP.kp {T : Nat → Prop} {w w' : World} {p mp : Nat} {v : Value} {N : Nat} {b : List UInt8} {f : Rests} (h : WrP w p mp v N b f) (hk : Kp T w w') (hT : ∀ k, Sof p mp v k → ¬ T k) : WrP w' p mp v N b f := by
  have hb := fun k hs => hk.block k (h.lt k hs) (hT k hs)
  refine ⟨(hb p (.inl rfl)).trans h.box, ?_, ?_⟩
  · rcases h.row.2 with ⟨rfl, h2⟩ | ⟨g, cap, cur, rfl, h1, h2, h3⟩
    · exact ⟨h.row.1, .inl ⟨rfl, h2⟩⟩
    · exact ⟨h.row.1, .inr ⟨g, cap, cur, rfl, h1, (hb g (.inr (.inr rfl))).trans h2, h3⟩⟩
  · obtain ⟨D, ⟨es, cl, h1, h2⟩, h3⟩ := h.map
    exact ⟨D, ⟨es, cl, (hb mp (.inr (.inl rfl))).trans h1, h2⟩, h3⟩
theorem WrP.ext {w w' : World} {p mp : Nat} {v : Value} {N : Nat} {b : List UInt8} {f : Rests} (h : WrP w p mp v N b f) (hE : Ext w w') : WrP w' p mp v N b f :=
  h.kp (T := fun _ => False) (Kp.of_ext hE) (fun _ _ h => h)
section
variable {P : Program} {ops : Array Oper} {rest : List Oper} {o : Oper} {a : Act} {Q : Exit → Act → World → Prop}
/-- append(v, ys...), ys a slice that is read, nil let in: and where the new row lies. -/
theorem wpList_appRow2 {α : Type} (V : α → Value) {W : World} (base : Nat) (hgd : o.guard = none) (s x : Operand) (t e : TypeId) (z : Value) (bytes : Nat)
    (ho : o.op = .call { callee := .builtin .append, args := #[s, x], argTypes := #[t, t] })
    (ht : P.underlying t = some (.slice e)) (hinfo : (P.info? e).map (fun i => (i.zero, i.size, i.bytes)) = some (some z, 1, bytes)) (hz : z.cells.size = 1) (hb0 : 0 < bytes)
    (v : Value) (l ys : List α) (vy : Value) (hs : a.eval s = v) (hx : a.eval x = vy) (h1 : ∀ y, (V y).oneCell' = true)
    (HO : OwnL V e W base v l) (HY : Fl V W vy ys) (hbase : base ≤ W.heap.size) (hl : (l.length + ys.length) * bytes ≤ 140737488355328)
    (h : ∀ v1 w1, OwnL V e w1 base v1 (l ++ ys) → W.grownBy w1 v.ownBlock → (∀ k, v1.ownBlock = some k → v.ownBlock = some k ∨ W.heap.size ≤ k) → wpList P ops Q rest (a.put o.dst v1) w1) :
    wpList P ops Q (o :: rest) a W := by
  obtain ⟨i0, hi, hzz⟩ := Option.map_eq_some_iff.1 hinfo
  simp only [Prod.mk.injEq] at hzz
  obtain ⟨hz0, hz1, hz2⟩ := hzz
  have hlen : l.length + ys.length ≤ 140737488355328 := Nat.le_trans (Nat.le_mul_of_pos_right _ hb0) hl
  have hrun : ∃ v1 w1, (Builtin.append_ #[t, t] o.type #[v, vy]).run P W = .ok v1 w1 ∧ OwnL V e w1 base v1 (l ++ ys) ∧ W.grownBy w1 v.ownBlock ∧ (∀ k, v1.ownBlock = some k → v.ownBlock = some k ∨ W.heap.size ≤ k) := by
    rcases Nat.eq_zero_or_pos ys.length with h0 | h0
    · obtain rfl : ys = [] := List.eq_nil_of_length_eq_zero h0
      obtain ⟨A, c, rfl, h2, h3, h4⟩ := HY
      rw [List.append_nil]
      have HO2 := HO
      rcases HO.2 with ⟨rfl, hn⟩ | ⟨g, cap, cur, rfl, hbg, hgg, hnc, hcm, hcs, htk⟩
      · refine ⟨.slice none 0 0, W, ?_, HO2, World.grownBy.refl W _, fun k hk => .inl hk⟩
        cases A <;> simp [Builtin.append_, run_underlying ht, sizeOf, typeInfo, hi, Builtin.lenOf, Builtin.firstCells, loadCells, loadCellsFrom]
      · refine ⟨_, W, ?_, HO2, World.grownBy.refl W _, fun k hk => .inl hk⟩
        cases A <;> simp [Builtin.append_, run_underlying ht, sizeOf, typeInfo, hi, Builtin.lenOf, Builtin.firstCells, loadCells, loadCellsFrom, hnc, storeCells]
    · obtain ⟨b, ob, c, rfl, h2, h3, hcell⟩ := HY.opens h0
      obtain ⟨v1, w1, hr, hown, hg, _, hat⟩ := run_append_own_at (P := P) W base t o.type e i0 z 1 bytes ht hi hz0 hz1 hz2 hz (by omega) v l.length (l.map V) HO ⟨b, ob, none⟩ ys.length c (ys.map V) (by simp) (fun j u hu => by
        rw [List.getElem?_map] at hu
        cases hy : ys[j]? with
        | none => rw [hy] at hu; cases hu
        | some y =>
          rw [hy] at hu
          injection hu with hu
          have ha : (⟨b, ob, none⟩ : Addr).add j = ⟨b, ob + j, none⟩ := by unfold Addr.add; split <;> simp_all
          rw [ha, ← hu]
          exact hcell j y hy)
        (by intro u hu; simp only [List.mem_map] at hu; obtain ⟨q, _, rfl⟩ := hu; exact h1 q) (by simp only [maxLen]; omega) hl hbase
      exact ⟨v1, w1, hr, by unfold OwnL; simpa using hown, hg, fun k hk => by
        rcases hat with hat | hat
        · rw [hat] at hk; exact .inl hk
        · rw [hat] at hk; injection hk with hk; exact .inr (by omega)⟩
  obtain ⟨v1, w1, hr, hown, hg, hat⟩ := hrun
  refine wpList_plain hgd fun K hK => ?_
  unfold Oper.wp execOp
  simp only [ho, resolve, invoke, builtin, Sem.run_bind, Sem.run_pure, Result.andThen_ok, List.map_toArray, List.map_cons, List.map_nil, hs, hx, hr]
  exact hK _ _ (h v1 w1 hown hg hat)
end
end Go.Proofs.Ytfnelkcllaaebaa
end
section
/- Contracts of the writer's Raw, Num, Len, Bytes and New. No condition but that the writer stands in memory, and room. -/
open Go.RowKit
set_option linter.unusedVariables false
set_option linter.unusedSimpArgs false
namespace Go.Proofs.Ytfnelkcllaaebaa
theorem own_sl {α : Type} {V : α → Value} {e : TypeId} {w : World} {base : Nat} {v : Value} {l : List α} (h : OwnL V e w base v l) : ∃ A n c, v = .slice A n c := by
  obtain ⟨A, c, rfl, _⟩ := h.fl.form; exact ⟨_, _, _, rfl⟩
/-- The writer at p goes on to other bytes. -/
def Wrote (p mp : Nat) (v : Value) (N : Nat) (b : List UInt8) (f : Rests) (w w' : World) : Prop := ∃ v', WrP w' p mp v' N b f ∧ Stp (Sof p mp v) w (Sof p mp v') w'
theorem wr_store {w w1 : World} {p mp : Nat} {v v1 : Value} {N : Nat} {b b1 : List UInt8} {f : Rests} (hW : WrP w p mp v N b f) (hO : OwnL vByte 5 w1 0 v1 b1) (hg : w.grownBy w1 v.ownBlock) (hat : ∀ k, v1.ownBlock = some k → v.ownBlock = some k ∨ w.heap.size ≤ k) :
    Wrote p mp v N b1 f w (w1.setCell ⟨p, 0, none⟩ v1) := by
  have hlt := hW.lt p (.inl rfl)
  have hb1 : w1.heap[p]? = some (.cells #[v, .map (some mp)] 139 (0, 0)) := (hg.block p hlt (fun e => hW.ne_row e.symm)).trans hW.box
  have hne : v1.ownBlock ≠ some p := by
    intro e
    rcases hat p e with h | h
    · exact hW.ne_row h
    · omega
  refine ⟨v1, ⟨by simp [World.setCell, Array.getElem?_modify, hb1], ?_, ?_⟩, ?_, ?_⟩
  · exact World.ownsRow.kept (row := some p) hO ⟨rfl, rfl, rfl, by simp [World.setCell], fun k hk hn => Below.heap_setCell w1 ⟨p, 0, none⟩ v1 k (fun e => hn (by rw [e]))⟩ (.inr hne)
  · obtain ⟨D, ⟨es, cl, h1, h2⟩, h3⟩ := hW.map
    refine ⟨D, ⟨es, cl, ?_, h2⟩, h3⟩
    rw [Below.heap_setCell w1 ⟨p, 0, none⟩ v1 mp (fun e => hW.ne_map e.symm)]
    exact (hg.block mp (hW.lt mp (.inr (.inl rfl))) (fun e => hW.map_ne_row e.symm)).trans h1
  · exact (Kp.grown (Kp.refl _ w) hg (fun k hk => .inl (.inr (.inr hk)))).setCell (.inl (.inl rfl)) _
  · rintro k (rfl | rfl | hk)
    · exact .inl (.inl rfl)
    · exact .inl (.inr (.inl rfl))
    · rcases hat k hk with h | h
      · exact .inl (.inr (.inr h))
      · exact .inr h
theorem wr_box {w w1 : World} {p mp : Nat} {v : Value} {N : Nat} {b : List UInt8} {f : Rests} (hW : WrP w p mp v N b f) (hg : w.grownBy w1 v.ownBlock) : w1.cell? ⟨p, 0, none⟩ = some v ∧ w1.frozen? ⟨p, 0, none⟩ = false := by
  have hb1 : w1.heap[p]? = some (.cells #[v, .map (some mp)] 139 (0, 0)) := (hg.block p (hW.lt p (.inl rfl)) (fun e => hW.ne_row e.symm)).trans hW.box
  exact ⟨by simp [World.cell?, hb1], by simp [World.frozen?, hb1]⟩
theorem WrP.slice {w : World} {p mp : Nat} {v : Value} {N : Nat} {b : List UInt8} {f : Rests} (h : WrP w p mp v N b f) : ∃ A c, v = .slice A b.length c := by
  obtain ⟨A, c, h, _⟩ := h.row.fl.form; exact ⟨A, c, h⟩
theorem WrP.cells {w : World} {p mp : Nat} {v : Value} {N : Nat} {b : List UInt8} {f : Rests} (h : WrP w p mp v N b f) : w.cell? ⟨p, 0, none⟩ = some v ∧ w.cell? ⟨p, 1, none⟩ = some (.map (some mp)) ∧ ∀ i, w.frozen? ⟨p, i, none⟩ = false := by
  have hb := h.box
  exact ⟨by simp [World.cell?, hb], by simp [World.cell?, hb], fun i => by simp [World.frozen?, hb]⟩
set_option maxHeartbeats 400000 in
/-- Writer.Raw. -/
theorem wname_Raw (p mp : Nat) (v vy : Value) (N : Nat) (b ys : List UInt8) (f : Rests) (w : World) (hW : WrP w p mp v N b f) (hy : BytesV w vy ys) (hl : (b.length + ys.length) * 1 ≤ 140737488355328) :
    Calls Try.prog 64 #[.pointer (some ⟨p, 0, none⟩), vy] w fun e w' => e = .returned (.tuple #[]) ∧ Wrote p mp v N (b ++ ys) f w w' := by
  have HW := Lib.hid hW
  have HY := Lib.hid hy
  have HL := Lib.hid hl
  obtain ⟨A, n, rfl, _, _⟩ := hy.form
  have hc : w.cell? ⟨p, 0, none⟩ = some v := by have := hW.box; simp [World.cell?, this]
  have hfz : ∀ i, w.frozen? ⟨p, i, none⟩ = false := fun i => by have := hW.box; simp [World.frozen?, this]
  obtain ⟨Av, nv, cv, rfl⟩ : ∃ Av nv cv, v = .slice Av nv cv := by obtain ⟨A, c, h, _⟩ := hW.row.fl.form; exact ⟨_, _, _, h⟩
  clear hW hy hl
  go_enter Try.func64, Try.ntmps64
  go_wp2_with (at_builtin; go_must (refine wpList_appRow2 vByte 0 rfl (.tmp 10) (.tmp 11) 22 5 (.int .u8 0) 1 rfl Try.underlying22 (by kernel_rfl) rfl (by decide) (.slice Av nv cv) b ys _ rfl rfl (fun _ => rfl) HW.out.row HY.out (Nat.zero_le _) HL.out ?_); intro v1 w1 hO1 hg1 hat1; obtain ⟨A1, n1, c1, rfl⟩ := own_sl hO1; have HF := Lib.hid (wr_store HW.out hO1 hg1 hat1); obtain ⟨d1, d2⟩ := wr_box HW.out hg1; clear hO1 hg1 hat1)
  go_end0
  exact ⟨rfl, HF.out⟩
theorem Wrote.of_ext {p mp : Nat} {v : Value} {N1 : Nat} {b1 : List UInt8} {f1 : Rests} {w w1 w2 : World} (hE : Ext w w1) (h : Wrote p mp v N1 b1 f1 w1 w2) : Wrote p mp v N1 b1 f1 w w2 := by
  obtain ⟨v', h2, h3⟩ := h; exact ⟨v', h2, (Stp.of_ext hE).trans h3⟩
/-- Writer.Num. -/
theorem wname_Num (p mp : Nat) (v : Value) (n size : Int) (N : Nat) (b : List UInt8) (f : Rests) (w : World) (hW : WrP w p mp v N b f) (hl : b.length ≤ 140737488355000) :
    Calls Try.prog 116 #[.pointer (some ⟨p, 0, none⟩), .int .i64 n, .int .i64 size] w fun e w' => e = .returned (.tuple #[]) ∧ Wrote p mp v N (b ++ putN [] n size) f w w' := by
  have HW := Lib.hid hW
  have hlen : (putN [] n size).length ≤ 7 := by
    cases hf : fits n size with
    | true => have := fits_bound n size hf; rw [putN_yes hf, be_length]; omega
    | false => rw [putN_no hf]; simp
  have HL : Hid ((b.length + (putN [] n size).length) * 1 ≤ 140737488355328) := Lib.hid (by omega)
  clear hW hl hlen
  go_enter Try.func116, Try.ntmps116
  go_wp2_with fail
  refine (num_Put_nil n size w).mono ?_
  rintro e w1 ⟨v1, rfl, hO, hE⟩
  have HC := Lib.hid (wname_Raw p mp v v1 N b _ f w1 (HW.out.ext hE) hO.fl HL.out)
  obtain ⟨A1, n1, c1, rfl⟩ := own_sl hO
  have HE := Lib.hid hE
  clear hO hE
  go_wp2_with fail
  refine (HC.out).mono ?_
  rintro e w2 ⟨rfl, hF⟩
  go_wp2
  go_end0
  exact ⟨rfl, hF.of_ext HE.out⟩
/-- Writer.Len. -/
theorem wname_Len (p mp : Nat) (v : Value) (N : Nat) (b : List UInt8) (f : Rests) (w : World) (hW : WrP w p mp v N b f) :
    Calls Try.prog 65 #[.pointer (some ⟨p, 0, none⟩)] w fun e w' => e = .returned (.int .i64 b.length) ∧ w = w' := by
  obtain ⟨c0, c1, cf⟩ := hW.cells
  obtain ⟨A, c, rfl⟩ := hW.slice
  clear hW
  go_enter Try.func65, Try.ntmps65
  go_wp2
  go_ret
  exact ⟨rfl, rfl⟩
/-- Writer.Bytes. -/
theorem wname_Bytes (p mp : Nat) (v : Value) (N : Nat) (b : List UInt8) (f : Rests) (w : World) (hW : WrP w p mp v N b f) (hl : b.length * 1 ≤ 140737488355328) :
    Calls Try.prog 63 #[.pointer (some ⟨p, 0, none⟩)] w (NewL vByte 5 w b) := by
  obtain ⟨c0, c1, cf⟩ := hW.cells
  have HC := Lib.hid (clone_B v b w hW.row.fl hl)
  obtain ⟨A, c, rfl⟩ := hW.slice
  clear hW
  go_enter Try.func63, Try.ntmps63
  go_wp2_with fail
  refine (HC.out).mono ?_
  rintro e w1 ⟨v1, rfl, hO, hE⟩
  go_wp2
  go_ret
  exact newL_mk rfl hO hE
/-- wname.New. -/
theorem wname_New (w : World) : Calls Try.prog 56 #[] w fun e w' => e = .returned (.pointer (some ⟨w.heap.size + 1, 0, none⟩)) ∧ WrP w' (w.heap.size + 1) w.heap.size (.slice none 0 0) 0 [] (fun _ => none) ∧ Ext w w' := by
  have hmm := @run_makeMap Try.prog
  have hb : ((w.alloc (.map #[] 0)).alloc (.cells #[.slice none 0 0, .map (some w.heap.size)] 139)).heap[w.heap.size + 1]? = some (.cells #[.slice none 0 0, .map (some w.heap.size)] 139 (0, 0)) := by
    have := heap_alloc_new (w.alloc (.map #[] 0)) (.cells #[.slice none 0 0, .map (some w.heap.size)] 139)
    simpa using this
  have HM : Hid (((w.alloc (.map #[] 0)).alloc (.cells #[.slice none 0 0, .map (some w.heap.size)] 139)).ownsMap (H := Unit) Try.prog 9 (plainElem Try.prog 3) w.heap.size 0 (.map [])) := Lib.hid ((World.ownsMap_made w Try.prog 9 (plainElem Try.prog 3)).alloc _)
  have HB := Lib.hid hb
  clear hb
  go_enter Try.func56, Try.ntmps56
  go_wp2
  go_ret
  exact ⟨rfl, ⟨HB.out, OwnL.nil _ _ _ _, _, HM.out, restsD_nil⟩, ((Ext.refl w).alloc _).alloc _⟩
end Go.Proofs.Ytfnelkcllaaebaa
end
section
/- Contract of wname.rest. No condition but that the slice reads as a list, and the labels' sizes. -/
open Go.RowKit
set_option linter.unusedVariables false
set_option linter.unusedSimpArgs false
namespace Go.Proofs.Ytfnelkcllaaebaa
theorem wire_snoc {n : List Str} {k : Nat} {x : Str} (hx : n[k]? = some x) : wire (n.take (k + 1)) = wire (n.take k) ++ (UInt8.ofNat x.size :: bs x) := by
  rw [List.take_add_one, hx]; simp [wire]
theorem wire_len : ∀ n : List Str, (wire n).length + 1 = nsize n := by
  intro n
  induction n with
  | nil => rfl
  | cons x n ih => simp only [wire, List.map_cons, List.flatten_cons, List.cons_append, List.length_cons, List.length_append, bs_length, nsize] at ih ⊢; omega
theorem info5 : (Try.prog.info? 5).map (fun i => (i.zero, i.size, i.bytes)) = some (some (.int .u8 0), 1, 1) := by kernel_rfl
section
variable {ops : Array Oper} {rest : List Oper} {o : Oper} {a : Act} {Q : Exit → Act → World → Prop}
/-- append(v, s...), s a string. -/
theorem wpList_appStr {W : World} (base : Nat) (hgd : o.guard = none) (sl x : Operand)
    (ho : o.op = .call { callee := .builtin .append, args := #[sl, x], argTypes := #[22, 9] })
    (v : Value) (l : List UInt8) (s : ByteArray) (hs : a.eval sl = v) (hx : a.eval x = .string s)
    (HO : OwnL vByte 5 W base v l) (hbase : base ≤ W.heap.size) (hl : l.length + s.size ≤ 140737488355328)
    (h : ∀ v1 w1, OwnL vByte 5 w1 base v1 (l ++ bs s) → W.grownBy w1 v.ownBlock → wpList Try.prog ops Q rest (a.put o.dst v1) w1) :
    wpList Try.prog ops Q (o :: rest) a W := by
  obtain ⟨i0, hi, hzz⟩ := Option.map_eq_some_iff.1 info5
  simp only [Prod.mk.injEq] at hzz
  obtain ⟨hz0, hz1, hz2⟩ := hzz
  refine Lib.wpList_append_own_string W hgd sl x 22 9 ho base 5 i0 Try.underlying22 Try.underlying9 hi hz0 hz1 hz2 v l.length (l.map vByte) hs HO s hx (by simp only [maxLen]; omega) hl hbase ?_
  intro v1 w1 hown hg _
  exact h v1 w1 (by unfold OwnL; simpa [Lib.strCells, bs, bs_length] using hown) hg
end
set_option maxHeartbeats 400000 in
/-- wname.rest. -/
theorem wname_rest (n : List Str) (v : Value) (w : World) (hv : NameV w v n) (hn : goodL n) (hs : nsize n ≤ 255) :
    Calls Try.prog 115 #[v] w fun e w' => e = .returned (.string (ofB (wire n))) ∧ Ext w w' := by
  have HV := Lib.hid hv
  have HG := Lib.hid hn
  have hlen := nsize_ge n
  obtain ⟨A, c, rfl, h1, h2⟩ := hv.form
  clear hv hn
  go_enter Try.func115, Try.ntmps115
  go_wp2
  go_loopw [3, 5, 8] (fun out _ i wr => ∃ k : Nat, k ≤ n.length ∧ i = .int .i64 k ∧ OwnL vByte 5 wr w.heap.size out (wire (n.take k)) ∧ Ext w wr) (fun _ _ i _ => n.length - (intOf i).toNat)
  case atStart => exact ⟨0, by omega, rfl, OwnL.nil _ _ _ _, Ext.refl _⟩
  case round =>
    obtain ⟨k, hk, rfl, hO, hE⟩ := hrel
    by_cases hlt : k < n.length
    · obtain ⟨b, o, c1, e1, _, _, hc1⟩ := HV.out.opens (by omega)
      injection e1 with e1 e3 e4
      subst e1
      clear e3 e4
      have hx := List.getElem?_eq_getElem hlt
      have hcx := hE.cell (hc1 k _ hx)
      have hgx := HG.out _ (List.mem_of_getElem? hx)
      have HW := Lib.hid (wire_snoc hx)
      have hl1 : (wire (n.take k)).length ≤ 255 := by
        have := wire_len (n.take k); have := nsize_take_le n k; omega
      have HL1 : Hid (((wire (n.take k)).length + 1) * 1 ≤ 140737488355328) := Lib.hid (by omega)
      have HL2 : Hid ((wire (n.take k) ++ [UInt8.ofNat n[k].size]).length + n[k].size ≤ 140737488355328) := Lib.hid (by simp; omega)
      clear hc1 hx
      generalize n[k] = x at *
      generalize wire (n.take k) = L at *
      have HY : Hid (Value.int .u8 (x.size : Int) = vByte (UInt8.ofNat x.size)) := Lib.hid (by
        have : (UInt8.ofNat x.size).toNat = x.size % 256 := by simp
        unfold vByte
        rw [this]
        exact int_eq (by omega))
      have HO := Lib.hid hO
      have HSz := Lib.hid hE.size
      have HE := Lib.hid hE
      clear hO hl1
      go_wp2_with (first
        | (at_builtin; rw [HY.out]; refine wpList_app1 vByte w.heap.size rfl (.tmp 12) (.tmp 16) 22 5 (.int .u8 0) 1 rfl Try.underlying22 info5 rfl (by decide) u3 L (UInt8.ofNat x.size) rfl rfl rfl HO.out HSz.out HL1.out ?_; intro v1 w1 hO1 hg1; have HE1 := Lib.hid (grown_trans_ext HE.out HO.out (Nat.le_refl _) hg1); have HO1 := Lib.hid hO1; clear hO1 hg1)
        | (at_builtin; refine wpList_appStr w.heap.size rfl (.tmp 18) (.tmp 19) rfl v1 _ x rfl rfl HO1.out HE1.out.size HL2.out ?_; intro v2 w2 hO2 hg2; have HE2 := Lib.hid (grown_trans_ext HE1.out HO1.out (Nat.le_refl _) hg2); have HO2 := Lib.hid hO2; clear hO2 hg2))
      go_roundw
      case rel => exact ⟨k + 1, by omega, by go_num, by rw [HW.out]; have := HO2.out; rwa [List.append_assoc] at this, HE2.out⟩
      case measure => simp [intOf]; omega
    · rw [List.take_of_length_le (by omega)] at hO
      have HO := Lib.hid hO
      have hcv := conv_string hO.fl
      change _ = Result.ok (Value.string (ofB (wire n))) wr at hcv
      obtain ⟨S, hS⟩ : ∃ S, ofB (wire n) = S := ⟨_, rfl⟩
      rw [hS] at hcv
      have HS := Lib.hid hS
      clear hS
      obtain ⟨A3, n3, c3, rfl⟩ := own_sl HO.out
      clear hO
      go_wp2
      go_ret
      exact ⟨by rw [HS.out]; rfl, hE⟩
end Go.Proofs.Ytfnelkcllaaebaa
end
section
/- Contract of the writer's Name. No condition but that the writer stands in memory, a sound name that its steps leave alone, and room. -/
open Go.RowKit
set_option linter.unusedVariables false
set_option linter.unusedSimpArgs false
namespace Go.Proofs.Ytfnelkcllaaebaa
/-- It holds wherever no block but S's has turned. -/
def Stb (S : Nat → Prop) (w : World) (R : World → Prop) : Prop := ∀ w', Kp S w w' → R w'
theorem Stb.here {S : Nat → Prop} {w : World} {R : World → Prop} (h : Stb S w R) : R w := h w (Kp.refl _ _)
theorem Stb.step {S S' : Nat → Prop} {w w' : World} {R : World → Prop} (h : Stb S w R) (hs : Stp S w S' w') : Stb S' w' R := fun w'' hk => h w'' (hs.1.trans' hk hs.2)
theorem Stb.of_old {S : Nat → Prop} {w0 w : World} {R : World → Prop} (hR : ∀ w', Ext w0 w' → R w') (hE : Ext w0 w) (hS : ∀ k, S k → w0.heap.size ≤ k) : Stb S w R := fun w' hk =>
  hR w' ((Kp.trans' (S := fun _ => False) (Kp.of_ext hE) hk (fun k h => .inr (hS k h))).to_ext (fun _ _ h => h))
section
variable {P : Program} {ops : Array Oper} {o : Oper} {a : Act} {K : Act → World → Prop} {Q : Exit → Act → World → Prop} {E : Prop}
open Go.Maps (Keyed)
end
theorem note_same {p : Nat} {f : Rests} {n : List Str} (h : f n ≠ none ∨ 16384 ≤ p) : note p f n = f := by
  funext x
  unfold note
  split
  · rename_i hx
    rcases h with h | h
    · rw [hx.1]
      cases hf : f n with
      | none => exact absurd hf h
      | some k => rfl
    · omega
  · rfl
section
variable {b : List UInt8} {f : Rests} {x : Str} {n : List Str} {short : Bool}
theorem name_hit {j : Nat} (h : f (x :: n) = some j) : (Wt.name (x :: n) true).bytes b f = b ++ putN [] (49152 + (j : Int)) 2 ∧ (Wt.name (x :: n) true).rests b f = f := by
  simp only [Wt.bytes, Wt.rests, Wt.name, if_true, h]; exact ⟨trivial, trivial⟩
theorem name_miss (h : short = false ∨ f (x :: n) = none) : (Wt.name (x :: n) short).bytes b f = (Wt.name n short).bytes (b ++ putN [] (x.size : Int) 1 ++ bs x) (note b.length f (x :: n)) ∧
    (Wt.name (x :: n) short).rests b f = (Wt.name n short).rests (b ++ putN [] (x.size : Int) 1 ++ bs x) (note b.length f (x :: n)) := by
  have h0 : (if short then f (x :: n) else none) = none := by
    rcases h with h | h
    · rw [h]; rfl
    · rw [h]; cases short <;> rfl
  simp [Wt.bytes, Wt.rests, Wt.name, h0, Wt.seq, Wt.num, Wt.raw, Nat.add_assoc]
theorem name_end : (Wt.name [] short).bytes b f = b ++ putN [] 0 1 ∧ (Wt.name [] short).rests b f = f := ⟨rfl, rfl⟩
end
theorem wr_note {w w' : World} {p mp : Nat} {v : Value} {N : Nat} {b : List UInt8} {f : Rests} {D : DataW Unit} {n : List Str} (hW : WrP w p mp v N b f) (hD : RestsD D f) (hn : goodL n) (hf : f n = none) (hb : b.length < 16384)
    (hm : w'.ownsMap Try.prog 9 (plainElem Try.prog 3) mp (N + 1) (D.put (.string (wire n)) (.lit (.int .i64 (b.length : Int))))) (hg : w.grownBy w' (some mp)) :
    WrP w' p mp v (N + 1) b (note b.length f n) ∧ Stp (Sof p mp v) w (Sof p mp v) w' := by
  refine ⟨⟨(hg.block p (hW.lt p (.inl rfl)) (fun e => by injection e with e; exact hW.ne_map e)).trans hW.box, ?_, _, hm, restsD_put hD hn hf hb⟩, ?_, fun k h => .inl h⟩
  · exact World.ownsRow.kept hW.row hg (.inr hW.map_ne_row)
  · exact (Kp.refl _ w).grown hg (fun k hk => by injection hk with hk; exact .inl (.inr (.inl hk.symm)))
theorem zero3 (w : World) : (zeroValue 3).run Try.prog w = .ok (.int .i64 0) w := by kernel_rfl
theorem key_wire {n : List Str} (h : nsize n ≤ 255) : keyOf Try.prog 9 (.string (ofB (wire n))) = some (.string (wire n)) :=
  Go.WideMaps.keyOf_string_mk Try.underlying9 (by have := wire_len n; rw [ofB_size]; simp [maxLen]; omega)
theorem or_ptr (j : Nat) (h : j < 16384) : bits .or .i64 49152 (j : Int) = 49152 + (j : Int) := or_join 14 _ _ (by omega) (by decide) (by omega) (by omega) (by omega) (by omega)
theorem or_hit {j : Nat} {c : Int} {d : DataW Unit} (h : j < 16384) (h1 : d = .lit (.int .i64 (j : Int))) (h2 : d = .lit (.int .i64 c)) : bits .or .i64 49152 c = 49152 + (j : Int) := by
  rw [h1] at h2
  injection h2 with h2
  injection h2 with _ h2
  rw [← h2]; exact or_ptr j h
set_option maxRecDepth 100000 in
set_option maxHeartbeats 1000000 in
/-- Writer.Name of a sound name. -/
theorem wname_Name (p mp : Nat) (v vn : Value) (n : List Str) (short : Bool) (N : Nat) (b : List UInt8) (f : Rests) (w : World) (hW : WrP w p mp v N b f) (hNb : N ≤ b.length) (hn : Stb (Sof p mp v) w fun w' => NameV w' vn n) (hs : nsound n = true) (hb : b.length ≤ 140737488353000) :
    Calls Try.prog 58 #[.pointer (some ⟨p, 0, none⟩), vn, .bool short] w fun e w' => e = .returned (.int .i64 0) ∧ ∃ N', N' ≤ ((Wt.name n short).bytes b f).length ∧ Wrote p mp v N' ((Wt.name n short).bytes b f) ((Wt.name n short).rests b f) w w' := by
  have HN := Lib.hid hn
  have HW := Lib.hid hW
  have hs' := hs
  unfold nsound at hs'
  rw [decide_eq_true_eq] at hs'
  obtain ⟨hg, h255⟩ := hs'
  have HG := Lib.hid hg
  have hlen := nsize_ge n
  have fa : Fits n := fun l hl => by have := hg l hl; unfold maxI; omega
  have HC := Lib.hid (name_Sound vn n w hn.here fa)
  rw [hs] at HC
  obtain ⟨An, cn, rfl, n1, n2⟩ := hn.here.form
  obtain ⟨B0, hB0⟩ : ∃ B0, (Wt.name n short).bytes b f = B0 := ⟨_, rfl⟩
  obtain ⟨F0, hF0⟩ : ∃ F0, (Wt.name n short).rests b f = F0 := ⟨_, rfl⟩
  rw [hB0, hF0]
  have HB0 := Lib.hid hB0
  have HF0 := Lib.hid hF0
  have HNb0 := Lib.hid hNb
  clear hn hs hg hW fa hB0 hF0
  go_enter Try.func58, Try.ntmps58
  go_wp2_with fail
  refine (HC.out).mono ?_
  rintro e w1 ⟨rfl, hE1⟩
  have HW1 := Lib.hid (HW.out.ext hE1)
  have HS1 := Lib.hid (Stp.of_ext (S := Sof p mp v) hE1)
  clear hE1
  go_wp2
  go_loopw [6, 7, 8, 9, 10, 11, 21] (fun _ _ _ _ _ _ i wr => ∃ (k : Nat) (vc : Value) (Nc : Nat) (B : List UInt8) (F : Rests), k ≤ n.length ∧ i = .int .i64 k ∧ WrP wr p mp vc Nc B F ∧ Stp (Sof p mp v) w (Sof p mp vc) wr ∧ Hid ((Wt.name (n.drop k) short).bytes B F = B0) ∧ Hid ((Wt.name (n.drop k) short).rests B F = F0) ∧ Nc ≤ B.length ∧ B.length + nsize (n.drop k) ≤ b.length + nsize n) (fun _ _ _ _ _ _ i _ => n.length - (intOf i).toNat)
  case atStart => exact ⟨0, v, N, b, f, by omega, rfl, HW1.out, HS1.out, HB0.out, HF0.out, hNb, by simp⟩
  case round =>
    obtain ⟨k, vc, Nc, B, F, hk, rfl, hW, hS, HBf, HRf, hNb, hBl⟩ := hrel
    have HNb := Lib.hid hNb
    have HBd := Lib.hid hBl
    have HBn : Hid (B.length ≤ 140737488353300) := Lib.hid (by omega)
    clear hNb hBl
    by_cases hlt : k < n.length
    · have HNr := Lib.hid (HN.out wr hS.1)
      obtain ⟨b1, o1, c1, e1, _, _, hc1⟩ := HNr.out.opens (by omega)
      injection e1 with e1 e3 e4
      subst e1
      clear e3 e4
      have hx := List.getElem?_eq_getElem hlt
      have hcx := hc1 k _ hx
      have hgx := HG.out _ (List.mem_of_getElem? hx)
      have hdr := List.drop_eq_getElem_cons hlt
      rw [hdr] at HBf HRf HBd
      obtain ⟨vs, hsl, hvs⟩ := cut_l elem23 size23 HNr.out (k : Int) (by omega) (by omega)
      rw [Int.toNat_natCast, hdr] at hvs
      have hgr : goodL (n[k] :: n.drop (k + 1)) := fun l hl => HG.out l (by rw [← hdr] at hl; exact List.mem_of_mem_drop hl)
      have hsr : nsize (n[k] :: n.drop (k + 1)) ≤ 255 := by
        have := nsize_append (n.take k) (n[k] :: n.drop (k + 1))
        rw [← hdr, List.take_append_drop] at this
        rw [← hdr]
        have := nsize_ge (n.take k)
        omega
      have HCr := Lib.hid (wname_rest _ vs wr hvs hgr hsr)
      have HKey := Lib.hid (key_wire hsr)
      have HNs : Hid (nsize (n[k] :: n.drop (k + 1)) = n[k].size + 1 + nsize (n.drop (k + 1))) := Lib.hid rfl
      obtain ⟨As, ns, cs, rfl⟩ : ∃ As ns cs, vs = .slice As ns cs := by obtain ⟨A, c, h, _⟩ := hvs.form; exact ⟨_, _, _, h⟩
      have HGr := Lib.hid hgr
      have HLn : Hid ((putN [] (n[k].size : Int) 1).length = 1) := Lib.hid (by rw [put1 _ (by omega)]; rfl)
      clear hc1 hx hvs hgr hsr hdr
      generalize n[k] = x at *
      generalize hrem : n.drop (k + 1) = rem at *
      have HRem := Lib.hid hrem
      clear hrem
      have HWr := Lib.hid hW
      have HS := Lib.hid hS
      obtain ⟨Av, cv, rfl⟩ := hW.slice
      clear hW hS
      go_wp2_with fail
      refine (HCr.out).mono ?_
      rintro e w2 ⟨rfl, hE2⟩
      have HW2 := Lib.hid (HWr.out.ext hE2)
      have HS2 := Lib.hid (HS.out.ext hE2)
      clear hE2
      obtain ⟨q0, q1, qf⟩ := HW2.out.cells
      obtain ⟨D, hown, hD⟩ := HW2.out.map
      have HOw := Lib.hid hown
      have HD := Lib.hid hD
      have hat0 := hD.at_ _ HGr.out
      clear hown hD
      cases hfr : F (x :: rem) with
      | none =>
        rw [hfr] at hat0
        have HAT : Hid (Go.Maps.has D (.string (wire (x :: rem))) = false) := Lib.hid hat0
        have HFr := Lib.hid hfr
        have HM := Lib.hid (name_miss (b := B) (f := F) (short := short) (.inr hfr))
        clear hat0 hfr
        by_cases h16 : B.length < 16384
        · go_wp2_with (at_lookup; go_must (refine wpList_lookup_own_ok_int _ rfl _ _ 137 rfl 9 3 .i64 (Go.Maps.string_keyed Try.underlying9) Try.underlying137 Try.underlying3 (zero3 _) mp Nc D rfl HOw.out _ _ rfl HKey.out ?_); intro c hat hwc; rw [HAT.out]; clear hat hwc)
          obtain ⟨w5, hrun, hown5, hg5⟩ := World.ownsMap.update (HOw.out.drew) (Go.Maps.string_keyed Try.underlying9) Try.underlying137 (by have := HNb.out; simp only [maxLen]; omega) HKey.out (plainElem_int Try.underlying3 (a := (B.length : Int)) (WalkArith.wf_i64 (by omega)))
          have HN5 := Lib.hid (wr_note (HW2.out.ext (Ext.refl w2).drew) HD.out HGr.out HFr.out h16 hown5 hg5)
          clear hown5 hg5
          go_region_held3 (fun W => W.cell? ⟨p, 0, none⟩ = some (.slice Av B.length cv) ∧ W.cell? ⟨p, 1, none⟩ = some (.map (some mp)))
            (first | go_keep | exact ⟨HN5.out.1.cells.1, HN5.out.1.cells.2.1⟩) (fail)
          clear hrun
          have HS1 := Lib.hid ((HS2.out.ext (Ext.refl w2).drew).trans HN5.out.2)
          clear q0 q1 qf h16
          go_wp2_with fail
          refine (wname_Num p mp _ (x.size : Int) 1 (Nc + 1) B (note B.length F (x :: rem)) w5 HN5.out.1 (by have := HBn.out; omega)).mono ?_
          rintro e w2 ⟨rfl, v2, hW2, hs2⟩
          have HW2 := Lib.hid hW2
          have HS2 := Lib.hid (HS1.out.trans hs2)
          clear hW2 hs2
          have kb := fun w => Lib.run_convert_string_bytes (P := Try.prog) w 9 22 5 x Try.underlying9 Try.underlying22 Try.underlying5
          have hcm := grownCap_le_maxLen w2 x.size 0 5 (by simp [maxLen]; omega)
          have hcg := grownCap_ge w2 x.size 0 5
          have HY := Lib.hid ((blk_bytes w2 x).fl x.size (grownCap w2 x.size 0 5) (bs_length x) hcg (by simpa [maxLen] using hcm))
          have HE3 := Lib.hid (ext_bytes w2 x)
          clear hcm hcg
          go_wp2_with fail
          generalize Lib.bytesWorld w2 5 x = w3 at *
          generalize grownCap w2 x.size 0 5 = cg at *
          refine (wname_Raw p mp _ _ (Nc + 1) _ (bs x) (note B.length F (x :: rem)) w3 (HW2.out.ext HE3.out) HY.out (by have := HBn.out; have := HLn.out; rw [List.length_append, bs_length]; omega)).mono ?_
          rintro e w4 ⟨rfl, v4, hW4, hs4⟩
          have HW4 := Lib.hid hW4
          have HS4 := Lib.hid ((HS2.out.ext HE3.out).trans hs4)
          clear hW4 hs4
          go_wp2
          go_roundw
          case rel => exact ⟨k + 1, v4, (Nc + 1), _, _, by omega, by go_num, HW4.out, HS4.out, Lib.hid (by rw [HRem.out]; exact HM.out.1.symm.trans HBf.out), Lib.hid (by rw [HRem.out]; exact HM.out.2.symm.trans HRf.out), by rw [List.length_append, List.length_append, HLn.out, bs_length]; have := HNb.out; omega, by rw [List.length_append, List.length_append, HLn.out, bs_length, HRem.out]; have := HBd.out; have := HNs.out; omega⟩
          case measure => simp [intOf]; omega
        · go_wp2_with (at_lookup; go_must (refine wpList_lookup_own_ok_int _ rfl _ _ 137 rfl 9 3 .i64 (Go.Maps.string_keyed Try.underlying9) Try.underlying137 Try.underlying3 (zero3 _) mp Nc D rfl HOw.out _ _ rfl HKey.out ?_); intro c hat hwc; rw [HAT.out]; clear hat hwc)
          rw [note_same (.inr (by omega))] at HM
          have HS1 := Lib.hid (HS2.out)
          clear q0 q1 qf h16
          go_wp2_with fail
          refine (wname_Num p mp _ (x.size : Int) 1 Nc B F w2 HW2.out (by have := HBn.out; omega)).mono ?_
          rintro e w2 ⟨rfl, v2, hW2, hs2⟩
          have HW2 := Lib.hid hW2
          have HS2 := Lib.hid (HS1.out.trans hs2)
          clear hW2 hs2
          have kb := fun w => Lib.run_convert_string_bytes (P := Try.prog) w 9 22 5 x Try.underlying9 Try.underlying22 Try.underlying5
          have hcm := grownCap_le_maxLen w2 x.size 0 5 (by simp [maxLen]; omega)
          have hcg := grownCap_ge w2 x.size 0 5
          have HY := Lib.hid ((blk_bytes w2 x).fl x.size (grownCap w2 x.size 0 5) (bs_length x) hcg (by simpa [maxLen] using hcm))
          have HE3 := Lib.hid (ext_bytes w2 x)
          clear hcm hcg
          go_wp2_with fail
          generalize Lib.bytesWorld w2 5 x = w3 at *
          generalize grownCap w2 x.size 0 5 = cg at *
          refine (wname_Raw p mp _ _ Nc _ (bs x) F w3 (HW2.out.ext HE3.out) HY.out (by have := HBn.out; have := HLn.out; rw [List.length_append, bs_length]; omega)).mono ?_
          rintro e w4 ⟨rfl, v4, hW4, hs4⟩
          have HW4 := Lib.hid hW4
          have HS4 := Lib.hid ((HS2.out.ext HE3.out).trans hs4)
          clear hW4 hs4
          go_wp2
          go_roundw
          case rel => exact ⟨k + 1, v4, Nc, _, _, by omega, by go_num, HW4.out, HS4.out, Lib.hid (by rw [HRem.out]; exact HM.out.1.symm.trans HBf.out), Lib.hid (by rw [HRem.out]; exact HM.out.2.symm.trans HRf.out), by rw [List.length_append, List.length_append, HLn.out, bs_length]; have := HNb.out; omega, by rw [List.length_append, List.length_append, HLn.out, bs_length, HRem.out]; have := HBd.out; have := HNs.out; omega⟩
          case measure => simp [intOf]; omega
      | some j =>
        rw [hfr] at hat0
        have HAT : Hid (Go.Maps.has D (.string (wire (x :: rem))) = true ∧ D.atKey (.string (wire (x :: rem))) (.lit (.int .i64 0)) = .lit (.int .i64 (j : Int))) := Lib.hid hat0
        have HFr := Lib.hid hfr
        have hj := HD.out.small _ _ hfr
        clear hat0 hfr
        cases short with
        | true =>
          have HM := Lib.hid (name_hit (b := B) HFr.out)
          go_wp2_with (at_lookup; go_must (refine wpList_lookup_own_ok_int _ rfl _ _ 137 rfl 9 3 .i64 (Go.Maps.string_keyed Try.underlying9) Try.underlying137 Try.underlying3 (zero3 _) mp Nc D rfl HOw.out _ _ rfl HKey.out ?_); intro c hat hwc; rw [HAT.out.1]; have hor := or_hit hj HAT.out.2 hat; clear hat hwc)
          clear q0 q1 qf
          go_wp2_with fail
          refine (wname_Num p mp _ (49152 + (j : Int)) 2 Nc B F w2 HW2.out (by have := HBn.out; omega)).mono ?_
          rintro e w3 ⟨rfl, v3, hW3, hs3⟩
          have HW3 := Lib.hid hW3
          have HS3 := Lib.hid (HS2.out.trans hs3)
          clear hW3 hs3
          go_wp2
          go_ret
          have e1 : B ++ putN [] (49152 + (j : Int)) 2 = B0 := HM.out.1.symm.trans HBf.out
          have e2 : F = F0 := HM.out.2.symm.trans HRf.out
          rw [← e1, ← e2]
          exact ⟨rfl, Nc, by rw [List.length_append]; have := HNb.out; omega, v3, HW3.out, HS3.out⟩
        | false =>
          have HM := Lib.hid (name_miss (b := B) (f := F) (x := x) (n := rem) (short := false) (.inl rfl))
          rw [note_same (.inl (by rw [HFr.out]; simp))] at HM
          go_wp2_with (at_lookup; go_must (refine wpList_lookup_own_ok_int _ rfl _ _ 137 rfl 9 3 .i64 (Go.Maps.string_keyed Try.underlying9) Try.underlying137 Try.underlying3 (zero3 _) mp Nc D rfl HOw.out _ _ rfl HKey.out ?_); intro c hat hwc; rw [HAT.out.1]; have hor := or_hit hj HAT.out.2 hat; clear hat hwc)
          have HS1 := Lib.hid (HS2.out)
          clear q0 q1 qf
          go_wp2_with fail
          refine (wname_Num p mp _ (x.size : Int) 1 Nc B F w2 HW2.out (by have := HBn.out; omega)).mono ?_
          rintro e w2 ⟨rfl, v2, hW2, hs2⟩
          have HW2 := Lib.hid hW2
          have HS2 := Lib.hid (HS1.out.trans hs2)
          clear hW2 hs2
          have kb := fun w => Lib.run_convert_string_bytes (P := Try.prog) w 9 22 5 x Try.underlying9 Try.underlying22 Try.underlying5
          have hcm := grownCap_le_maxLen w2 x.size 0 5 (by simp [maxLen]; omega)
          have hcg := grownCap_ge w2 x.size 0 5
          have HY := Lib.hid ((blk_bytes w2 x).fl x.size (grownCap w2 x.size 0 5) (bs_length x) hcg (by simpa [maxLen] using hcm))
          have HE3 := Lib.hid (ext_bytes w2 x)
          clear hcm hcg
          go_wp2_with fail
          generalize Lib.bytesWorld w2 5 x = w3 at *
          generalize grownCap w2 x.size 0 5 = cg at *
          refine (wname_Raw p mp _ _ Nc _ (bs x) F w3 (HW2.out.ext HE3.out) HY.out (by have := HBn.out; have := HLn.out; rw [List.length_append, bs_length]; omega)).mono ?_
          rintro e w4 ⟨rfl, v4, hW4, hs4⟩
          have HW4 := Lib.hid hW4
          have HS4 := Lib.hid ((HS2.out.ext HE3.out).trans hs4)
          clear hW4 hs4
          go_wp2
          go_roundw
          case rel => exact ⟨k + 1, v4, Nc, _, _, by omega, by go_num, HW4.out, HS4.out, Lib.hid (by rw [HRem.out]; exact HM.out.1.symm.trans HBf.out), Lib.hid (by rw [HRem.out]; exact HM.out.2.symm.trans HRf.out), by rw [List.length_append, List.length_append, HLn.out, bs_length]; have := HNb.out; omega, by rw [List.length_append, List.length_append, HLn.out, bs_length, HRem.out]; have := HBd.out; have := HNs.out; omega⟩
          case measure => simp [intOf]; omega
    · have HX : Hid (n.drop k = []) := Lib.hid (List.drop_of_length_le (by omega))
      rw [HX.out] at HBf HRf HBd
      have HW2 := Lib.hid hW
      have HS2 := Lib.hid hS
      clear hW hS
      go_wp2_with fail
      refine (wname_Num p mp _ 0 1 Nc B F wr HW2.out (by have := HBn.out; omega)).mono ?_
      rintro e w3 ⟨rfl, v3, hW3, hs3⟩
      have HW3 := Lib.hid hW3
      have HS3 := Lib.hid (HS2.out.trans hs3)
      clear hW3 hs3
      go_wp2
      go_ret
      have e1 : B ++ putN [] 0 1 = B0 := name_end.1.symm.trans HBf.out
      have e2 : F = F0 := name_end.2.symm.trans HRf.out
      rw [← e1, ← e2]
      exact ⟨rfl, Nc, by rw [List.length_append]; have := HNb.out; omega, v3, HW3.out, HS3.out⟩
end Go.Proofs.Ytfnelkcllaaebaa
end
section
/- Contract of the writer's Set, where the number fits and the place is there. No condition but that the writer stands in memory. -/
open Go.RowKit
set_option linter.unusedVariables false
set_option linter.unusedSimpArgs false
namespace Go.Proofs.Ytfnelkcllaaebaa
section
variable {P : Program} {ops : Array Oper} {o : Oper} {a : Act} {K : Act → World → Prop} {Q : Exit → Act → World → Prop} {E : Prop}
theorem step_copyR {w : World} (hgd : o.guard = none) (d s : Operand) (dT sT : TypeId)
    (ho : o.op = .call { callee := .builtin .copy, args := #[d, s], argTypes := #[dT, sT] }) (elem : TypeId) (hu : P.underlying dT = some (.slice elem)) (hsz : (P.info? elem).map (·.size) = some 1)
    (g off dLen dCap : Nat) (ad : Addr) (sLen sCap : Nat) (hd : a.eval d = .slice (some ⟨g, off, none⟩) dLen dCap) (hs : a.eval s = .slice (some ad) sLen sCap)
    (cur : Array Value) (t : TypeId) (hg : w.heap[g]? = some (.cells cur t (0, 0))) (cs : List Value) (hn : cs.length = Nat.min sLen dLen)
    (hsrc : ∀ j v, cs[j]? = some v → w.cell? (ad.add j) = some v) (hfit : off + cs.length ≤ cur.size) (h1 : ∀ v ∈ cs, v.oneCell' = true)
    (h : K (a.put o.dst (goInt cs.length)) (w.setRow g (cur.toList.take off ++ (cs ++ cur.toList.drop (off + cs.length))).toArray)) :
    if Region.wanted o (yielded ops a.tmps) = true then Oper.wp P o a w K Q else E := by
  have hw : Region.wanted o (yielded ops a.tmps) = true := by simp [Region.wanted, hgd]
  rw [if_pos hw]
  have hrun := run_copy_row (P := P) w dT sT o.type elem g off dLen dCap ad sLen sCap cur t cs hu hsz hg hn hsrc hfit h1
  unfold Oper.wp
  simp [execOp, ho, resolve, invoke, builtin, hd, hs, hrun, Result.andThen]
  exact h
end
theorem splice_take {α : Type} (B R Y : List α) (k : Nat) (h : k + Y.length ≤ B.length) : ((B ++ R).take k ++ (Y ++ (B ++ R).drop (k + Y.length))).take B.length = B.take k ++ Y ++ B.drop (k + Y.length) := by
  have h1 : (B ++ R).take k = B.take k := List.take_append_of_le_length (by omega)
  have h2 : (B ++ R).drop (k + Y.length) = B.drop (k + Y.length) ++ R := List.drop_append_of_le_length (by omega)
  rw [h1, h2]
  have h3 : B.take k ++ (Y ++ (B.drop (k + Y.length) ++ R)) = (B.take k ++ Y ++ B.drop (k + Y.length)) ++ R := by simp
  rw [h3, List.take_left']
  simp; omega
theorem wr_set {w : World} {p mp g n cap at_ : Nat} {N : Nat} {b ys : List UInt8} {f : Rests} (hW : WrP w p mp (.slice (some ⟨g, 0, none⟩) n cap) N b f) (hl : at_ + ys.length ≤ b.length) :
    ∃ cur, w.heap[g]? = some (.cells cur 5 (0, 0)) ∧ at_ + ys.length ≤ cur.size ∧ n = b.length ∧ n ≤ cap ∧
      WrP (w.setRow g (cur.toList.take at_ ++ (ys.map vByte ++ cur.toList.drop (at_ + (ys.map vByte).length))).toArray) p mp (.slice (some ⟨g, 0, none⟩) n cap) N (b.take at_ ++ ys ++ b.drop (at_ + ys.length)) f ∧
      Stp (Sof p mp (.slice (some ⟨g, 0, none⟩) n cap)) w (Sof p mp (.slice (some ⟨g, 0, none⟩) n cap)) (w.setRow g (cur.toList.take at_ ++ (ys.map vByte ++ cur.toList.drop (at_ + (ys.map vByte).length))).toArray) := by
  have hr := hW.row
  rcases hr.2 with ⟨h, _⟩ | ⟨g', cap', cur, e, hb, hg, hnc, hcm, hcs, htk⟩
  · cases h
  · injection e with e1 e2 e3
    injection e1 with e1
    injection e1 with e1 _ _
    subst e1 e2 e3
    have hbl : b.length ≤ cur.size := by rw [hcs]; omega
    have hpg : p ≠ g := fun e => hW.ne_row (by rw [e]; rfl)
    have hmg : mp ≠ g := fun e => hW.map_ne_row (by rw [e]; rfl)
    have hnb : (b.take at_ ++ ys ++ b.drop (at_ + ys.length)).length = b.length := by simp; omega
    refine ⟨cur, hg, by omega, rfl, hnc, ⟨?_, ?_, ?_⟩, ⟨rfl, rfl, rfl, by simp [World.setRow], fun k hk hn => ?_⟩, fun k h => .inl h⟩
    · exact (setRow_other w g p _ (fun e => hpg e)).trans hW.box
    · unfold OwnL
      rw [hnb]
      refine ⟨by rw [List.length_map, hnb, Nat.mul_one], .inr ⟨g, cap, _, rfl, Nat.zero_le _, setRow_heap w g _ _ 5 _ hg, hnc, hcm, ?_, ?_⟩⟩
      · simp only [List.size_toArray, List.length_append, List.length_take, List.length_map, List.length_drop, Array.length_toList]
        omega
      · have htk' : cur.toList.take b.length = b.map vByte := by rw [← htk, Nat.mul_one]
        have hc : cur.toList = b.map vByte ++ cur.toList.drop b.length := by rw [← htk', List.take_append_drop]
        rw [Nat.mul_one, List.toList_toArray, hc]
        have := splice_take (b.map vByte) (cur.toList.drop b.length) (ys.map vByte) at_ (by simp; omega)
        rw [List.length_map] at this
        rw [this]
        simp [List.map_take, List.map_drop]
    · obtain ⟨D, ⟨es, cl, h1, h2⟩, h3⟩ := hW.map
      exact ⟨D, ⟨es, cl, (setRow_other w g mp _ (fun e => hmg e)).trans h1, h2⟩, h3⟩
    · exact setRow_other w g k _ (fun e => hn (.inr (.inr (by rw [e]; rfl))))
theorem slice_from (g n c k : Nat) (h : k < c) (hn : k ≤ n) (W : World) : (Instr.slice 22 (.slice (some ⟨g, 0, none⟩) n c) (some (.int .i64 (k : Int))) none none).run Try.prog W = .ok (.slice (some ⟨g, k, none⟩) (n - k) (c - k)) W := by
  rw [run_slice_l W 22 _ n c elem22 .i64 (k : Int) (by omega) (by omega), size22 W]
  have e : Go.sliced (some ⟨g, 0, none⟩) ((k : Int)).toNat n c 1 = .slice (some ⟨g, k, none⟩) (n - k) (c - k) := by
    unfold Go.sliced
    rw [Int.toNat_natCast, if_neg (by omega), Option.map_some, Nat.mul_one, add_flat, Nat.zero_add]
  rw [← e]; rfl
set_option maxRecDepth 100000 in
set_option maxHeartbeats 1000000 in
/-- Writer.Set of a number of two bytes. -/
theorem wname_Set (p mp k : Nat) (v : Value) (m : Int) (N : Nat) (b : List UInt8) (f : Rests) (w : World) (hW : WrP w p mp v N b f) (hf : fits m 2 = true) (hk : k + 2 ≤ b.length) (hb : b.length ≤ 140737488355328) :
    Calls Try.prog 125 #[.pointer (some ⟨p, 0, none⟩), .int .i64 (k : Int), .int .i64 m, .int .i64 2] w fun e w' => e = .returned (.int .i64 0) ∧ Wrote p mp v N (b.take k ++ putN [] m 2 ++ b.drop (k + 2)) f w w' := by
  obtain ⟨q0, q1, qf⟩ := hW.cells
  have HW := Lib.hid hW
  have hlen : (putN [] m 2).length = 2 := by rw [putN_yes hf, be_length]; rfl
  obtain ⟨A, c, rfl⟩ := hW.slice
  obtain ⟨g, rfl⟩ : ∃ g, A = some ⟨g, 0, none⟩ := by
    rcases hW.row.2 with ⟨h, h2⟩ | ⟨g, cap, cur, h, _⟩
    · omega
    · injection h with h _ _; exact ⟨g, h⟩
  obtain ⟨hcc, hcm⟩ : b.length ≤ c ∧ c ≤ maxI := by obtain ⟨A', c', e, h1, h2, _⟩ := hW.row.fl; injection e with _ _ e; subst e; exact ⟨h1, h2⟩
  have hsl := slice_from g b.length c k (by omega) (by omega)
  have HF := Lib.hid (num_Fits m 2)
  rw [hf] at HF
  have HC := Lib.hid (num_Put_nil m 2 w.drew)
  have HWd := Lib.hid (hW.ext (Ext.refl w).drew)
  have HL := Lib.hid hlen
  have hn0 : (putN [] m 2) ≠ [] := by intro h; rw [h] at hlen; simp at hlen
  have HN0 := Lib.hid hn0
  clear hW hf hn0 hlen
  generalize putN [] m 2 = Y at *
  unfold maxI at hcm
  have t1 : decide ((k : Int) < 0) = false := by rw [decide_eq_false_iff_not]; omega
  have t2 : decide ((b.length : Int) - (k : Int) < 2) = false := by rw [decide_eq_false_iff_not]; omega
  go_enter Try.func125, Try.ntmps125
  go_wp2_with (go_at_call 94; refine (HF.out _).mono ?_; rintro e w1 ⟨rfl, rfl⟩)
  go_region_held3 (fun W => W.cell? ⟨p, 0, none⟩ = some (.slice (some ⟨g, 0, none⟩) b.length c))
    (first | exact HK.out | exact HX.out.1.cells.1 | go_keep)
    ((first
      | (refine step_copyR (by rfl) (.tmp 46) (.tmp 49) 22 22 (by rfl) 5 Try.underlying22 (by kernel_rfl) g k (b.length - k) (c - k) ⟨b1, o1, none⟩ 2 c1 (by rfl) (by rfl) cur 5 HG.out.1 (Y.map vByte) HMN.out HSR.out HG.out.2 HONE.out ?_)
      | (go_at_call 152; refine (HC.out).mono ?_; rintro e w1 ⟨v1, rfl, hO1, hE1⟩; obtain ⟨b1, o1, c1, rfl, _, _, hcell⟩ := hO1.fl.opens (by rw [HL.out]; omega); rw [HL.out]; obtain ⟨cur, hg, hfit, _, _, hWn, hSn⟩ := wr_set (at_ := k) (ys := Y) (HWd.out.ext hE1) (by rw [HL.out]; omega); have HK := Lib.hid ((HWd.out.ext hE1).cells.1); have HG : Hid (w1.heap[g]? = some (.cells cur 5 (0, 0)) ∧ k + (Y.map vByte).length ≤ cur.size) := Lib.hid ⟨hg, by simpa using hfit⟩; have HMN : Hid ((Y.map vByte).length = Nat.min 2 (b.length - k)) := Lib.hid (by rw [List.length_map, HL.out]; simp only [Nat.min_def]; rw [if_pos (by omega)]); have HSR : Hid (∀ j u, (Y.map vByte)[j]? = some u → w1.cell? ((⟨b1, o1, none⟩ : Addr).add j) = some u) := Lib.hid (fun j u hu => by rw [List.getElem?_map] at hu; cases hy : Y[j]? with | none => rw [hy] at hu; cases hu | some y => rw [hy] at hu; injection hu with hu; rw [add_flat, ← hu]; exact hcell j y hy); have HONE : Hid (∀ u ∈ Y.map vByte, u.oneCell' = true) := Lib.hid (fun u hu => by obtain ⟨y, _, rfl⟩ := List.mem_map.1 hu; rfl); have HX := Lib.hid (And.intro hWn ((Stp.of_ext ((Ext.refl w).drew.trans hE1)).trans hSn)); clear hO1 hE1 hcell hg hfit hWn hSn)))
  have HX2 := HX.out
  rw [HL.out] at HX2
  generalize hW9 : w1.setRow g (cur.toList.take k ++ (Y.map vByte ++ cur.toList.drop (k + (Y.map vByte).length))).toArray = w9 at *
  have HX3 := Lib.hid HX2
  clear HX2 HX hW9 HWd HW
  go_wp2
  go_ret
  exact ⟨rfl, _, HX3.out.1, HX3.out.2⟩
end Go.Proofs.Ytfnelkcllaaebaa
end
section
/- Contract of rdata.nums. No condition but that the writer stands in memory, a list that its steps leave alone, and room. -/
open Go.RowKit
set_option linter.unusedVariables false
set_option linter.unusedSimpArgs false
namespace Go.Proofs.Ytfnelkcllaaebaa
theorem numsB_snoc (size : Int) {ns : List Int} {k : Nat} {x : Int} (hx : ns[k]? = some x) : numsB size (ns.take (k + 1)) = numsB size (ns.take k) ++ putN [] x size := by
  rw [List.take_add_one, hx]; simp [numsB]
theorem numsB_len (size : Int) (ns : List Int) : (numsB size ns).length ≤ 7 * ns.length := by
  induction ns with
  | nil => simp [numsB]
  | cons x ns ih =>
    have hlen : (putN [] x size).length ≤ 7 := by
      cases hf : fits x size with
      | true => have := fits_bound x size hf; rw [putN_yes hf, be_length]; omega
      | false => rw [putN_no hf]; simp
    simp only [numsB, List.map_cons, List.flatten_cons, List.length_append, List.length_cons] at ih ⊢
    omega
set_option maxHeartbeats 400000 in
/-- rdata.nums. -/
theorem rdata_nums (p mp : Nat) (v vn : Value) (ns : List Int) (size : Int) (N : Nat) (b : List UInt8) (f : Rests) (w : World) (hW : WrP w p mp v N b f) (hn : Stb (Sof p mp v) w fun w' => IntsV w' vn ns) (hl : ns.length ≤ 100000) (hb : b.length ≤ 140737487000000) :
    Calls Try.prog 120 #[.pointer (some ⟨p, 0, none⟩), vn, .int .i64 size] w fun e w' => e = .returned (.tuple #[]) ∧ Wrote p mp v N (b ++ numsB size ns) f w w' := by
  have HN := Lib.hid hn
  have HW := Lib.hid hW
  obtain ⟨A, c, rfl, _, _⟩ := hn.here.form
  clear hn hW
  go_enter Try.func120, Try.ntmps120
  go_wp2
  go_loopw [7, 10] (fun _ i wr => ∃ (k : Nat) (vc : Value), k ≤ ns.length ∧ i = .int .i64 k ∧ WrP wr p mp vc N (b ++ numsB size (ns.take k)) f ∧ Stp (Sof p mp v) w (Sof p mp vc) wr) (fun _ i _ => ns.length - (intOf i).toNat)
  case atStart => exact ⟨0, v, by omega, rfl, by simpa [numsB] using HW.out, Stp.refl _ _⟩
  case round =>
    obtain ⟨k, vc, hk, rfl, hW, hS⟩ := hrel
    have HWc := Lib.hid hW
    have HS := Lib.hid hS
    clear hW hS
    by_cases hlt : k < ns.length
    · obtain ⟨b1, o1, c1, e1, _, _, hc1⟩ := (HN.out wr HS.out.1).opens (by omega)
      injection e1 with e1 e3 e4
      subst e1
      clear e3 e4
      have hx := List.getElem?_eq_getElem hlt
      have hcx := hc1 k _ hx
      have HB := Lib.hid (numsB_snoc size hx)
      have HL : Hid ((b ++ numsB size (ns.take k)).length ≤ 140737488355000) := Lib.hid (by have := numsB_len size (ns.take k); rw [List.length_append]; rw [List.length_take] at this; omega)
      clear hc1 hx
      generalize ns[k] = x at *
      go_wp2_with fail
      refine (wname_Num p mp vc x size N _ f wr HWc.out HL.out).mono ?_
      rintro e w2 ⟨rfl, v2, hW2, hs2⟩
      have HW2 := Lib.hid hW2
      have HS2 := Lib.hid (HS.out.trans hs2)
      clear hW2 hs2
      go_wp2
      go_roundw
      case rel => exact ⟨k + 1, v2, by omega, by go_num, by rw [HB.out, ← List.append_assoc]; exact HW2.out, HS2.out⟩
      case measure => simp [intOf]; omega
    · rw [List.take_of_length_le (by omega)] at HWc
      go_wp2
      go_end0
      exact ⟨rfl, vc, HWc.out, HS.out⟩
end Go.Proofs.Ytfnelkcllaaebaa
end
section
/- Contract of rdata.Put of sound data. No condition but that the writer stands in memory, data that its steps leave alone, and room. -/
open Go.RowKit
set_option linter.unusedVariables false
set_option linter.unusedSimpArgs false
namespace Go.Proofs.Ytfnelkcllaaebaa
theorem WrP.small {w : World} {p mp : Nat} {v : Value} {N : Nat} {b : List UInt8} {f : Rests} (h : WrP w p mp v N b f) : ∀ x k, f x = some k → k < 16384 := by
  obtain ⟨D, _, hD⟩ := h.map; exact hD.small
theorem name_grow {n : List Str} {short : Bool} {b : List UInt8} {f : Rests} (hs : nsound n = true) (hf : ∀ x k, f x = some k → k < 16384) : ((Wt.name n short).bytes b f).length ≤ b.length + 255 := by
  unfold nsound at hs
  rw [decide_eq_true_eq] at hs
  have := name_len short n b.length f hf hs.1
  rw [bytes_len]; omega
theorem raw_bytes (l b : List UInt8) (f : Rests) : (Wt.raw l).bytes b f = b ++ l := rfl
theorem raw_rests (l b : List UInt8) (f : Rests) : (Wt.raw l).rests b f = f := rfl
theorem skip_bytes (b : List UInt8) (f : Rests) : Wt.skip.bytes b f = b := by simp [Wt.bytes, Wt.skip]
theorem skip_rests (b : List UInt8) (f : Rests) : Wt.skip.rests b f = f := rfl
theorem textsB_snoc {ts : List Str} {k : Nat} {x : Str} (hx : ts[k]? = some x) : textsB (ts.take (k + 1)) = textsB (ts.take k) ++ putN [] (x.size : Int) 1 ++ bs x := by
  rw [List.take_add_one, hx]; simp [textsB]
theorem textsB_take_len (ts : List Str) (k : Nat) (h : ts.any longT = false) (hl : ts.length ≤ 64) : (textsB (ts.take k)).length ≤ 16384 := by
  have h1 : (ts.take k).any longT = false := by
    rw [List.any_eq_false] at h ⊢
    exact fun x hx => h x (List.mem_of_mem_take hx)
  have := textsB_len (ts.take k) h1
  rw [List.length_take] at this
  omega
theorem rsound_parts {kind : Int} {d : Dat} {s : Shape} (hs : rsound kind d = true) (h : shapeOf kind = s) : (1 ≤ kind ∧ kind ≤ 65535) ∧ d.bytes.length ≤ 65535 ∧ d.nums.length = s.nums ∧ (s.host = true → nsound d.host = true) ∧ (s.mail = true → nsound d.mail = true) ∧ (d.texts.length ≤ 64) ∧ d.texts.any longT = false := by
  unfold rsound at hs
  rw [h, Bool.and_eq_true, decide_eq_true_eq] at hs
  obtain ⟨hk, hs⟩ := hs
  simp only [rsoundS, Bool.and_eq_true, decide_eq_true_eq] at hs
  obtain ⟨q1, q2, q3, q4, q5, q6, q7⟩ := hs
  refine ⟨hk, q2, q3, fun h => by rw [h] at q4; simpa using q4, fun h => by rw [h] at q5; simpa using q5, ?_, ?_⟩
  · cases ht : s.texts with
    | true => rw [ht] at q7; simp only [if_true, Bool.and_eq_true, decide_eq_true_eq] at q7; omega
    | false => rw [ht] at q7; simp only [Bool.false_eq_true, if_false, decide_eq_true_eq] at q7; omega
  · cases ht : s.texts with
    | true => rw [ht] at q7; simp only [if_true, Bool.and_eq_true, Bool.not_eq_true'] at q7; exact q7.2
    | false => rw [ht] at q7; simp only [Bool.false_eq_true, if_false, decide_eq_true_eq] at q7; rw [List.eq_nil_of_length_eq_zero q7]; rfl
theorem stp_heap {S S' : Nat → Prop} {w w' : World} {k : Nat} {o : Obj} (h : Stp S w S' w') (hk : w.heap[k]? = some o) (hS : ¬ S k) : w'.heap[k]? = some o := h.1.heap hk hS
theorem row_cells {w : World} {g : Nat} {cs : Array Value} {t : TypeId} (h : w.heap[g]? = some (.cells cs t (0, 0))) (i : Nat) : w.cell? ⟨g, i, none⟩ = cs[i]? := by simp [World.cell?, h]
set_option maxRecDepth 100000 in
set_option maxHeartbeats 600000 in
theorem put_bytes (n : Int) (kind : Int) (d : Dat) (p mp : Nat) (v v0 v1 v2 v3 v4 : Value) (N : Nat) (b : List UInt8) (f : Rests) (w : World) (hW : WrP w p mp v N b f) (hNb : N ≤ b.length) (hd : Stb (Sof p mp v) w fun W => DR W v0 v1 v2 v3 v4 d) (fd : DFit d) (ft : Fits d.texts) (hs : rsound kind d = true) (hb : b.length ≤ 140737486000000) (hsh : shapeOf kind = ⟨n, false, false, false, 0, 0, false, false⟩) :
    Calls Try.prog 60 #[.pointer (some ⟨p, 0, none⟩), .int .i64 kind, .agg #[v0, v1, v2, v3, v4]] w fun e w' => e = .returned (.int .i64 0) ∧ ∃ N', N' ≤ ((Wt.data kind d).bytes b f).length ∧ Wrote p mp v N' ((Wt.data kind d).bytes b f) ((Wt.data kind d).rests b f) w w' := by
  have hparts := rsound_parts hs hsh
  obtain ⟨_, pb, pn, ph, pm, pt, pl⟩ := hparts
  have hE0 := (Ext.refl w).alloc (.cells #[v0, v1, v2, v3, v4] 26)
  have HC := Lib.hid (rdata_Sound kind d _ _ _ _ _ (w.alloc (.cells #[v0, v1, v2, v3, v4] 26)) (hd _ (Kp.of_ext hE0)) fd ft)
  rw [hs] at HC
  have HC2 := Lib.hid (rdata_shapes kind)
  unfold ShapeGives at HC2
  rw [hsh] at HC2
  simp only [shapeC] at HC2
  have HD := Lib.hid hd
  have hd0 := hd.here
  obtain ⟨A0, k0, rfl, _, _⟩ := hd0.by_.form
  obtain ⟨A1, k1, rfl, _, _⟩ := hd0.ho.form
  obtain ⟨A2, k2, rfl, _, _⟩ := hd0.ma.form
  obtain ⟨A3, k3, rfl, _, _⟩ := hd0.nu.form
  obtain ⟨A4, k4, rfl, _, _⟩ := hd0.tx.form
  have HW := Lib.hid hW
  have HNb := Lib.hid hNb
  have HEQ : Hid (((b ++ d.bytes ++ textsB d.texts) ++ numsB 0 d.nums) = (Wt.data kind d).bytes b f ∧ f = (Wt.data kind d).rests b f) := Lib.hid (by simp only [Wt.data, hsh, nums_raw, texts_raw, Wt.bytes_seq, Wt.rests_seq, raw_bytes, raw_rests, skip_bytes, skip_rests, if_true, if_false, Bool.false_eq_true]; first | exact ⟨rfl, rfl⟩ | exact ⟨rfl, trivial⟩ | trivial)
  have HE0 := Lib.hid hE0
  have HB0 := Lib.hid (heap_alloc_new w (.cells #[.slice A0 d.bytes.length k0, .slice A1 d.host.length k1, .slice A2 d.mail.length k2, .slice A3 d.nums.length k3, .slice A4 d.texts.length k4] 26))
  have HPl := Lib.hid pl
  have HPn : Hid (d.nums.length ≤ 5) := Lib.hid (by simp only at pn; omega)
  have HPh := Lib.hid ph
  have HPm := Lib.hid pm
  obtain ⟨Bf, hBf⟩ : ∃ Bf, (Wt.data kind d).bytes b f = Bf := ⟨_, rfl⟩
  obtain ⟨Ff, hFf⟩ : ∃ Ff, (Wt.data kind d).rests b f = Ff := ⟨_, rfl⟩
  rw [hBf, hFf]
  rw [hBf, hFf] at HEQ
  clear hd hW hNb hE0 hd0 hs pl ph pm hBf hFf hsh fd ft pn
  go_enter Try.func60, Try.ntmps60
  go_wp2_with fail
  refine (HC.out).mono ?_
  rintro e w1 ⟨rfl, hE1⟩
  have HE1 := Lib.hid (HE0.out.trans hE1)
  have HB1 := Lib.hid (hE1.block HB0.out)
  clear hE1
  go_wp2_with fail
  refine (HC2.out w1).mono ?_
  rintro e w2 ⟨rfl, hE2⟩
  have hE3 := (Ext.refl w2).alloc (.cells #[.int .i64 n, .bool false, .bool false, .bool false, .int .i64 0, .int .i64 0, .bool false, .bool false] 118)
  have HE3 := Lib.hid ((HE1.out.trans hE2).trans hE3)
  have HBX := Lib.hid (hE3.block (hE2.block HB1.out))
  have HSH := Lib.hid (heap_alloc_new w2 (.cells #[.int .i64 n, .bool false, .bool false, .bool false, .int .i64 0, .int .i64 0, .bool false, .bool false] 118))
  have hg2 : w.heap.size ≤ w2.heap.size := (HE1.out.trans hE2).size
  clear hE2 hE3
  have q0 := row_cells HBX.out 0
  have q1 := row_cells HBX.out 1
  have q2 := row_cells HBX.out 2
  have q3 := row_cells HBX.out 3
  have q4 := row_cells HBX.out 4
  have s1 := row_cells HSH.out 1
  have s2 := row_cells HSH.out 2
  have s3 := row_cells HSH.out 3
  have s5 := row_cells HSH.out 5
  have s7 := row_cells HSH.out 7
  simp at q0 q1 q2 q3 q4 s1 s2 s3 s5 s7
  go_wp2_with fail
  generalize w2.alloc (.cells #[.int .i64 n, .bool false, .bool false, .bool false, .int .i64 0, .int .i64 0, .bool false, .bool false] 118) = W3 at *
  generalize w2.heap.size = g2 at *
  have HSv : Hid (∀ k, Sof p mp v k → k < w.heap.size) := Lib.hid HW.out.lt
  have hS0 : ¬ Sof p mp v w.heap.size := fun h => by have := HSv.out _ h; omega
  have hS2 : ¬ Sof p mp v g2 := fun h => by have := HSv.out _ h; omega
  have HBX3 := Lib.hid HBX.out
  have HSH3 := Lib.hid HSH.out
  have HS0 := Lib.hid hS0
  have HS2 := Lib.hid hS2
  have HD3 : Hid (Stb (Sof p mp v) W3 fun W => DR W (.slice A0 d.bytes.length k0) (.slice A1 d.host.length k1) (.slice A2 d.mail.length k2) (.slice A3 d.nums.length k3) (.slice A4 d.texts.length k4) d) := Lib.hid (HD.out.step (Stp.of_ext HE3.out))
  clear q0 q1 q2 q3 q4 s1 s2 s3 s5 s7 hS0 hS2
  refine (wname_Raw p mp v _ N b d.bytes f W3 (HW.out.ext HE3.out) HD3.out.here.by_ (by omega)).mono ?_
  rintro e W4 ⟨rfl, v4, hW4, hs4⟩
  have HW4 := Lib.hid hW4
  have HS4 := Lib.hid hs4
  clear hW4 hs4 HBX HSH
  have HBX := Lib.hid (stp_heap HS4.out HBX3.out HS0.out)
  have HSH := Lib.hid (stp_heap HS4.out HSH3.out HS2.out)
  have q0 := row_cells HBX.out 0
  have q1 := row_cells HBX.out 1
  have q2 := row_cells HBX.out 2
  have q3 := row_cells HBX.out 3
  have q4 := row_cells HBX.out 4
  have s1 := row_cells HSH.out 1
  have s2 := row_cells HSH.out 2
  have s3 := row_cells HSH.out 3
  have s5 := row_cells HSH.out 5
  have s7 := row_cells HSH.out 7
  simp at q0 q1 q2 q3 q4 s1 s2 s3 s5 s7
  go_wp2
  clear q0 q1 q2 q3 q4 s1 s2 s3 s5 s7
  go_loopw [9, 27] (fun _ i wr => ∃ (k : Nat) (vc : Value), k ≤ d.texts.length ∧ i = .int .i64 k ∧ WrP wr p mp vc N (b ++ d.bytes ++ textsB (d.texts.take k)) f ∧ Stp (Sof p mp v) W3 (Sof p mp vc) wr) (fun _ i _ => d.texts.length - (intOf i).toNat)
  case atStart => exact ⟨0, v4, by omega, rfl, by simpa [textsB] using HW4.out, HS4.out⟩
  case round =>
    obtain ⟨k, vc, hk, rfl, hW, hS⟩ := hrel
    have HWc := Lib.hid hW
    have HS := Lib.hid hS
    clear hW hS HBX HSH
    by_cases hlt : k < d.texts.length
    · obtain ⟨b1, o1, c1, e1, _, _, hc1⟩ := (HD3.out wr HS.out.1).tx.opens (by omega)
      injection e1 with e1 e3 e4
      subst e1
      clear e3 e4
      have hx := List.getElem?_eq_getElem hlt
      have hcx := hc1 k _ hx
      have HB := Lib.hid (textsB_snoc hx)
      have HLx : Hid (d.texts[k].size ≤ 255) := Lib.hid (by
        have := List.any_eq_false.1 HPl.out _ (List.mem_of_getElem? hx)
        unfold longT at this
        rw [decide_eq_true_eq] at this
        omega)
      have HL : Hid ((b ++ d.bytes ++ textsB (d.texts.take k)).length ≤ 140737488300000) := Lib.hid (by have := textsB_take_len d.texts k HPl.out pt; rw [List.length_append, List.length_append]; omega)
      clear hc1 hx
      generalize d.texts[k] = x at *
      generalize hBB : b ++ d.bytes ++ textsB (d.texts.take k) = BB at *
      have HBB := Lib.hid hBB
      clear hBB
      have hxs := HLx.out
      go_wp2_with fail
      refine (wname_Num p mp vc (x.size : Int) 1 N _ f wr HWc.out (by have := HL.out; omega)).mono ?_
      rintro e w4 ⟨rfl, v5, hW5, hs5⟩
      have HW5 := Lib.hid hW5
      have HS5 := Lib.hid (HS.out.trans hs5)
      clear hW5 hs5
      have kb := fun w => Lib.run_convert_string_bytes (P := Try.prog) w 9 22 5 x Try.underlying9 Try.underlying22 Try.underlying5
      have hcm := grownCap_le_maxLen w4 x.size 0 5 (by simp [maxLen]; omega)
      have hcg := grownCap_ge w4 x.size 0 5
      have HY := Lib.hid ((blk_bytes w4 x).fl x.size (grownCap w4 x.size 0 5) (bs_length x) hcg (by simpa [maxLen] using hcm))
      have HE5 := Lib.hid (ext_bytes w4 x)
      have HL5 : Hid ((BB ++ putN [] (x.size : Int) 1).length ≤ 140737488300007) := Lib.hid (by have := HL.out; have := putN_le (x.size : Int) (size := 1) (by omega); simp at this; rw [List.length_append]; omega)
      clear hcm hcg
      go_wp2_with fail
      generalize Lib.bytesWorld w4 5 x = w5 at *
      generalize grownCap w4 x.size 0 5 = cg at *
      refine (wname_Raw p mp _ _ N _ (bs x) f w5 (HW5.out.ext HE5.out) HY.out (by have := HL5.out; have := HLx.out; rw [bs_length]; omega)).mono ?_
      rintro e w6 ⟨rfl, v6, hW6, hs6⟩
      have HW6 := Lib.hid hW6
      have HS6 := Lib.hid ((HS5.out.ext HE5.out).trans hs6)
      clear hW6 hs6
      go_wp2
      go_roundw
      case rel => exact ⟨k + 1, v6, by omega, by go_num, by rw [HB.out, ← List.append_assoc, ← List.append_assoc, HBB.out]; exact HW6.out, HS6.out⟩
      case measure => simp [intOf]; omega
    · rw [List.take_of_length_le (by omega)] at HWc
      have HLB : Hid ((b ++ d.bytes ++ textsB d.texts).length ≤ 140737486100000) := Lib.hid (by have := textsB_take_len d.texts d.texts.length HPl.out pt; rw [List.take_length] at this; rw [List.length_append, List.length_append]; omega)
      have HNB : Hid (N ≤ (b ++ d.bytes ++ textsB d.texts).length) := Lib.hid (by have := HNb.out; rw [List.length_append, List.length_append]; omega)

      have HBX := Lib.hid (stp_heap HS.out HBX3.out HS0.out)
      have HSH := Lib.hid (stp_heap HS.out HSH3.out HS2.out)
      have q0 := row_cells HBX.out 0
      have q1 := row_cells HBX.out 1
      have q2 := row_cells HBX.out 2
      have q3 := row_cells HBX.out 3
      have q4 := row_cells HBX.out 4
      have s1 := row_cells HSH.out 1
      have s2 := row_cells HSH.out 2
      have s3 := row_cells HSH.out 3
      have s5 := row_cells HSH.out 5
      have s7 := row_cells HSH.out 7
      simp at q0 q1 q2 q3 q4 s1 s2 s3 s5 s7
      go_wp2_with fail
      clear q0 q1 q2 q3 q4 s1 s2 s3 s5 s7 HBX HSH
      refine (rdata_nums p mp vc _ d.nums 0 N (b ++ d.bytes ++ textsB d.texts) f wr HWc.out (fun W' hk => (HD3.out.step HS.out W' hk).nu) (by have := HPn.out; omega) (by have := HLB.out; omega)).mono ?_
      rintro e X1 ⟨rfl, y1, hW9, hs9⟩
      have HX1 := Lib.hid hW9
      have HT1 := Lib.hid (HS.out.trans hs9)
      have HL1 : Hid (((b ++ d.bytes ++ textsB d.texts) ++ numsB 0 d.nums).length ≤ 140737486101000) := Lib.hid (by have := HLB.out; have := numsB_len 0 d.nums; have := HPn.out; rw [List.length_append]; omega)
      have HM1 : Hid (N ≤ ((b ++ d.bytes ++ textsB d.texts) ++ numsB 0 d.nums).length) := Lib.hid (by have := HNB.out; rw [List.length_append]; omega)
      clear hW9 hs9
      have HBX := Lib.hid (stp_heap HT1.out HBX3.out HS0.out)
      have HSH := Lib.hid (stp_heap HT1.out HSH3.out HS2.out)
      have q0 := row_cells HBX.out 0
      have q1 := row_cells HBX.out 1
      have q2 := row_cells HBX.out 2
      have q3 := row_cells HBX.out 3
      have q4 := row_cells HBX.out 4
      have s1 := row_cells HSH.out 1
      have s2 := row_cells HSH.out 2
      have s3 := row_cells HSH.out 3
      have s5 := row_cells HSH.out 5
      have s7 := row_cells HSH.out 7
      simp at q0 q1 q2 q3 q4 s1 s2 s3 s5 s7
      go_wp2
      go_ret
      refine ⟨rfl, N, ?_, y1, ?_, ?_⟩
      · rw [← HEQ.out.1]; exact HM1.out
      · rw [← HEQ.out.1, ← HEQ.out.2]; exact HX1.out
      · exact (Stp.of_ext HE3.out).trans HT1.out
set_option maxRecDepth 100000 in
set_option maxHeartbeats 600000 in
theorem put_texts (kind : Int) (d : Dat) (p mp : Nat) (v v0 v1 v2 v3 v4 : Value) (N : Nat) (b : List UInt8) (f : Rests) (w : World) (hW : WrP w p mp v N b f) (hNb : N ≤ b.length) (hd : Stb (Sof p mp v) w fun W => DR W v0 v1 v2 v3 v4 d) (fd : DFit d) (ft : Fits d.texts) (hs : rsound kind d = true) (hb : b.length ≤ 140737486000000) (hsh : shapeOf kind = ⟨0, false, false, false, 0, 0, true, false⟩) :
    Calls Try.prog 60 #[.pointer (some ⟨p, 0, none⟩), .int .i64 kind, .agg #[v0, v1, v2, v3, v4]] w fun e w' => e = .returned (.int .i64 0) ∧ ∃ N', N' ≤ ((Wt.data kind d).bytes b f).length ∧ Wrote p mp v N' ((Wt.data kind d).bytes b f) ((Wt.data kind d).rests b f) w w' := by
  have hparts := rsound_parts hs hsh
  obtain ⟨_, pb, pn, ph, pm, pt, pl⟩ := hparts
  have hE0 := (Ext.refl w).alloc (.cells #[v0, v1, v2, v3, v4] 26)
  have HC := Lib.hid (rdata_Sound kind d _ _ _ _ _ (w.alloc (.cells #[v0, v1, v2, v3, v4] 26)) (hd _ (Kp.of_ext hE0)) fd ft)
  rw [hs] at HC
  have HC2 := Lib.hid (rdata_shapes kind)
  unfold ShapeGives at HC2
  rw [hsh] at HC2
  simp only [shapeC] at HC2
  have HD := Lib.hid hd
  have hd0 := hd.here
  obtain ⟨A0, k0, rfl, _, _⟩ := hd0.by_.form
  obtain ⟨A1, k1, rfl, _, _⟩ := hd0.ho.form
  obtain ⟨A2, k2, rfl, _, _⟩ := hd0.ma.form
  obtain ⟨A3, k3, rfl, _, _⟩ := hd0.nu.form
  obtain ⟨A4, k4, rfl, _, _⟩ := hd0.tx.form
  have HW := Lib.hid hW
  have HNb := Lib.hid hNb
  have HEQ : Hid (((b ++ d.bytes ++ textsB d.texts) ++ numsB 0 d.nums) = (Wt.data kind d).bytes b f ∧ f = (Wt.data kind d).rests b f) := Lib.hid (by simp only [Wt.data, hsh, nums_raw, texts_raw, Wt.bytes_seq, Wt.rests_seq, raw_bytes, raw_rests, skip_bytes, skip_rests, if_true, if_false, Bool.false_eq_true]; first | exact ⟨rfl, rfl⟩ | exact ⟨rfl, trivial⟩ | trivial)
  have HE0 := Lib.hid hE0
  have HB0 := Lib.hid (heap_alloc_new w (.cells #[.slice A0 d.bytes.length k0, .slice A1 d.host.length k1, .slice A2 d.mail.length k2, .slice A3 d.nums.length k3, .slice A4 d.texts.length k4] 26))
  have HPl := Lib.hid pl
  have HPn : Hid (d.nums.length ≤ 5) := Lib.hid (by simp only at pn; omega)
  have HPh := Lib.hid ph
  have HPm := Lib.hid pm
  obtain ⟨Bf, hBf⟩ : ∃ Bf, (Wt.data kind d).bytes b f = Bf := ⟨_, rfl⟩
  obtain ⟨Ff, hFf⟩ : ∃ Ff, (Wt.data kind d).rests b f = Ff := ⟨_, rfl⟩
  rw [hBf, hFf]
  rw [hBf, hFf] at HEQ
  clear hd hW hNb hE0 hd0 hs pl ph pm hBf hFf hsh fd ft pn
  go_enter Try.func60, Try.ntmps60
  go_wp2_with fail
  refine (HC.out).mono ?_
  rintro e w1 ⟨rfl, hE1⟩
  have HE1 := Lib.hid (HE0.out.trans hE1)
  have HB1 := Lib.hid (hE1.block HB0.out)
  clear hE1
  go_wp2_with fail
  refine (HC2.out w1).mono ?_
  rintro e w2 ⟨rfl, hE2⟩
  have hE3 := (Ext.refl w2).alloc (.cells #[.int .i64 0, .bool false, .bool false, .bool false, .int .i64 0, .int .i64 0, .bool true, .bool false] 118)
  have HE3 := Lib.hid ((HE1.out.trans hE2).trans hE3)
  have HBX := Lib.hid (hE3.block (hE2.block HB1.out))
  have HSH := Lib.hid (heap_alloc_new w2 (.cells #[.int .i64 0, .bool false, .bool false, .bool false, .int .i64 0, .int .i64 0, .bool true, .bool false] 118))
  have hg2 : w.heap.size ≤ w2.heap.size := (HE1.out.trans hE2).size
  clear hE2 hE3
  have q0 := row_cells HBX.out 0
  have q1 := row_cells HBX.out 1
  have q2 := row_cells HBX.out 2
  have q3 := row_cells HBX.out 3
  have q4 := row_cells HBX.out 4
  have s1 := row_cells HSH.out 1
  have s2 := row_cells HSH.out 2
  have s3 := row_cells HSH.out 3
  have s5 := row_cells HSH.out 5
  have s7 := row_cells HSH.out 7
  simp at q0 q1 q2 q3 q4 s1 s2 s3 s5 s7
  go_wp2_with fail
  generalize w2.alloc (.cells #[.int .i64 0, .bool false, .bool false, .bool false, .int .i64 0, .int .i64 0, .bool true, .bool false] 118) = W3 at *
  generalize w2.heap.size = g2 at *
  have HSv : Hid (∀ k, Sof p mp v k → k < w.heap.size) := Lib.hid HW.out.lt
  have hS0 : ¬ Sof p mp v w.heap.size := fun h => by have := HSv.out _ h; omega
  have hS2 : ¬ Sof p mp v g2 := fun h => by have := HSv.out _ h; omega
  have HBX3 := Lib.hid HBX.out
  have HSH3 := Lib.hid HSH.out
  have HS0 := Lib.hid hS0
  have HS2 := Lib.hid hS2
  have HD3 : Hid (Stb (Sof p mp v) W3 fun W => DR W (.slice A0 d.bytes.length k0) (.slice A1 d.host.length k1) (.slice A2 d.mail.length k2) (.slice A3 d.nums.length k3) (.slice A4 d.texts.length k4) d) := Lib.hid (HD.out.step (Stp.of_ext HE3.out))
  clear q0 q1 q2 q3 q4 s1 s2 s3 s5 s7 hS0 hS2
  refine (wname_Raw p mp v _ N b d.bytes f W3 (HW.out.ext HE3.out) HD3.out.here.by_ (by omega)).mono ?_
  rintro e W4 ⟨rfl, v4, hW4, hs4⟩
  have HW4 := Lib.hid hW4
  have HS4 := Lib.hid hs4
  clear hW4 hs4 HBX HSH
  have HBX := Lib.hid (stp_heap HS4.out HBX3.out HS0.out)
  have HSH := Lib.hid (stp_heap HS4.out HSH3.out HS2.out)
  have q0 := row_cells HBX.out 0
  have q1 := row_cells HBX.out 1
  have q2 := row_cells HBX.out 2
  have q3 := row_cells HBX.out 3
  have q4 := row_cells HBX.out 4
  have s1 := row_cells HSH.out 1
  have s2 := row_cells HSH.out 2
  have s3 := row_cells HSH.out 3
  have s5 := row_cells HSH.out 5
  have s7 := row_cells HSH.out 7
  simp at q0 q1 q2 q3 q4 s1 s2 s3 s5 s7
  go_wp2
  clear q0 q1 q2 q3 q4 s1 s2 s3 s5 s7
  go_loopw [9, 27] (fun _ i wr => ∃ (k : Nat) (vc : Value), k ≤ d.texts.length ∧ i = .int .i64 k ∧ WrP wr p mp vc N (b ++ d.bytes ++ textsB (d.texts.take k)) f ∧ Stp (Sof p mp v) W3 (Sof p mp vc) wr) (fun _ i _ => d.texts.length - (intOf i).toNat)
  case atStart => exact ⟨0, v4, by omega, rfl, by simpa [textsB] using HW4.out, HS4.out⟩
  case round =>
    obtain ⟨k, vc, hk, rfl, hW, hS⟩ := hrel
    have HWc := Lib.hid hW
    have HS := Lib.hid hS
    clear hW hS HBX HSH
    by_cases hlt : k < d.texts.length
    · obtain ⟨b1, o1, c1, e1, _, _, hc1⟩ := (HD3.out wr HS.out.1).tx.opens (by omega)
      injection e1 with e1 e3 e4
      subst e1
      clear e3 e4
      have hx := List.getElem?_eq_getElem hlt
      have hcx := hc1 k _ hx
      have HB := Lib.hid (textsB_snoc hx)
      have HLx : Hid (d.texts[k].size ≤ 255) := Lib.hid (by
        have := List.any_eq_false.1 HPl.out _ (List.mem_of_getElem? hx)
        unfold longT at this
        rw [decide_eq_true_eq] at this
        omega)
      have HL : Hid ((b ++ d.bytes ++ textsB (d.texts.take k)).length ≤ 140737488300000) := Lib.hid (by have := textsB_take_len d.texts k HPl.out pt; rw [List.length_append, List.length_append]; omega)
      clear hc1 hx
      generalize d.texts[k] = x at *
      generalize hBB : b ++ d.bytes ++ textsB (d.texts.take k) = BB at *
      have HBB := Lib.hid hBB
      clear hBB
      have hxs := HLx.out
      go_wp2_with fail
      refine (wname_Num p mp vc (x.size : Int) 1 N _ f wr HWc.out (by have := HL.out; omega)).mono ?_
      rintro e w4 ⟨rfl, v5, hW5, hs5⟩
      have HW5 := Lib.hid hW5
      have HS5 := Lib.hid (HS.out.trans hs5)
      clear hW5 hs5
      have kb := fun w => Lib.run_convert_string_bytes (P := Try.prog) w 9 22 5 x Try.underlying9 Try.underlying22 Try.underlying5
      have hcm := grownCap_le_maxLen w4 x.size 0 5 (by simp [maxLen]; omega)
      have hcg := grownCap_ge w4 x.size 0 5
      have HY := Lib.hid ((blk_bytes w4 x).fl x.size (grownCap w4 x.size 0 5) (bs_length x) hcg (by simpa [maxLen] using hcm))
      have HE5 := Lib.hid (ext_bytes w4 x)
      have HL5 : Hid ((BB ++ putN [] (x.size : Int) 1).length ≤ 140737488300007) := Lib.hid (by have := HL.out; have := putN_le (x.size : Int) (size := 1) (by omega); simp at this; rw [List.length_append]; omega)
      clear hcm hcg
      go_wp2_with fail
      generalize Lib.bytesWorld w4 5 x = w5 at *
      generalize grownCap w4 x.size 0 5 = cg at *
      refine (wname_Raw p mp _ _ N _ (bs x) f w5 (HW5.out.ext HE5.out) HY.out (by have := HL5.out; have := HLx.out; rw [bs_length]; omega)).mono ?_
      rintro e w6 ⟨rfl, v6, hW6, hs6⟩
      have HW6 := Lib.hid hW6
      have HS6 := Lib.hid ((HS5.out.ext HE5.out).trans hs6)
      clear hW6 hs6
      go_wp2
      go_roundw
      case rel => exact ⟨k + 1, v6, by omega, by go_num, by rw [HB.out, ← List.append_assoc, ← List.append_assoc, HBB.out]; exact HW6.out, HS6.out⟩
      case measure => simp [intOf]; omega
    · rw [List.take_of_length_le (by omega)] at HWc
      have HLB : Hid ((b ++ d.bytes ++ textsB d.texts).length ≤ 140737486100000) := Lib.hid (by have := textsB_take_len d.texts d.texts.length HPl.out pt; rw [List.take_length] at this; rw [List.length_append, List.length_append]; omega)
      have HNB : Hid (N ≤ (b ++ d.bytes ++ textsB d.texts).length) := Lib.hid (by have := HNb.out; rw [List.length_append, List.length_append]; omega)

      have HBX := Lib.hid (stp_heap HS.out HBX3.out HS0.out)
      have HSH := Lib.hid (stp_heap HS.out HSH3.out HS2.out)
      have q0 := row_cells HBX.out 0
      have q1 := row_cells HBX.out 1
      have q2 := row_cells HBX.out 2
      have q3 := row_cells HBX.out 3
      have q4 := row_cells HBX.out 4
      have s1 := row_cells HSH.out 1
      have s2 := row_cells HSH.out 2
      have s3 := row_cells HSH.out 3
      have s5 := row_cells HSH.out 5
      have s7 := row_cells HSH.out 7
      simp at q0 q1 q2 q3 q4 s1 s2 s3 s5 s7
      go_wp2_with fail
      clear q0 q1 q2 q3 q4 s1 s2 s3 s5 s7 HBX HSH
      refine (rdata_nums p mp vc _ d.nums 0 N (b ++ d.bytes ++ textsB d.texts) f wr HWc.out (fun W' hk => (HD3.out.step HS.out W' hk).nu) (by have := HPn.out; omega) (by have := HLB.out; omega)).mono ?_
      rintro e X1 ⟨rfl, y1, hW9, hs9⟩
      have HX1 := Lib.hid hW9
      have HT1 := Lib.hid (HS.out.trans hs9)
      have HL1 : Hid (((b ++ d.bytes ++ textsB d.texts) ++ numsB 0 d.nums).length ≤ 140737486101000) := Lib.hid (by have := HLB.out; have := numsB_len 0 d.nums; have := HPn.out; rw [List.length_append]; omega)
      have HM1 : Hid (N ≤ ((b ++ d.bytes ++ textsB d.texts) ++ numsB 0 d.nums).length) := Lib.hid (by have := HNB.out; rw [List.length_append]; omega)
      clear hW9 hs9
      have HBX := Lib.hid (stp_heap HT1.out HBX3.out HS0.out)
      have HSH := Lib.hid (stp_heap HT1.out HSH3.out HS2.out)
      have q0 := row_cells HBX.out 0
      have q1 := row_cells HBX.out 1
      have q2 := row_cells HBX.out 2
      have q3 := row_cells HBX.out 3
      have q4 := row_cells HBX.out 4
      have s1 := row_cells HSH.out 1
      have s2 := row_cells HSH.out 2
      have s3 := row_cells HSH.out 3
      have s5 := row_cells HSH.out 5
      have s7 := row_cells HSH.out 7
      simp at q0 q1 q2 q3 q4 s1 s2 s3 s5 s7
      go_wp2
      go_ret
      refine ⟨rfl, N, ?_, y1, ?_, ?_⟩
      · rw [← HEQ.out.1]; exact HM1.out
      · rw [← HEQ.out.1, ← HEQ.out.2]; exact HX1.out
      · exact (Stp.of_ext HE3.out).trans HT1.out
set_option maxRecDepth 100000 in
set_option maxHeartbeats 600000 in
theorem put_host (kind : Int) (d : Dat) (p mp : Nat) (v v0 v1 v2 v3 v4 : Value) (N : Nat) (b : List UInt8) (f : Rests) (w : World) (hW : WrP w p mp v N b f) (hNb : N ≤ b.length) (hd : Stb (Sof p mp v) w fun W => DR W v0 v1 v2 v3 v4 d) (fd : DFit d) (ft : Fits d.texts) (hs : rsound kind d = true) (hb : b.length ≤ 140737486000000) (hsh : shapeOf kind = ⟨0, true, false, true, 0, 0, false, false⟩) :
    Calls Try.prog 60 #[.pointer (some ⟨p, 0, none⟩), .int .i64 kind, .agg #[v0, v1, v2, v3, v4]] w fun e w' => e = .returned (.int .i64 0) ∧ ∃ N', N' ≤ ((Wt.data kind d).bytes b f).length ∧ Wrote p mp v N' ((Wt.data kind d).bytes b f) ((Wt.data kind d).rests b f) w w' := by
  have hparts := rsound_parts hs hsh
  obtain ⟨_, pb, pn, ph, pm, pt, pl⟩ := hparts
  have hE0 := (Ext.refl w).alloc (.cells #[v0, v1, v2, v3, v4] 26)
  have HC := Lib.hid (rdata_Sound kind d _ _ _ _ _ (w.alloc (.cells #[v0, v1, v2, v3, v4] 26)) (hd _ (Kp.of_ext hE0)) fd ft)
  rw [hs] at HC
  have HC2 := Lib.hid (rdata_shapes kind)
  unfold ShapeGives at HC2
  rw [hsh] at HC2
  simp only [shapeC] at HC2
  have HD := Lib.hid hd
  have hd0 := hd.here
  obtain ⟨A0, k0, rfl, _, _⟩ := hd0.by_.form
  obtain ⟨A1, k1, rfl, _, _⟩ := hd0.ho.form
  obtain ⟨A2, k2, rfl, _, _⟩ := hd0.ma.form
  obtain ⟨A3, k3, rfl, _, _⟩ := hd0.nu.form
  obtain ⟨A4, k4, rfl, _, _⟩ := hd0.tx.form
  have HW := Lib.hid hW
  have HNb := Lib.hid hNb
  have HEQ : Hid ((((Wt.name d.host true).bytes (b ++ d.bytes ++ textsB d.texts) f) ++ numsB 0 d.nums) = (Wt.data kind d).bytes b f ∧ ((Wt.name d.host true).rests (b ++ d.bytes ++ textsB d.texts) f) = (Wt.data kind d).rests b f) := Lib.hid (by simp only [Wt.data, hsh, nums_raw, texts_raw, Wt.bytes_seq, Wt.rests_seq, raw_bytes, raw_rests, skip_bytes, skip_rests, if_true, if_false, Bool.false_eq_true]; first | exact ⟨rfl, rfl⟩ | exact ⟨rfl, trivial⟩ | trivial)
  have HE0 := Lib.hid hE0
  have HB0 := Lib.hid (heap_alloc_new w (.cells #[.slice A0 d.bytes.length k0, .slice A1 d.host.length k1, .slice A2 d.mail.length k2, .slice A3 d.nums.length k3, .slice A4 d.texts.length k4] 26))
  have HPl := Lib.hid pl
  have HPn : Hid (d.nums.length ≤ 5) := Lib.hid (by simp only at pn; omega)
  have HPh := Lib.hid ph
  have HPm := Lib.hid pm
  obtain ⟨Bf, hBf⟩ : ∃ Bf, (Wt.data kind d).bytes b f = Bf := ⟨_, rfl⟩
  obtain ⟨Ff, hFf⟩ : ∃ Ff, (Wt.data kind d).rests b f = Ff := ⟨_, rfl⟩
  rw [hBf, hFf]
  rw [hBf, hFf] at HEQ
  clear hd hW hNb hE0 hd0 hs pl ph pm hBf hFf hsh fd ft pn
  go_enter Try.func60, Try.ntmps60
  go_wp2_with fail
  refine (HC.out).mono ?_
  rintro e w1 ⟨rfl, hE1⟩
  have HE1 := Lib.hid (HE0.out.trans hE1)
  have HB1 := Lib.hid (hE1.block HB0.out)
  clear hE1
  go_wp2_with fail
  refine (HC2.out w1).mono ?_
  rintro e w2 ⟨rfl, hE2⟩
  have hE3 := (Ext.refl w2).alloc (.cells #[.int .i64 0, .bool true, .bool false, .bool true, .int .i64 0, .int .i64 0, .bool false, .bool false] 118)
  have HE3 := Lib.hid ((HE1.out.trans hE2).trans hE3)
  have HBX := Lib.hid (hE3.block (hE2.block HB1.out))
  have HSH := Lib.hid (heap_alloc_new w2 (.cells #[.int .i64 0, .bool true, .bool false, .bool true, .int .i64 0, .int .i64 0, .bool false, .bool false] 118))
  have hg2 : w.heap.size ≤ w2.heap.size := (HE1.out.trans hE2).size
  clear hE2 hE3
  have q0 := row_cells HBX.out 0
  have q1 := row_cells HBX.out 1
  have q2 := row_cells HBX.out 2
  have q3 := row_cells HBX.out 3
  have q4 := row_cells HBX.out 4
  have s1 := row_cells HSH.out 1
  have s2 := row_cells HSH.out 2
  have s3 := row_cells HSH.out 3
  have s5 := row_cells HSH.out 5
  have s7 := row_cells HSH.out 7
  simp at q0 q1 q2 q3 q4 s1 s2 s3 s5 s7
  go_wp2_with fail
  generalize w2.alloc (.cells #[.int .i64 0, .bool true, .bool false, .bool true, .int .i64 0, .int .i64 0, .bool false, .bool false] 118) = W3 at *
  generalize w2.heap.size = g2 at *
  have HSv : Hid (∀ k, Sof p mp v k → k < w.heap.size) := Lib.hid HW.out.lt
  have hS0 : ¬ Sof p mp v w.heap.size := fun h => by have := HSv.out _ h; omega
  have hS2 : ¬ Sof p mp v g2 := fun h => by have := HSv.out _ h; omega
  have HBX3 := Lib.hid HBX.out
  have HSH3 := Lib.hid HSH.out
  have HS0 := Lib.hid hS0
  have HS2 := Lib.hid hS2
  have HD3 : Hid (Stb (Sof p mp v) W3 fun W => DR W (.slice A0 d.bytes.length k0) (.slice A1 d.host.length k1) (.slice A2 d.mail.length k2) (.slice A3 d.nums.length k3) (.slice A4 d.texts.length k4) d) := Lib.hid (HD.out.step (Stp.of_ext HE3.out))
  clear q0 q1 q2 q3 q4 s1 s2 s3 s5 s7 hS0 hS2
  refine (wname_Raw p mp v _ N b d.bytes f W3 (HW.out.ext HE3.out) HD3.out.here.by_ (by omega)).mono ?_
  rintro e W4 ⟨rfl, v4, hW4, hs4⟩
  have HW4 := Lib.hid hW4
  have HS4 := Lib.hid hs4
  clear hW4 hs4 HBX HSH
  have HBX := Lib.hid (stp_heap HS4.out HBX3.out HS0.out)
  have HSH := Lib.hid (stp_heap HS4.out HSH3.out HS2.out)
  have q0 := row_cells HBX.out 0
  have q1 := row_cells HBX.out 1
  have q2 := row_cells HBX.out 2
  have q3 := row_cells HBX.out 3
  have q4 := row_cells HBX.out 4
  have s1 := row_cells HSH.out 1
  have s2 := row_cells HSH.out 2
  have s3 := row_cells HSH.out 3
  have s5 := row_cells HSH.out 5
  have s7 := row_cells HSH.out 7
  simp at q0 q1 q2 q3 q4 s1 s2 s3 s5 s7
  go_wp2
  clear q0 q1 q2 q3 q4 s1 s2 s3 s5 s7
  go_loopw [9, 27] (fun _ i wr => ∃ (k : Nat) (vc : Value), k ≤ d.texts.length ∧ i = .int .i64 k ∧ WrP wr p mp vc N (b ++ d.bytes ++ textsB (d.texts.take k)) f ∧ Stp (Sof p mp v) W3 (Sof p mp vc) wr) (fun _ i _ => d.texts.length - (intOf i).toNat)
  case atStart => exact ⟨0, v4, by omega, rfl, by simpa [textsB] using HW4.out, HS4.out⟩
  case round =>
    obtain ⟨k, vc, hk, rfl, hW, hS⟩ := hrel
    have HWc := Lib.hid hW
    have HS := Lib.hid hS
    clear hW hS HBX HSH
    by_cases hlt : k < d.texts.length
    · obtain ⟨b1, o1, c1, e1, _, _, hc1⟩ := (HD3.out wr HS.out.1).tx.opens (by omega)
      injection e1 with e1 e3 e4
      subst e1
      clear e3 e4
      have hx := List.getElem?_eq_getElem hlt
      have hcx := hc1 k _ hx
      have HB := Lib.hid (textsB_snoc hx)
      have HLx : Hid (d.texts[k].size ≤ 255) := Lib.hid (by
        have := List.any_eq_false.1 HPl.out _ (List.mem_of_getElem? hx)
        unfold longT at this
        rw [decide_eq_true_eq] at this
        omega)
      have HL : Hid ((b ++ d.bytes ++ textsB (d.texts.take k)).length ≤ 140737488300000) := Lib.hid (by have := textsB_take_len d.texts k HPl.out pt; rw [List.length_append, List.length_append]; omega)
      clear hc1 hx
      generalize d.texts[k] = x at *
      generalize hBB : b ++ d.bytes ++ textsB (d.texts.take k) = BB at *
      have HBB := Lib.hid hBB
      clear hBB
      have hxs := HLx.out
      go_wp2_with fail
      refine (wname_Num p mp vc (x.size : Int) 1 N _ f wr HWc.out (by have := HL.out; omega)).mono ?_
      rintro e w4 ⟨rfl, v5, hW5, hs5⟩
      have HW5 := Lib.hid hW5
      have HS5 := Lib.hid (HS.out.trans hs5)
      clear hW5 hs5
      have kb := fun w => Lib.run_convert_string_bytes (P := Try.prog) w 9 22 5 x Try.underlying9 Try.underlying22 Try.underlying5
      have hcm := grownCap_le_maxLen w4 x.size 0 5 (by simp [maxLen]; omega)
      have hcg := grownCap_ge w4 x.size 0 5
      have HY := Lib.hid ((blk_bytes w4 x).fl x.size (grownCap w4 x.size 0 5) (bs_length x) hcg (by simpa [maxLen] using hcm))
      have HE5 := Lib.hid (ext_bytes w4 x)
      have HL5 : Hid ((BB ++ putN [] (x.size : Int) 1).length ≤ 140737488300007) := Lib.hid (by have := HL.out; have := putN_le (x.size : Int) (size := 1) (by omega); simp at this; rw [List.length_append]; omega)
      clear hcm hcg
      go_wp2_with fail
      generalize Lib.bytesWorld w4 5 x = w5 at *
      generalize grownCap w4 x.size 0 5 = cg at *
      refine (wname_Raw p mp _ _ N _ (bs x) f w5 (HW5.out.ext HE5.out) HY.out (by have := HL5.out; have := HLx.out; rw [bs_length]; omega)).mono ?_
      rintro e w6 ⟨rfl, v6, hW6, hs6⟩
      have HW6 := Lib.hid hW6
      have HS6 := Lib.hid ((HS5.out.ext HE5.out).trans hs6)
      clear hW6 hs6
      go_wp2
      go_roundw
      case rel => exact ⟨k + 1, v6, by omega, by go_num, by rw [HB.out, ← List.append_assoc, ← List.append_assoc, HBB.out]; exact HW6.out, HS6.out⟩
      case measure => simp [intOf]; omega
    · rw [List.take_of_length_le (by omega)] at HWc
      have HLB : Hid ((b ++ d.bytes ++ textsB d.texts).length ≤ 140737486100000) := Lib.hid (by have := textsB_take_len d.texts d.texts.length HPl.out pt; rw [List.take_length] at this; rw [List.length_append, List.length_append]; omega)
      have HNB : Hid (N ≤ (b ++ d.bytes ++ textsB d.texts).length) := Lib.hid (by have := HNb.out; rw [List.length_append, List.length_append]; omega)

      have HBX := Lib.hid (stp_heap HS.out HBX3.out HS0.out)
      have HSH := Lib.hid (stp_heap HS.out HSH3.out HS2.out)
      have q0 := row_cells HBX.out 0
      have q1 := row_cells HBX.out 1
      have q2 := row_cells HBX.out 2
      have q3 := row_cells HBX.out 3
      have q4 := row_cells HBX.out 4
      have s1 := row_cells HSH.out 1
      have s2 := row_cells HSH.out 2
      have s3 := row_cells HSH.out 3
      have s5 := row_cells HSH.out 5
      have s7 := row_cells HSH.out 7
      simp at q0 q1 q2 q3 q4 s1 s2 s3 s5 s7
      go_wp2_with fail
      clear q0 q1 q2 q3 q4 s1 s2 s3 s5 s7 HBX HSH
      refine (wname_Name p mp vc _ d.host true N (b ++ d.bytes ++ textsB d.texts) f wr HWc.out HNB.out (fun W' hk => (HD3.out.step HS.out W' hk).ho) (HPh.out (by first | rfl | trivial)) (by have := HLB.out; omega)).mono ?_
      rintro e X1 ⟨rfl, M1, hM9, y1, hW9, hs9⟩
      have HX1 := Lib.hid hW9
      have HT1 := Lib.hid (HS.out.trans hs9)
      have HL1 : Hid (((Wt.name d.host true).bytes (b ++ d.bytes ++ textsB d.texts) f).length ≤ 140737486101000) := Lib.hid (by have := HLB.out; have := name_grow (short := true) (b := (b ++ d.bytes ++ textsB d.texts)) (HPh.out (by first | rfl | trivial)) HWc.out.small; omega)
      have HM1 := Lib.hid hM9
      clear hW9 hs9 hM9
      obtain ⟨Z1, hZ1⟩ : ∃ Z, ((Wt.name d.host true).bytes (b ++ d.bytes ++ textsB d.texts) f) = Z := ⟨_, rfl⟩
      obtain ⟨G1, hG1⟩ : ∃ G, ((Wt.name d.host true).rests (b ++ d.bytes ++ textsB d.texts) f) = G := ⟨_, rfl⟩
      rw [hZ1, hG1] at HX1
      rw [hZ1] at HL1 HM1
      rw [hZ1, hG1] at HEQ
      clear hZ1 hG1
      have HBX := Lib.hid (stp_heap HT1.out HBX3.out HS0.out)
      have HSH := Lib.hid (stp_heap HT1.out HSH3.out HS2.out)
      have q0 := row_cells HBX.out 0
      have q1 := row_cells HBX.out 1
      have q2 := row_cells HBX.out 2
      have q3 := row_cells HBX.out 3
      have q4 := row_cells HBX.out 4
      have s1 := row_cells HSH.out 1
      have s2 := row_cells HSH.out 2
      have s3 := row_cells HSH.out 3
      have s5 := row_cells HSH.out 5
      have s7 := row_cells HSH.out 7
      simp at q0 q1 q2 q3 q4 s1 s2 s3 s5 s7
      go_wp2_with fail
      clear q0 q1 q2 q3 q4 s1 s2 s3 s5 s7 HBX HSH
      refine (rdata_nums p mp y1 _ d.nums 0 M1 Z1 G1 X1 HX1.out (fun W' hk => (HD3.out.step HT1.out W' hk).nu) (by have := HPn.out; omega) (by have := HL1.out; omega)).mono ?_
      rintro e X2 ⟨rfl, y2, hW9, hs9⟩
      have HX2 := Lib.hid hW9
      have HT2 := Lib.hid (HT1.out.trans hs9)
      have HL2 : Hid ((Z1 ++ numsB 0 d.nums).length ≤ 140737486102000) := Lib.hid (by have := HL1.out; have := numsB_len 0 d.nums; have := HPn.out; rw [List.length_append]; omega)
      have HM2 : Hid (M1 ≤ (Z1 ++ numsB 0 d.nums).length) := Lib.hid (by have := HM1.out; rw [List.length_append]; omega)
      clear hW9 hs9
      have HBX := Lib.hid (stp_heap HT2.out HBX3.out HS0.out)
      have HSH := Lib.hid (stp_heap HT2.out HSH3.out HS2.out)
      have q0 := row_cells HBX.out 0
      have q1 := row_cells HBX.out 1
      have q2 := row_cells HBX.out 2
      have q3 := row_cells HBX.out 3
      have q4 := row_cells HBX.out 4
      have s1 := row_cells HSH.out 1
      have s2 := row_cells HSH.out 2
      have s3 := row_cells HSH.out 3
      have s5 := row_cells HSH.out 5
      have s7 := row_cells HSH.out 7
      simp at q0 q1 q2 q3 q4 s1 s2 s3 s5 s7
      go_wp2
      go_ret
      refine ⟨rfl, M1, ?_, y2, ?_, ?_⟩
      · rw [← HEQ.out.1]; exact HM2.out
      · rw [← HEQ.out.1, ← HEQ.out.2]; exact HX2.out
      · exact (Stp.of_ext HE3.out).trans HT2.out
set_option maxRecDepth 100000 in
set_option maxHeartbeats 600000 in
theorem put_first (n : Nat) (sh : Bool) (hn : n ≤ 3) (kind : Int) (d : Dat) (p mp : Nat) (v v0 v1 v2 v3 v4 : Value) (N : Nat) (b : List UInt8) (f : Rests) (w : World) (hW : WrP w p mp v N b f) (hNb : N ≤ b.length) (hd : Stb (Sof p mp v) w fun W => DR W v0 v1 v2 v3 v4 d) (fd : DFit d) (ft : Fits d.texts) (hs : rsound kind d = true) (hb : b.length ≤ 140737486000000) (hsh : shapeOf kind = ⟨0, true, false, sh, n, 2, false, true⟩) :
    Calls Try.prog 60 #[.pointer (some ⟨p, 0, none⟩), .int .i64 kind, .agg #[v0, v1, v2, v3, v4]] w fun e w' => e = .returned (.int .i64 0) ∧ ∃ N', N' ≤ ((Wt.data kind d).bytes b f).length ∧ Wrote p mp v N' ((Wt.data kind d).bytes b f) ((Wt.data kind d).rests b f) w w' := by
  have hparts := rsound_parts hs hsh
  obtain ⟨_, pb, pn, ph, pm, pt, pl⟩ := hparts
  have hE0 := (Ext.refl w).alloc (.cells #[v0, v1, v2, v3, v4] 26)
  have HC := Lib.hid (rdata_Sound kind d _ _ _ _ _ (w.alloc (.cells #[v0, v1, v2, v3, v4] 26)) (hd _ (Kp.of_ext hE0)) fd ft)
  rw [hs] at HC
  have HC2 := Lib.hid (rdata_shapes kind)
  unfold ShapeGives at HC2
  rw [hsh] at HC2
  simp only [shapeC] at HC2
  have HD := Lib.hid hd
  have hd0 := hd.here
  obtain ⟨A0, k0, rfl, _, _⟩ := hd0.by_.form
  obtain ⟨A1, k1, rfl, _, _⟩ := hd0.ho.form
  obtain ⟨A2, k2, rfl, _, _⟩ := hd0.ma.form
  obtain ⟨A3, k3, rfl, _, _⟩ := hd0.nu.form
  obtain ⟨A4, k4, rfl, _, _⟩ := hd0.tx.form
  have HW := Lib.hid hW
  have HNb := Lib.hid hNb
  have HEQ : Hid (((Wt.name d.host sh).bytes ((b ++ d.bytes ++ textsB d.texts) ++ numsB 2 d.nums) f) = (Wt.data kind d).bytes b f ∧ ((Wt.name d.host sh).rests ((b ++ d.bytes ++ textsB d.texts) ++ numsB 2 d.nums) f) = (Wt.data kind d).rests b f) := Lib.hid (by simp only [Wt.data, hsh, nums_raw, texts_raw, Wt.bytes_seq, Wt.rests_seq, raw_bytes, raw_rests, skip_bytes, skip_rests, if_true, if_false, Bool.false_eq_true]; first | exact ⟨rfl, rfl⟩ | exact ⟨rfl, trivial⟩ | trivial)
  have HE0 := Lib.hid hE0
  have HB0 := Lib.hid (heap_alloc_new w (.cells #[.slice A0 d.bytes.length k0, .slice A1 d.host.length k1, .slice A2 d.mail.length k2, .slice A3 d.nums.length k3, .slice A4 d.texts.length k4] 26))
  have HPl := Lib.hid pl
  have HPn : Hid (d.nums.length ≤ 5) := Lib.hid (by simp only at pn; omega)
  have HPh := Lib.hid ph
  have HPm := Lib.hid pm
  obtain ⟨Bf, hBf⟩ : ∃ Bf, (Wt.data kind d).bytes b f = Bf := ⟨_, rfl⟩
  obtain ⟨Ff, hFf⟩ : ∃ Ff, (Wt.data kind d).rests b f = Ff := ⟨_, rfl⟩
  rw [hBf, hFf]
  rw [hBf, hFf] at HEQ
  clear hd hW hNb hE0 hd0 hs pl ph pm hBf hFf hsh fd ft pn
  go_enter Try.func60, Try.ntmps60
  go_wp2_with fail
  refine (HC.out).mono ?_
  rintro e w1 ⟨rfl, hE1⟩
  have HE1 := Lib.hid (HE0.out.trans hE1)
  have HB1 := Lib.hid (hE1.block HB0.out)
  clear hE1
  go_wp2_with fail
  refine (HC2.out w1).mono ?_
  rintro e w2 ⟨rfl, hE2⟩
  have hE3 := (Ext.refl w2).alloc (.cells #[.int .i64 0, .bool true, .bool false, .bool sh, .int .i64 n, .int .i64 2, .bool false, .bool true] 118)
  have HE3 := Lib.hid ((HE1.out.trans hE2).trans hE3)
  have HBX := Lib.hid (hE3.block (hE2.block HB1.out))
  have HSH := Lib.hid (heap_alloc_new w2 (.cells #[.int .i64 0, .bool true, .bool false, .bool sh, .int .i64 n, .int .i64 2, .bool false, .bool true] 118))
  have hg2 : w.heap.size ≤ w2.heap.size := (HE1.out.trans hE2).size
  clear hE2 hE3
  have q0 := row_cells HBX.out 0
  have q1 := row_cells HBX.out 1
  have q2 := row_cells HBX.out 2
  have q3 := row_cells HBX.out 3
  have q4 := row_cells HBX.out 4
  have s1 := row_cells HSH.out 1
  have s2 := row_cells HSH.out 2
  have s3 := row_cells HSH.out 3
  have s5 := row_cells HSH.out 5
  have s7 := row_cells HSH.out 7
  simp at q0 q1 q2 q3 q4 s1 s2 s3 s5 s7
  go_wp2_with fail
  generalize w2.alloc (.cells #[.int .i64 0, .bool true, .bool false, .bool sh, .int .i64 n, .int .i64 2, .bool false, .bool true] 118) = W3 at *
  generalize w2.heap.size = g2 at *
  have HSv : Hid (∀ k, Sof p mp v k → k < w.heap.size) := Lib.hid HW.out.lt
  have hS0 : ¬ Sof p mp v w.heap.size := fun h => by have := HSv.out _ h; omega
  have hS2 : ¬ Sof p mp v g2 := fun h => by have := HSv.out _ h; omega
  have HBX3 := Lib.hid HBX.out
  have HSH3 := Lib.hid HSH.out
  have HS0 := Lib.hid hS0
  have HS2 := Lib.hid hS2
  have HD3 : Hid (Stb (Sof p mp v) W3 fun W => DR W (.slice A0 d.bytes.length k0) (.slice A1 d.host.length k1) (.slice A2 d.mail.length k2) (.slice A3 d.nums.length k3) (.slice A4 d.texts.length k4) d) := Lib.hid (HD.out.step (Stp.of_ext HE3.out))
  clear q0 q1 q2 q3 q4 s1 s2 s3 s5 s7 hS0 hS2
  refine (wname_Raw p mp v _ N b d.bytes f W3 (HW.out.ext HE3.out) HD3.out.here.by_ (by omega)).mono ?_
  rintro e W4 ⟨rfl, v4, hW4, hs4⟩
  have HW4 := Lib.hid hW4
  have HS4 := Lib.hid hs4
  clear hW4 hs4 HBX HSH
  have HBX := Lib.hid (stp_heap HS4.out HBX3.out HS0.out)
  have HSH := Lib.hid (stp_heap HS4.out HSH3.out HS2.out)
  have q0 := row_cells HBX.out 0
  have q1 := row_cells HBX.out 1
  have q2 := row_cells HBX.out 2
  have q3 := row_cells HBX.out 3
  have q4 := row_cells HBX.out 4
  have s1 := row_cells HSH.out 1
  have s2 := row_cells HSH.out 2
  have s3 := row_cells HSH.out 3
  have s5 := row_cells HSH.out 5
  have s7 := row_cells HSH.out 7
  simp at q0 q1 q2 q3 q4 s1 s2 s3 s5 s7
  go_wp2
  clear q0 q1 q2 q3 q4 s1 s2 s3 s5 s7
  go_loopw [9, 27] (fun _ i wr => ∃ (k : Nat) (vc : Value), k ≤ d.texts.length ∧ i = .int .i64 k ∧ WrP wr p mp vc N (b ++ d.bytes ++ textsB (d.texts.take k)) f ∧ Stp (Sof p mp v) W3 (Sof p mp vc) wr) (fun _ i _ => d.texts.length - (intOf i).toNat)
  case atStart => exact ⟨0, v4, by omega, rfl, by simpa [textsB] using HW4.out, HS4.out⟩
  case round =>
    obtain ⟨k, vc, hk, rfl, hW, hS⟩ := hrel
    have HWc := Lib.hid hW
    have HS := Lib.hid hS
    clear hW hS HBX HSH
    by_cases hlt : k < d.texts.length
    · obtain ⟨b1, o1, c1, e1, _, _, hc1⟩ := (HD3.out wr HS.out.1).tx.opens (by omega)
      injection e1 with e1 e3 e4
      subst e1
      clear e3 e4
      have hx := List.getElem?_eq_getElem hlt
      have hcx := hc1 k _ hx
      have HB := Lib.hid (textsB_snoc hx)
      have HLx : Hid (d.texts[k].size ≤ 255) := Lib.hid (by
        have := List.any_eq_false.1 HPl.out _ (List.mem_of_getElem? hx)
        unfold longT at this
        rw [decide_eq_true_eq] at this
        omega)
      have HL : Hid ((b ++ d.bytes ++ textsB (d.texts.take k)).length ≤ 140737488300000) := Lib.hid (by have := textsB_take_len d.texts k HPl.out pt; rw [List.length_append, List.length_append]; omega)
      clear hc1 hx
      generalize d.texts[k] = x at *
      generalize hBB : b ++ d.bytes ++ textsB (d.texts.take k) = BB at *
      have HBB := Lib.hid hBB
      clear hBB
      have hxs := HLx.out
      go_wp2_with fail
      refine (wname_Num p mp vc (x.size : Int) 1 N _ f wr HWc.out (by have := HL.out; omega)).mono ?_
      rintro e w4 ⟨rfl, v5, hW5, hs5⟩
      have HW5 := Lib.hid hW5
      have HS5 := Lib.hid (HS.out.trans hs5)
      clear hW5 hs5
      have kb := fun w => Lib.run_convert_string_bytes (P := Try.prog) w 9 22 5 x Try.underlying9 Try.underlying22 Try.underlying5
      have hcm := grownCap_le_maxLen w4 x.size 0 5 (by simp [maxLen]; omega)
      have hcg := grownCap_ge w4 x.size 0 5
      have HY := Lib.hid ((blk_bytes w4 x).fl x.size (grownCap w4 x.size 0 5) (bs_length x) hcg (by simpa [maxLen] using hcm))
      have HE5 := Lib.hid (ext_bytes w4 x)
      have HL5 : Hid ((BB ++ putN [] (x.size : Int) 1).length ≤ 140737488300007) := Lib.hid (by have := HL.out; have := putN_le (x.size : Int) (size := 1) (by omega); simp at this; rw [List.length_append]; omega)
      clear hcm hcg
      go_wp2_with fail
      generalize Lib.bytesWorld w4 5 x = w5 at *
      generalize grownCap w4 x.size 0 5 = cg at *
      refine (wname_Raw p mp _ _ N _ (bs x) f w5 (HW5.out.ext HE5.out) HY.out (by have := HL5.out; have := HLx.out; rw [bs_length]; omega)).mono ?_
      rintro e w6 ⟨rfl, v6, hW6, hs6⟩
      have HW6 := Lib.hid hW6
      have HS6 := Lib.hid ((HS5.out.ext HE5.out).trans hs6)
      clear hW6 hs6
      go_wp2
      go_roundw
      case rel => exact ⟨k + 1, v6, by omega, by go_num, by rw [HB.out, ← List.append_assoc, ← List.append_assoc, HBB.out]; exact HW6.out, HS6.out⟩
      case measure => simp [intOf]; omega
    · rw [List.take_of_length_le (by omega)] at HWc
      have HLB : Hid ((b ++ d.bytes ++ textsB d.texts).length ≤ 140737486100000) := Lib.hid (by have := textsB_take_len d.texts d.texts.length HPl.out pt; rw [List.take_length] at this; rw [List.length_append, List.length_append]; omega)
      have HNB : Hid (N ≤ (b ++ d.bytes ++ textsB d.texts).length) := Lib.hid (by have := HNb.out; rw [List.length_append, List.length_append]; omega)

      have HBX := Lib.hid (stp_heap HS.out HBX3.out HS0.out)
      have HSH := Lib.hid (stp_heap HS.out HSH3.out HS2.out)
      have q0 := row_cells HBX.out 0
      have q1 := row_cells HBX.out 1
      have q2 := row_cells HBX.out 2
      have q3 := row_cells HBX.out 3
      have q4 := row_cells HBX.out 4
      have s1 := row_cells HSH.out 1
      have s2 := row_cells HSH.out 2
      have s3 := row_cells HSH.out 3
      have s5 := row_cells HSH.out 5
      have s7 := row_cells HSH.out 7
      simp at q0 q1 q2 q3 q4 s1 s2 s3 s5 s7
      go_wp2_with fail
      clear q0 q1 q2 q3 q4 s1 s2 s3 s5 s7 HBX HSH
      refine (rdata_nums p mp vc _ d.nums 2 N (b ++ d.bytes ++ textsB d.texts) f wr HWc.out (fun W' hk => (HD3.out.step HS.out W' hk).nu) (by have := HPn.out; omega) (by have := HLB.out; omega)).mono ?_
      rintro e X1 ⟨rfl, y1, hW9, hs9⟩
      have HX1 := Lib.hid hW9
      have HT1 := Lib.hid (HS.out.trans hs9)
      have HL1 : Hid (((b ++ d.bytes ++ textsB d.texts) ++ numsB 2 d.nums).length ≤ 140737486101000) := Lib.hid (by have := HLB.out; have := numsB_len 2 d.nums; have := HPn.out; rw [List.length_append]; omega)
      have HM1 : Hid (N ≤ ((b ++ d.bytes ++ textsB d.texts) ++ numsB 2 d.nums).length) := Lib.hid (by have := HNB.out; rw [List.length_append]; omega)
      clear hW9 hs9
      have HBX := Lib.hid (stp_heap HT1.out HBX3.out HS0.out)
      have HSH := Lib.hid (stp_heap HT1.out HSH3.out HS2.out)
      have q0 := row_cells HBX.out 0
      have q1 := row_cells HBX.out 1
      have q2 := row_cells HBX.out 2
      have q3 := row_cells HBX.out 3
      have q4 := row_cells HBX.out 4
      have s1 := row_cells HSH.out 1
      have s2 := row_cells HSH.out 2
      have s3 := row_cells HSH.out 3
      have s5 := row_cells HSH.out 5
      have s7 := row_cells HSH.out 7
      simp at q0 q1 q2 q3 q4 s1 s2 s3 s5 s7
      go_wp2_with fail
      clear q0 q1 q2 q3 q4 s1 s2 s3 s5 s7 HBX HSH
      refine (wname_Name p mp y1 _ d.host sh N ((b ++ d.bytes ++ textsB d.texts) ++ numsB 2 d.nums) f X1 HX1.out HM1.out (fun W' hk => (HD3.out.step HT1.out W' hk).ho) (HPh.out (by first | rfl | trivial)) (by have := HL1.out; omega)).mono ?_
      rintro e X2 ⟨rfl, M2, hM9, y2, hW9, hs9⟩
      have HX2 := Lib.hid hW9
      have HT2 := Lib.hid (HT1.out.trans hs9)
      have HL2 : Hid (((Wt.name d.host sh).bytes ((b ++ d.bytes ++ textsB d.texts) ++ numsB 2 d.nums) f).length ≤ 140737486102000) := Lib.hid (by have := HL1.out; have := name_grow (short := sh) (b := ((b ++ d.bytes ++ textsB d.texts) ++ numsB 2 d.nums)) (HPh.out (by first | rfl | trivial)) HX1.out.small; omega)
      have HM2 := Lib.hid hM9
      clear hW9 hs9 hM9
      obtain ⟨Z2, hZ2⟩ : ∃ Z, ((Wt.name d.host sh).bytes ((b ++ d.bytes ++ textsB d.texts) ++ numsB 2 d.nums) f) = Z := ⟨_, rfl⟩
      obtain ⟨G2, hG2⟩ : ∃ G, ((Wt.name d.host sh).rests ((b ++ d.bytes ++ textsB d.texts) ++ numsB 2 d.nums) f) = G := ⟨_, rfl⟩
      rw [hZ2, hG2] at HX2
      rw [hZ2] at HL2 HM2
      rw [hZ2, hG2] at HEQ
      clear hZ2 hG2
      have HBX := Lib.hid (stp_heap HT2.out HBX3.out HS0.out)
      have HSH := Lib.hid (stp_heap HT2.out HSH3.out HS2.out)
      have q0 := row_cells HBX.out 0
      have q1 := row_cells HBX.out 1
      have q2 := row_cells HBX.out 2
      have q3 := row_cells HBX.out 3
      have q4 := row_cells HBX.out 4
      have s1 := row_cells HSH.out 1
      have s2 := row_cells HSH.out 2
      have s3 := row_cells HSH.out 3
      have s5 := row_cells HSH.out 5
      have s7 := row_cells HSH.out 7
      simp at q0 q1 q2 q3 q4 s1 s2 s3 s5 s7
      go_wp2
      go_ret
      refine ⟨rfl, M2, ?_, y2, ?_, ?_⟩
      · rw [← HEQ.out.1]; exact HM2.out
      · rw [← HEQ.out.1, ← HEQ.out.2]; exact HX2.out
      · exact (Stp.of_ext HE3.out).trans HT2.out
set_option maxRecDepth 100000 in
set_option maxHeartbeats 600000 in
theorem put_soa (kind : Int) (d : Dat) (p mp : Nat) (v v0 v1 v2 v3 v4 : Value) (N : Nat) (b : List UInt8) (f : Rests) (w : World) (hW : WrP w p mp v N b f) (hNb : N ≤ b.length) (hd : Stb (Sof p mp v) w fun W => DR W v0 v1 v2 v3 v4 d) (fd : DFit d) (ft : Fits d.texts) (hs : rsound kind d = true) (hb : b.length ≤ 140737486000000) (hsh : shapeOf kind = ⟨0, true, true, true, 5, 4, false, false⟩) :
    Calls Try.prog 60 #[.pointer (some ⟨p, 0, none⟩), .int .i64 kind, .agg #[v0, v1, v2, v3, v4]] w fun e w' => e = .returned (.int .i64 0) ∧ ∃ N', N' ≤ ((Wt.data kind d).bytes b f).length ∧ Wrote p mp v N' ((Wt.data kind d).bytes b f) ((Wt.data kind d).rests b f) w w' := by
  have hparts := rsound_parts hs hsh
  obtain ⟨_, pb, pn, ph, pm, pt, pl⟩ := hparts
  have hE0 := (Ext.refl w).alloc (.cells #[v0, v1, v2, v3, v4] 26)
  have HC := Lib.hid (rdata_Sound kind d _ _ _ _ _ (w.alloc (.cells #[v0, v1, v2, v3, v4] 26)) (hd _ (Kp.of_ext hE0)) fd ft)
  rw [hs] at HC
  have HC2 := Lib.hid (rdata_shapes kind)
  unfold ShapeGives at HC2
  rw [hsh] at HC2
  simp only [shapeC] at HC2
  have HD := Lib.hid hd
  have hd0 := hd.here
  obtain ⟨A0, k0, rfl, _, _⟩ := hd0.by_.form
  obtain ⟨A1, k1, rfl, _, _⟩ := hd0.ho.form
  obtain ⟨A2, k2, rfl, _, _⟩ := hd0.ma.form
  obtain ⟨A3, k3, rfl, _, _⟩ := hd0.nu.form
  obtain ⟨A4, k4, rfl, _, _⟩ := hd0.tx.form
  have HW := Lib.hid hW
  have HNb := Lib.hid hNb
  have HEQ : Hid ((((Wt.name d.mail true).bytes ((Wt.name d.host true).bytes (b ++ d.bytes ++ textsB d.texts) f) ((Wt.name d.host true).rests (b ++ d.bytes ++ textsB d.texts) f)) ++ numsB 4 d.nums) = (Wt.data kind d).bytes b f ∧ ((Wt.name d.mail true).rests ((Wt.name d.host true).bytes (b ++ d.bytes ++ textsB d.texts) f) ((Wt.name d.host true).rests (b ++ d.bytes ++ textsB d.texts) f)) = (Wt.data kind d).rests b f) := Lib.hid (by simp only [Wt.data, hsh, nums_raw, texts_raw, Wt.bytes_seq, Wt.rests_seq, raw_bytes, raw_rests, skip_bytes, skip_rests, if_true, if_false, Bool.false_eq_true]; first | exact ⟨rfl, rfl⟩ | exact ⟨rfl, trivial⟩ | trivial)
  have HE0 := Lib.hid hE0
  have HB0 := Lib.hid (heap_alloc_new w (.cells #[.slice A0 d.bytes.length k0, .slice A1 d.host.length k1, .slice A2 d.mail.length k2, .slice A3 d.nums.length k3, .slice A4 d.texts.length k4] 26))
  have HPl := Lib.hid pl
  have HPn : Hid (d.nums.length ≤ 5) := Lib.hid (by simp only at pn; omega)
  have HPh := Lib.hid ph
  have HPm := Lib.hid pm
  obtain ⟨Bf, hBf⟩ : ∃ Bf, (Wt.data kind d).bytes b f = Bf := ⟨_, rfl⟩
  obtain ⟨Ff, hFf⟩ : ∃ Ff, (Wt.data kind d).rests b f = Ff := ⟨_, rfl⟩
  rw [hBf, hFf]
  rw [hBf, hFf] at HEQ
  clear hd hW hNb hE0 hd0 hs pl ph pm hBf hFf hsh fd ft pn
  go_enter Try.func60, Try.ntmps60
  go_wp2_with fail
  refine (HC.out).mono ?_
  rintro e w1 ⟨rfl, hE1⟩
  have HE1 := Lib.hid (HE0.out.trans hE1)
  have HB1 := Lib.hid (hE1.block HB0.out)
  clear hE1
  go_wp2_with fail
  refine (HC2.out w1).mono ?_
  rintro e w2 ⟨rfl, hE2⟩
  have hE3 := (Ext.refl w2).alloc (.cells #[.int .i64 0, .bool true, .bool true, .bool true, .int .i64 5, .int .i64 4, .bool false, .bool false] 118)
  have HE3 := Lib.hid ((HE1.out.trans hE2).trans hE3)
  have HBX := Lib.hid (hE3.block (hE2.block HB1.out))
  have HSH := Lib.hid (heap_alloc_new w2 (.cells #[.int .i64 0, .bool true, .bool true, .bool true, .int .i64 5, .int .i64 4, .bool false, .bool false] 118))
  have hg2 : w.heap.size ≤ w2.heap.size := (HE1.out.trans hE2).size
  clear hE2 hE3
  have q0 := row_cells HBX.out 0
  have q1 := row_cells HBX.out 1
  have q2 := row_cells HBX.out 2
  have q3 := row_cells HBX.out 3
  have q4 := row_cells HBX.out 4
  have s1 := row_cells HSH.out 1
  have s2 := row_cells HSH.out 2
  have s3 := row_cells HSH.out 3
  have s5 := row_cells HSH.out 5
  have s7 := row_cells HSH.out 7
  simp at q0 q1 q2 q3 q4 s1 s2 s3 s5 s7
  go_wp2_with fail
  generalize w2.alloc (.cells #[.int .i64 0, .bool true, .bool true, .bool true, .int .i64 5, .int .i64 4, .bool false, .bool false] 118) = W3 at *
  generalize w2.heap.size = g2 at *
  have HSv : Hid (∀ k, Sof p mp v k → k < w.heap.size) := Lib.hid HW.out.lt
  have hS0 : ¬ Sof p mp v w.heap.size := fun h => by have := HSv.out _ h; omega
  have hS2 : ¬ Sof p mp v g2 := fun h => by have := HSv.out _ h; omega
  have HBX3 := Lib.hid HBX.out
  have HSH3 := Lib.hid HSH.out
  have HS0 := Lib.hid hS0
  have HS2 := Lib.hid hS2
  have HD3 : Hid (Stb (Sof p mp v) W3 fun W => DR W (.slice A0 d.bytes.length k0) (.slice A1 d.host.length k1) (.slice A2 d.mail.length k2) (.slice A3 d.nums.length k3) (.slice A4 d.texts.length k4) d) := Lib.hid (HD.out.step (Stp.of_ext HE3.out))
  clear q0 q1 q2 q3 q4 s1 s2 s3 s5 s7 hS0 hS2
  refine (wname_Raw p mp v _ N b d.bytes f W3 (HW.out.ext HE3.out) HD3.out.here.by_ (by omega)).mono ?_
  rintro e W4 ⟨rfl, v4, hW4, hs4⟩
  have HW4 := Lib.hid hW4
  have HS4 := Lib.hid hs4
  clear hW4 hs4 HBX HSH
  have HBX := Lib.hid (stp_heap HS4.out HBX3.out HS0.out)
  have HSH := Lib.hid (stp_heap HS4.out HSH3.out HS2.out)
  have q0 := row_cells HBX.out 0
  have q1 := row_cells HBX.out 1
  have q2 := row_cells HBX.out 2
  have q3 := row_cells HBX.out 3
  have q4 := row_cells HBX.out 4
  have s1 := row_cells HSH.out 1
  have s2 := row_cells HSH.out 2
  have s3 := row_cells HSH.out 3
  have s5 := row_cells HSH.out 5
  have s7 := row_cells HSH.out 7
  simp at q0 q1 q2 q3 q4 s1 s2 s3 s5 s7
  go_wp2
  clear q0 q1 q2 q3 q4 s1 s2 s3 s5 s7
  go_loopw [9, 27] (fun _ i wr => ∃ (k : Nat) (vc : Value), k ≤ d.texts.length ∧ i = .int .i64 k ∧ WrP wr p mp vc N (b ++ d.bytes ++ textsB (d.texts.take k)) f ∧ Stp (Sof p mp v) W3 (Sof p mp vc) wr) (fun _ i _ => d.texts.length - (intOf i).toNat)
  case atStart => exact ⟨0, v4, by omega, rfl, by simpa [textsB] using HW4.out, HS4.out⟩
  case round =>
    obtain ⟨k, vc, hk, rfl, hW, hS⟩ := hrel
    have HWc := Lib.hid hW
    have HS := Lib.hid hS
    clear hW hS HBX HSH
    by_cases hlt : k < d.texts.length
    · obtain ⟨b1, o1, c1, e1, _, _, hc1⟩ := (HD3.out wr HS.out.1).tx.opens (by omega)
      injection e1 with e1 e3 e4
      subst e1
      clear e3 e4
      have hx := List.getElem?_eq_getElem hlt
      have hcx := hc1 k _ hx
      have HB := Lib.hid (textsB_snoc hx)
      have HLx : Hid (d.texts[k].size ≤ 255) := Lib.hid (by
        have := List.any_eq_false.1 HPl.out _ (List.mem_of_getElem? hx)
        unfold longT at this
        rw [decide_eq_true_eq] at this
        omega)
      have HL : Hid ((b ++ d.bytes ++ textsB (d.texts.take k)).length ≤ 140737488300000) := Lib.hid (by have := textsB_take_len d.texts k HPl.out pt; rw [List.length_append, List.length_append]; omega)
      clear hc1 hx
      generalize d.texts[k] = x at *
      generalize hBB : b ++ d.bytes ++ textsB (d.texts.take k) = BB at *
      have HBB := Lib.hid hBB
      clear hBB
      have hxs := HLx.out
      go_wp2_with fail
      refine (wname_Num p mp vc (x.size : Int) 1 N _ f wr HWc.out (by have := HL.out; omega)).mono ?_
      rintro e w4 ⟨rfl, v5, hW5, hs5⟩
      have HW5 := Lib.hid hW5
      have HS5 := Lib.hid (HS.out.trans hs5)
      clear hW5 hs5
      have kb := fun w => Lib.run_convert_string_bytes (P := Try.prog) w 9 22 5 x Try.underlying9 Try.underlying22 Try.underlying5
      have hcm := grownCap_le_maxLen w4 x.size 0 5 (by simp [maxLen]; omega)
      have hcg := grownCap_ge w4 x.size 0 5
      have HY := Lib.hid ((blk_bytes w4 x).fl x.size (grownCap w4 x.size 0 5) (bs_length x) hcg (by simpa [maxLen] using hcm))
      have HE5 := Lib.hid (ext_bytes w4 x)
      have HL5 : Hid ((BB ++ putN [] (x.size : Int) 1).length ≤ 140737488300007) := Lib.hid (by have := HL.out; have := putN_le (x.size : Int) (size := 1) (by omega); simp at this; rw [List.length_append]; omega)
      clear hcm hcg
      go_wp2_with fail
      generalize Lib.bytesWorld w4 5 x = w5 at *
      generalize grownCap w4 x.size 0 5 = cg at *
      refine (wname_Raw p mp _ _ N _ (bs x) f w5 (HW5.out.ext HE5.out) HY.out (by have := HL5.out; have := HLx.out; rw [bs_length]; omega)).mono ?_
      rintro e w6 ⟨rfl, v6, hW6, hs6⟩
      have HW6 := Lib.hid hW6
      have HS6 := Lib.hid ((HS5.out.ext HE5.out).trans hs6)
      clear hW6 hs6
      go_wp2
      go_roundw
      case rel => exact ⟨k + 1, v6, by omega, by go_num, by rw [HB.out, ← List.append_assoc, ← List.append_assoc, HBB.out]; exact HW6.out, HS6.out⟩
      case measure => simp [intOf]; omega
    · rw [List.take_of_length_le (by omega)] at HWc
      have HLB : Hid ((b ++ d.bytes ++ textsB d.texts).length ≤ 140737486100000) := Lib.hid (by have := textsB_take_len d.texts d.texts.length HPl.out pt; rw [List.take_length] at this; rw [List.length_append, List.length_append]; omega)
      have HNB : Hid (N ≤ (b ++ d.bytes ++ textsB d.texts).length) := Lib.hid (by have := HNb.out; rw [List.length_append, List.length_append]; omega)

      have HBX := Lib.hid (stp_heap HS.out HBX3.out HS0.out)
      have HSH := Lib.hid (stp_heap HS.out HSH3.out HS2.out)
      have q0 := row_cells HBX.out 0
      have q1 := row_cells HBX.out 1
      have q2 := row_cells HBX.out 2
      have q3 := row_cells HBX.out 3
      have q4 := row_cells HBX.out 4
      have s1 := row_cells HSH.out 1
      have s2 := row_cells HSH.out 2
      have s3 := row_cells HSH.out 3
      have s5 := row_cells HSH.out 5
      have s7 := row_cells HSH.out 7
      simp at q0 q1 q2 q3 q4 s1 s2 s3 s5 s7
      go_wp2_with fail
      clear q0 q1 q2 q3 q4 s1 s2 s3 s5 s7 HBX HSH
      refine (wname_Name p mp vc _ d.host true N (b ++ d.bytes ++ textsB d.texts) f wr HWc.out HNB.out (fun W' hk => (HD3.out.step HS.out W' hk).ho) (HPh.out (by first | rfl | trivial)) (by have := HLB.out; omega)).mono ?_
      rintro e X1 ⟨rfl, M1, hM9, y1, hW9, hs9⟩
      have HX1 := Lib.hid hW9
      have HT1 := Lib.hid (HS.out.trans hs9)
      have HL1 : Hid (((Wt.name d.host true).bytes (b ++ d.bytes ++ textsB d.texts) f).length ≤ 140737486101000) := Lib.hid (by have := HLB.out; have := name_grow (short := true) (b := (b ++ d.bytes ++ textsB d.texts)) (HPh.out (by first | rfl | trivial)) HWc.out.small; omega)
      have HM1 := Lib.hid hM9
      clear hW9 hs9 hM9
      obtain ⟨Z1, hZ1⟩ : ∃ Z, ((Wt.name d.host true).bytes (b ++ d.bytes ++ textsB d.texts) f) = Z := ⟨_, rfl⟩
      obtain ⟨G1, hG1⟩ : ∃ G, ((Wt.name d.host true).rests (b ++ d.bytes ++ textsB d.texts) f) = G := ⟨_, rfl⟩
      rw [hZ1, hG1] at HX1
      rw [hZ1] at HL1 HM1
      rw [hZ1, hG1] at HEQ
      clear hZ1 hG1
      have HBX := Lib.hid (stp_heap HT1.out HBX3.out HS0.out)
      have HSH := Lib.hid (stp_heap HT1.out HSH3.out HS2.out)
      have q0 := row_cells HBX.out 0
      have q1 := row_cells HBX.out 1
      have q2 := row_cells HBX.out 2
      have q3 := row_cells HBX.out 3
      have q4 := row_cells HBX.out 4
      have s1 := row_cells HSH.out 1
      have s2 := row_cells HSH.out 2
      have s3 := row_cells HSH.out 3
      have s5 := row_cells HSH.out 5
      have s7 := row_cells HSH.out 7
      simp at q0 q1 q2 q3 q4 s1 s2 s3 s5 s7
      go_wp2_with fail
      clear q0 q1 q2 q3 q4 s1 s2 s3 s5 s7 HBX HSH
      refine (wname_Name p mp y1 _ d.mail true M1 Z1 G1 X1 HX1.out HM1.out (fun W' hk => (HD3.out.step HT1.out W' hk).ma) (HPm.out (by first | rfl | trivial)) (by have := HL1.out; omega)).mono ?_
      rintro e X2 ⟨rfl, M2, hM9, y2, hW9, hs9⟩
      have HX2 := Lib.hid hW9
      have HT2 := Lib.hid (HT1.out.trans hs9)
      have HL2 : Hid (((Wt.name d.mail true).bytes Z1 G1).length ≤ 140737486102000) := Lib.hid (by have := HL1.out; have := name_grow (short := true) (b := Z1) (HPm.out (by first | rfl | trivial)) HX1.out.small; omega)
      have HM2 := Lib.hid hM9
      clear hW9 hs9 hM9
      obtain ⟨Z2, hZ2⟩ : ∃ Z, ((Wt.name d.mail true).bytes Z1 G1) = Z := ⟨_, rfl⟩
      obtain ⟨G2, hG2⟩ : ∃ G, ((Wt.name d.mail true).rests Z1 G1) = G := ⟨_, rfl⟩
      rw [hZ2, hG2] at HX2
      rw [hZ2] at HL2 HM2
      rw [hZ2, hG2] at HEQ
      clear hZ2 hG2
      have HBX := Lib.hid (stp_heap HT2.out HBX3.out HS0.out)
      have HSH := Lib.hid (stp_heap HT2.out HSH3.out HS2.out)
      have q0 := row_cells HBX.out 0
      have q1 := row_cells HBX.out 1
      have q2 := row_cells HBX.out 2
      have q3 := row_cells HBX.out 3
      have q4 := row_cells HBX.out 4
      have s1 := row_cells HSH.out 1
      have s2 := row_cells HSH.out 2
      have s3 := row_cells HSH.out 3
      have s5 := row_cells HSH.out 5
      have s7 := row_cells HSH.out 7
      simp at q0 q1 q2 q3 q4 s1 s2 s3 s5 s7
      go_wp2_with fail
      clear q0 q1 q2 q3 q4 s1 s2 s3 s5 s7 HBX HSH
      refine (rdata_nums p mp y2 _ d.nums 4 M2 Z2 G2 X2 HX2.out (fun W' hk => (HD3.out.step HT2.out W' hk).nu) (by have := HPn.out; omega) (by have := HL2.out; omega)).mono ?_
      rintro e X3 ⟨rfl, y3, hW9, hs9⟩
      have HX3 := Lib.hid hW9
      have HT3 := Lib.hid (HT2.out.trans hs9)
      have HL3 : Hid ((Z2 ++ numsB 4 d.nums).length ≤ 140737486103000) := Lib.hid (by have := HL2.out; have := numsB_len 4 d.nums; have := HPn.out; rw [List.length_append]; omega)
      have HM3 : Hid (M2 ≤ (Z2 ++ numsB 4 d.nums).length) := Lib.hid (by have := HM2.out; rw [List.length_append]; omega)
      clear hW9 hs9
      have HBX := Lib.hid (stp_heap HT3.out HBX3.out HS0.out)
      have HSH := Lib.hid (stp_heap HT3.out HSH3.out HS2.out)
      have q0 := row_cells HBX.out 0
      have q1 := row_cells HBX.out 1
      have q2 := row_cells HBX.out 2
      have q3 := row_cells HBX.out 3
      have q4 := row_cells HBX.out 4
      have s1 := row_cells HSH.out 1
      have s2 := row_cells HSH.out 2
      have s3 := row_cells HSH.out 3
      have s5 := row_cells HSH.out 5
      have s7 := row_cells HSH.out 7
      simp at q0 q1 q2 q3 q4 s1 s2 s3 s5 s7
      go_wp2
      go_ret
      refine ⟨rfl, M2, ?_, y3, ?_, ?_⟩
      · rw [← HEQ.out.1]; exact HM3.out
      · rw [← HEQ.out.1, ← HEQ.out.2]; exact HX3.out
      · exact (Stp.of_ext HE3.out).trans HT3.out
/-- rdata.Put of sound data. -/
theorem rdata_Put (kind : Int) (d : Dat) (p mp : Nat) (v v0 v1 v2 v3 v4 : Value) (N : Nat) (b : List UInt8) (f : Rests) (w : World) (hW : WrP w p mp v N b f) (hNb : N ≤ b.length) (hd : Stb (Sof p mp v) w fun W => DR W v0 v1 v2 v3 v4 d) (fd : DFit d) (ft : Fits d.texts) (hs : rsound kind d = true) (hb : b.length ≤ 140737486000000) :
    Calls Try.prog 60 #[.pointer (some ⟨p, 0, none⟩), .int .i64 kind, .agg #[v0, v1, v2, v3, v4]] w fun e w' => e = .returned (.int .i64 0) ∧ ∃ N', N' ≤ ((Wt.data kind d).bytes b f).length ∧ Wrote p mp v N' ((Wt.data kind d).bytes b f) ((Wt.data kind d).rests b f) w w' := by
  rcases shape_cases kind with ⟨n, hn, h⟩ | h | ⟨n, sh, hn, h⟩ | h | h | h
  · exact put_bytes n kind d p mp v v0 v1 v2 v3 v4 N b f w hW hNb hd fd ft hs hb h
  · exact put_host kind d p mp v v0 v1 v2 v3 v4 N b f w hW hNb hd fd ft hs hb h
  · exact put_first n sh hn kind d p mp v v0 v1 v2 v3 v4 N b f w hW hNb hd fd ft hs hb h
  · exact put_soa kind d p mp v v0 v1 v2 v3 v4 N b f w hW hNb hd fd ft hs hb h
  · exact put_texts kind d p mp v v0 v1 v2 v3 v4 N b f w hW hNb hd fd ft hs hb h
  · exact put_bytes (-1) kind d p mp v v0 v1 v2 v3 v4 N b f w hW hNb hd fd ft hs hb h
end Go.Proofs.Ytfnelkcllaaebaa
end
