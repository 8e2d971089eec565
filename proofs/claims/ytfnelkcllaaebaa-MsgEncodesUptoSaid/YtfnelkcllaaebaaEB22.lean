/- Parts of one proof, joined: AppZ, RPut, Mr, MrF, AppH. Conditions: those that each theorem states. -/
import Derived.Test.YtfnelkcllaaebaaEB18
import Derived.Test.YtfnelkcllaaebaaEB3
import Derived.Test.YtfnelkcllaaebaaEB8
import Derived.Test.YtfnelkcllaaebaaECLTexts
import Derived.Test.YtfnelkcllaaebaaEB25
import Derived.Test.YtfnelkcllaaebaaEB17
section
/- Appending to a row of our own that may be an empty literal. No condition. -/
open Go.RowKit
set_option linter.unusedVariables false
set_option linter.unusedSimpArgs false
namespace Go.Proofs.Ytfnelkcllaaebaa
/-- A row of our own; where it is empty, nothing is behind it. -/
def NewZ {α : Type} (V : α → Value) (e : TypeId) (w : World) (base : Nat) (v : Value) (l : List α) : Prop := NewS V e w base v l ∧ (l = [] → ∃ A, v = .slice A 0 0)
theorem NewZ.ext {α : Type} {V : α → Value} {e : TypeId} {w w1 : World} {base : Nat} {v : Value} {l : List α} (h : NewZ V e w base v l) (he : Ext w w1) : NewZ V e w1 base v l := ⟨h.1.ext he, h.2⟩
theorem NewZ.mono {α : Type} {V : α → Value} {e : TypeId} {w : World} {base base' : Nat} {v : Value} {l : List α} (h : NewZ V e w base v l) (hb : base' ≤ base) : NewZ V e w base' v l := ⟨h.1.mono hb, h.2⟩
section
variable {P : Program} {ops : Array Oper} {rest : List Oper} {o : Oper} {a : Act} {Q : Exit → Act → World → Prop}
theorem wpList_app0z {α : Type} (V : α → Value) {W : World} (hgd : o.guard = none) (s x : Operand) (t e : TypeId) (z : Value) (bytes : Nat)
    (ho : o.op = .call { callee := .builtin .append, args := #[s, x], argTypes := #[t, t] })
    (ht : P.underlying t = some (.slice e)) (hinfo : (P.info? e).map (fun i => (i.zero, i.size, i.bytes)) = some (some z, 1, bytes)) (hz : z.cells.size = 1) (hb0 : 0 < bytes)
    (A0 : Option Addr) (ys : List α) (vy : Value) (hs : a.eval s = .slice A0 0 0) (hx : a.eval x = vy) (h1 : ∀ y, (V y).oneCell' = true)
    (HY : Fl V W vy ys) (hl : ys.length * bytes ≤ 140737488355328)
    (h : ∀ v1 w1, NewS V e w1 W.heap.size v1 ys → (ys = [] → v1 = .slice A0 0 0) → Ext W w1 → wpList P ops Q rest (a.put o.dst v1) w1) :
    wpList P ops Q (o :: rest) a W := by
  obtain ⟨i0, hi, hzz⟩ := Option.map_eq_some_iff.1 hinfo
  simp only [Prod.mk.injEq] at hzz
  obtain ⟨hz0, hz1, hz2⟩ := hzz
  have hlen : ys.length ≤ 140737488355328 := Nat.le_trans (Nat.le_mul_of_pos_right _ hb0) hl
  have hrun : ∃ v1 w1, (Builtin.append_ #[t, t] o.type #[.slice A0 0 0, vy]).run P W = .ok v1 w1 ∧ NewS V e w1 W.heap.size v1 ys ∧ (ys = [] → v1 = .slice A0 0 0) ∧ Ext W w1 := by
    rcases Nat.eq_zero_or_pos ys.length with h0 | h0
    · obtain rfl : ys = [] := List.eq_nil_of_length_eq_zero h0
      obtain ⟨A, c, rfl, h2, h3, h4⟩ := HY
      refine ⟨.slice A0 0 0, W, ?_, ⟨fl_empty V W A0, fun h => absurd rfl h⟩, fun _ => rfl, Ext.refl W⟩
      cases A <;> cases A0 <;> simp [Builtin.append_, run_underlying ht, sizeOf, typeInfo, hi, Builtin.lenOf, Builtin.firstCells, loadCells, loadCellsFrom, storeCells]
    · obtain ⟨b, ob, c, rfl, h2, h3, hcell⟩ := HY.opens h0
      obtain ⟨v1, w1, hr, hown, hg, _, _⟩ := run_append_own_at (P := P) W W.heap.size t o.type e i0 z 1 bytes ht hi hz0 hz1 hz2 hz (by omega) (.slice none 0 0) 0 [] (World.ownsRow_nil W W.heap.size e 1) ⟨b, ob, none⟩ ys.length c (ys.map V) (by simp) (fun j u hu => by
        rw [List.getElem?_map] at hu
        cases hy : ys[j]? with
        | none => rw [hy] at hu; cases hu
        | some y =>
          rw [hy] at hu
          injection hu with hu
          have ha : (⟨b, ob, none⟩ : Addr).add j = ⟨b, ob + j, none⟩ := by unfold Addr.add; split <;> simp_all
          rw [ha, ← hu]
          exact hcell j y hy)
        (by intro u hu; simp only [List.mem_map] at hu; obtain ⟨q, _, rfl⟩ := hu; exact h1 q) (by simp only [maxLen]; omega) (by simpa using hl) (Nat.le_refl _)
      have hO : OwnL V e w1 W.heap.size v1 ys := by unfold OwnL; simpa using hown
      refine ⟨v1, w1, ?_, ⟨hO.fl, fun _ => hO⟩, (fun h => by rw [h] at h0; simp at h0), (Ext.refl W).grown hg (by intro k hk; cases hk)⟩
      rw [← hr]
      have hsrc : Src P i0.size t (.slice (some ⟨b, ob, none⟩) ys.length c) ys.length (ys.map V) W := by
        refine Src.ofSlice W ht _ _ _ _ (by rw [hz1]; simp) (fun j u hu => ?_) (by intro u hu; simp only [List.mem_map] at hu; obtain ⟨q, _, rfl⟩ := hu; exact h1 q)
        rw [List.getElem?_map] at hu
        cases hy : ys[j]? with
        | none => rw [hy] at hu; cases hu
        | some y =>
          rw [hy] at hu
          injection hu with hu
          have ha : (⟨b, ob, none⟩ : Addr).add j = ⟨b, ob + j, none⟩ := by unfold Addr.add; split <;> simp_all
          rw [ha, ← hu]
          exact hcell j y hy
      have hgo : ∀ A1 : Option Addr, _ := fun A1 => run_append_grow_src (P := P) W t t o.type e i0 z ht hi hz0 A1 0 0 [] (by cases A1 <;> simp [Builtin.firstCells, loadCells, loadCellsFrom]) _ _ _ hsrc (by omega) (by omega) (by rw [hz2, Nat.zero_add]; exact growslice_fits (by omega) hl)
      rw [hgo A0, hgo none]
  obtain ⟨v1, w1, hr, hown, hz', hg⟩ := hrun
  refine wpList_plain hgd fun K hK => ?_
  unfold Oper.wp execOp
  simp only [ho, resolve, invoke, builtin, Sem.run_bind, Sem.run_pure, Result.andThen_ok, List.map_toArray, List.map_cons, List.map_nil, hs, hx, hr]
  exact hK _ _ (h v1 w1 hown hz' hg)
/-- append(v, ys...), v a row of our own, or an empty literal. -/
theorem wpList_appZ {α : Type} (V : α → Value) {W : World} (base : Nat) (hgd : o.guard = none) (s x : Operand) (t e : TypeId) (z : Value) (bytes : Nat)
    (ho : o.op = .call { callee := .builtin .append, args := #[s, x], argTypes := #[t, t] })
    (ht : P.underlying t = some (.slice e)) (hinfo : (P.info? e).map (fun i => (i.zero, i.size, i.bytes)) = some (some z, 1, bytes)) (hz : z.cells.size = 1) (hb0 : 0 < bytes)
    (v : Value) (l ys : List α) (vy : Value) (hs : a.eval s = v) (hx : a.eval x = vy) (h1 : ∀ y, (V y).oneCell' = true)
    (HO : NewZ V e W base v l) (HY : Fl V W vy ys) (hbase : base ≤ W.heap.size) (hl : (l.length + ys.length) * bytes ≤ 140737488355328)
    (h : ∀ v1 w1, NewZ V e w1 base v1 (l ++ ys) → (∃ row, W.grownBy w1 row ∧ ∀ k, row = some k → base ≤ k) → wpList P ops Q rest (a.put o.dst v1) w1) :
    wpList P ops Q (o :: rest) a W := by
  by_cases hl0 : l = []
  · subst hl0
    obtain ⟨A0, rfl⟩ := HO.2 rfl
    refine wpList_app0z V hgd s x t e z bytes ho ht hinfo hz hb0 A0 ys vy hs hx h1 HY (by simpa using hl) fun v1 w1 hN hzz hE => ?_
    refine h v1 w1 ⟨by simpa using hN.mono hbase, fun h => ⟨A0, hzz (by simpa using h)⟩⟩ ⟨none, grown_ext W w1 hE none, by simp⟩
  · refine wpList_appRow V base hgd s x t e z bytes ho ht hinfo hz hb0 v l ys vy hs hx h1 (HO.1.2 hl0) HY hbase hl fun v1 w1 hO hg => ?_
    exact h v1 w1 ⟨⟨hO.fl, fun _ => hO⟩, fun h => by simp [hl0] at h⟩ ⟨v.ownBlock, hg, fun k hk => (HO.1.2 hl0).base_le k hk⟩
end
end Go.Proofs.Ytfnelkcllaaebaa
end
section
/- Contract of ref01.Put. No condition but that the slice reads as a list, the number's size, and room. -/
open Go.RowKit
set_option linter.unusedVariables false
set_option linter.unusedSimpArgs false
namespace Go.Proofs.Ytfnelkcllaaebaa
/-- The made row, written from the end down to a place. -/
def dcells (n : Int) (s j : Nat) : Array Value := (List.replicate j (vByte 0) ++ (be n (s - j)).map vByte).toArray
theorem made_dcells (n : Int) (s : Nat) : madeCells #[Value.int .u8 0] s = dcells n s s := by
  apply Array.ext
  · simp [madeCells, dcells, be]
  · intro i h1 h2
    simp [madeCells, dcells, be, Nat.mod_one]
theorem dcells_set {n : Int} {s j : Nat} (h : j + 1 ≤ s) : (dcells n s (j + 1)).setIfInBounds j (vByte (UInt8.ofNat ((n / 256 ^ (s - (j + 1))).toNat % 256))) = dcells n s j := by
  have e : s - j = (s - (j + 1)) + 1 := by omega
  unfold dcells
  rw [e, be, List.replicate_succ']
  simp
theorem dcells_row {w : World} {g s : Nat} {n : Int} (h : w.heap[g]? = some (.cells (dcells n s 0) 5 (0, 0))) (hs : s ≤ maxI) : Fl vByte w (.slice (some ⟨g, 0, none⟩) s s) (be n s) := by
  refine ⟨_, s, by rw [be_length], by rw [be_length]; exact Nat.le_refl _, hs, fun _ => ⟨g, 0, rfl, fun j x hx => ?_⟩⟩
  simp [World.cell?, h, dcells, hx]
theorem set_row {w : World} {g j : Nat} {cur : Array Value} {u : Value} (h : w.heap[g]? = some (.cells cur 5 (0, 0))) : (w.setCell ⟨g, j, none⟩ u).heap[g]? = some (.cells (cur.setIfInBounds j u) 5 (0, 0)) := by
  simp [World.setCell, Array.getElem?_modify, h]
set_option maxRecDepth 100000 in
set_option maxHeartbeats 1000000 in
/-- ref01.Put. -/
theorem ref_Put (b : List UInt8) (n size : Int) (v : Value) (w : World) (hv : BytesV w v b) (hl : b.length ≤ 140737488000000) (hn : n ≤ 9223372036854775807) :
    Calls Try.prog 153 #[v, .int .i64 n, .int .i64 size] w fun e w' => ∃ v', e = .returned v' ∧ NewZ vByte 5 w' w.heap.size v' (putN b n size) ∧ Ext w w' := by
  have HV := Lib.hid hv
  have HL := Lib.hid hl
  obtain ⟨A, c, rfl, _, _⟩ := hv.form
  have HF := Lib.hid (fun w => ref_Fits n size w hn)
  have HM : Hid (putN b n size = if fits n size = true then b ++ be n size.toNat else b) := Lib.hid rfl
  have HB := Lib.hid (fun h => fits_bound n size h)
  have HL1 : Hid (b.length * 1 ≤ 140737488355328) := Lib.hid (by omega)
  clear hv hl
  go_enter Try.func153, Try.ntmps153
  go_wp2_with (at_builtin; go_must (refine wpList_app0z vByte rfl (.tmp 10) (.tmp 11) 22 5 (.int .u8 0) 1 rfl Try.underlying22 (by kernel_rfl) rfl (by decide) _ b _ rfl rfl (fun _ => rfl) (HV.out.ext ((Ext.refl _).alloc _)) HL1.out ?_); intro v1 w1 hN1 hz1 hE1; have HN1 : Hid (NewZ vByte 5 w1 w.heap.size v1 b) := Lib.hid ⟨hN1.mono (by simp), fun h => ⟨_, hz1 h⟩⟩; have HE1 := Lib.hid (((Ext.refl _).alloc _).trans hE1); obtain ⟨A1, n1, c1, rfl⟩ := hN1.slice; clear hN1 hz1 hE1)
  refine (HF.out w1).mono ?_
  rintro e w' ⟨rfl, rfl⟩
  cases hf : fits n size with
  | false =>
    rw [hf] at HM
    clear hf
    go_wp2
    go_ret
    exact ⟨_, rfl, by rw [HM.out]; exact HN1.out, HE1.out⟩
  | true =>
    have hb := HB.out hf
    rw [hf] at HM
    clear hf
    obtain ⟨s, rfl⟩ : ∃ s : Nat, size = (s : Int) := ⟨size.toNat, by omega⟩
    have hmk := made_run s (by omega)
    have HMk : Hid ((w1.alloc (.cells (madeCells #[Value.int .u8 0] s) 5)).heap[w1.heap.size]? = some (.cells (dcells n s s) 5 (0, 0))) := Lib.hid (by rw [made_dcells n s]; exact heap_alloc_new w1 _)
    have HE2 := Lib.hid ((Ext.refl w1).alloc (.cells (madeCells #[Value.int .u8 0] s) 5))
    go_wp2
    generalize w1.alloc (.cells (madeCells #[Value.int .u8 0] s) 5) = w2 at *
    generalize hg : w1.heap.size = g at *
    have HG := Lib.hid hg
    clear hg hmk
    go_loopw [1, 9] (fun m i wr => ∃ (j : Nat) (z y : Int), j ≤ s ∧ z = (j : Int) - 1 ∧ i = .int .i64 z ∧ m = .int .i64 y ∧ Hid (y = n / 256 ^ (s - j)) ∧ Hid (wr.heap[g]? = some (.cells (dcells n s j) 5 (0, 0))) ∧ Ext w1 wr) (fun _ i _ => (intOf i + 1).toNat)
    case atStart => exact ⟨s, s - 1, n, Nat.le_refl _, by omega, rfl, rfl, Lib.hid (by simp), HMk, HE2.out⟩
    case round =>
      obtain ⟨j, z, y, hj, hz, rfl, rfl, hy, hR, hE⟩ := hrel
      have HE3 := Lib.hid hE
      clear hE
      rcases j with _ | j
      · obtain rfl : z = -1 := by omega
        have HD := Lib.hid (dcells_row hR.out (by unfold maxI; omega))
        clear hz
        have HN3 := Lib.hid (HN1.out.ext HE3.out)
        have HBs : Hid (w.heap.size ≤ wr.heap.size) := Lib.hid (Nat.le_trans HE1.out.size HE3.out.size)
        have HL3 : Hid ((b.length + (be n s).length) * 1 ≤ 140737488355328) := Lib.hid (by rw [be_length]; have := HL.out; omega)
        have HM2 := Lib.hid (HM.out.trans (if_pos trivial))
        rw [Int.toNat_natCast] at HM2
        have HE13 := Lib.hid (HE1.out.trans HE3.out)
        go_wp2_with (at_builtin; go_must (refine wpList_appZ vByte w.heap.size rfl (.tmp 34) (.tmp 35) 22 5 (.int .u8 0) 1 rfl Try.underlying22 (by kernel_rfl) rfl (by decide) _ b (be n s) _ rfl rfl (fun _ => rfl) HN3.out HD.out HBs.out HL3.out ?_); intro v4 w4 hN4 hg4; have HN4 := Lib.hid hN4; have HE4 : Hid (Ext w w4) := Lib.hid (by obtain ⟨row, hg, hr⟩ := hg4; exact HE13.out.grown hg hr); clear hN4 hg4)
        go_ret
        exact ⟨_, rfl, by rw [HM2.out]; exact HN4.out, HE4.out⟩
      · obtain rfl : z = (j : Int) := by omega
        clear hz
        have hs7 : s ≤ 7 := by omega
        have hc : wr.cell? ⟨g, j, none⟩ = some (vByte 0) := by simp [World.cell?, hR.out, dcells, List.getElem?_append, List.getElem?_replicate]
        have hfz : wr.frozen? ⟨g, j, none⟩ = false := by simp [World.frozen?, hR.out]
        have hy0 : 0 ≤ y := by rw [hy.out]; exact Int.ediv_nonneg (by omega) (Int.le_of_lt (pow256_pos _))
        have hyn : y ≤ 9223372036854775807 := by rw [hy.out]; exact Int.le_trans (Int.ediv_le_self _ (by omega)) hn
        have hby : y % 256 = (((UInt8.ofNat ((n / 256 ^ (s - (j + 1))).toNat % 256)).toNat : Nat) : Int) := by
          have e2 : (UInt8.ofNat ((n / 256 ^ (s - (j + 1))).toNat % 256)).toNat = (n / 256 ^ (s - (j + 1))).toNat % 256 := by simp
          rw [e2, ← hy.out]; omega
        have HBy := Lib.hid hby
        have HR2 : Hid ((wr.setCell ⟨g, j, none⟩ (.int .u8 (y % 256))).heap[g]? = some (.cells (dcells n s j) 5 (0, 0))) := Lib.hid (by rw [set_row hR.out, hby]; exact congrArg (fun c => some (Obj.cells c 5 (0, 0))) (dcells_set hj))
        have HE5 := Lib.hid (HE3.out.setCell (p := ⟨g, j, none⟩) (by rw [HG.out]; exact Nat.le_refl _) (.int .u8 (y % 256)))
        have HY2 : Hid (y / 256 = n / 256 ^ (s - j)) := Lib.hid (by rw [hy.out, show s - j = (s - (j + 1)) + 1 from by omega, div_div_256])
        clear hby
        go_wp2

        go_roundw
        case rel => exact ⟨j, (j : Int) - 1, y / 256, by omega, rfl, by go_num, by go_num, HY2, HR2, HE5.out⟩
        case measure => simp [intOf]
end Go.Proofs.Ytfnelkcllaaebaa
end
section
/- The document's writer in memory: Num and Raw. No condition but that the writer stands in memory, and room. -/
open Go.RowKit
set_option linter.unusedVariables false
set_option linter.unusedSimpArgs false
namespace Go.Proofs.Ytfnelkcllaaebaa
theorem NewS.kpT {α : Type} {V : α → Value} {e : TypeId} {S : Nat → Prop} {w w' : World} {base : Nat} {v : Value} {l : List α} (h : NewS V e w base v l) (hk : Kp S w w') (hS : ∀ k, S k → ∀ cur x, w.heap[k]? ≠ some (.cells cur e x)) : NewS V e w' base v l := by
  by_cases hl : l = []
  · subst hl
    obtain ⟨A, c, rfl, h1, h2, _⟩ := h.1
    exact ⟨⟨A, c, rfl, h1, h2, by simp⟩, fun h => absurd rfl h⟩
  · have ho := h.2 hl
    have := ho.kpS hk (fun k hb hs => by
      rcases ho.2 with ⟨rfl, _⟩ | ⟨g, cap, cur, rfl, _, hg, _⟩
      · simp [Value.ownBlock] at hb
      · simp [Value.ownBlock] at hb; subst hb; exact hS _ hs _ _ hg)
    exact ⟨this.fl, fun _ => this⟩
theorem NewZ.kpN {α : Type} {V : α → Value} {e : TypeId} {S : Nat → Prop} {w w' : World} {base : Nat} {v : Value} {l : List α} (h : NewZ V e w base v l) (hk : Kp S w w') (hS : ∀ k, l ≠ [] → v.ownBlock = some k → ¬ S k) : NewZ V e w' base v l := by
  refine ⟨?_, h.2⟩
  by_cases hl : l = []
  · subst hl
    obtain ⟨A, c, rfl, h1, h2, _⟩ := h.1.1
    exact ⟨⟨A, c, rfl, h1, h2, by simp⟩, fun h => absurd rfl h⟩
  · have := (h.1.2 hl).kpS hk (fun k hb hs => hS k hl hb hs)
    exact ⟨this.fl, fun _ => this⟩
theorem OwnM.kpS {α : Type} {R : World → List Value → α → Prop} {e : TypeId} {sz : Nat} {S : Nat → Prop} {w w1 : World} {base : Nat} {v : Value} {l : List α} (h : OwnM R e sz w base v l) (hR : ∀ cs x, R w cs x → R w1 cs x) (hk : Kp S w w1) (hS : ∀ k, v.ownBlock = some k → ¬ S k) : OwnM R e sz w1 base v l := by
  obtain ⟨css, h, hl, hj⟩ := h
  refine ⟨css, ?_, hl, fun j cs x h1 h2 => ⟨(hj j cs x h1 h2).1, hR _ _ (hj j cs x h1 h2).2⟩⟩
  rcases h.2 with ⟨rfl, h2⟩ | ⟨g, cap, cur, rfl, h1, h2, h3⟩
  · exact ⟨h.1, .inl ⟨rfl, h2⟩⟩
  · exact ⟨h.1, .inr ⟨g, cap, cur, rfl, h1, hk.heap h2 (hS g rfl), h3⟩⟩
/-- A noted rest: its place and its name. -/
def RestR (W : World) (cs : List Value) (r : Nat × List Str) : Prop := ∃ vn, cs = [.int .i64 (r.1 : Int), vn] ∧ NewS Value.string 9 W 0 vn r.2
/-- Blocks that hold no names. -/
def NoStr (S : Nat → Prop) (w : World) : Prop := ∀ k, S k → ∀ cur x, w.heap[k]? ≠ some (.cells cur 9 x)
theorem RestR.kp {S : Nat → Prop} {w w' : World} (hk : Kp S w w') (hS : NoStr S w) : ∀ cs x, RestR w cs x → RestR w' cs x := by
  rintro cs x ⟨vn, rfl, h⟩
  exact ⟨vn, rfl, h.kpT hk hS⟩
/-- The document's writer at block q. -/
structure MrP (w : World) (q : Nat) (u t : Value) (b : List UInt8) (rs : List (Nat × List Str)) : Prop where
  box : w.heap[q]? = some (.cells #[u, t] 76 (0, 0))
  row : NewZ vByte 5 w 0 u b
  rests : OwnM RestR 144 2 w 0 t rs
/-- Its blocks. -/
def Smr (q : Nat) (u t : Value) (b : List UInt8) (k : Nat) : Prop := k = q ∨ (b ≠ [] ∧ u.ownBlock = some k) ∨ t.ownBlock = some k
theorem NewZ.type {w : World} {base : Nat} {u : Value} {b : List UInt8} (h : NewZ vByte 5 w base u b) (k : Nat) (hb : b ≠ []) (hk : u.ownBlock = some k) : base ≤ k ∧ ∃ cur, w.heap[k]? = some (.cells cur 5 (0, 0)) := by
  refine ⟨(h.1.2 hb).base_le k hk, ?_⟩
  rcases (h.1.2 hb).2 with ⟨rfl, _⟩ | ⟨g, cap, cur, rfl, _, hg, _⟩
  · simp [Value.ownBlock] at hk
  · simp [Value.ownBlock] at hk; subst hk; exact ⟨cur, hg⟩
theorem MrP.lt {w : World} {q : Nat} {u t : Value} {b : List UInt8} {rs : List (Nat × List Str)} (h : MrP w q u t b rs) : ∀ k, Smr q u t b k → k < w.heap.size := by
  rintro k (rfl | ⟨hb, hk⟩ | hk)
  · exact (Array.getElem?_eq_some_iff.1 h.box).1
  · obtain ⟨_, cur, hc⟩ := h.row.type k hb hk; exact (Array.getElem?_eq_some_iff.1 hc).1
  · obtain ⟨cur, hc⟩ := h.rests.type k hk; exact (Array.getElem?_eq_some_iff.1 hc).1
theorem MrP.noStr {w : World} {q : Nat} {u t : Value} {b : List UInt8} {rs : List (Nat × List Str)} (h : MrP w q u t b rs) : NoStr (Smr q u t b) w := by
  rintro k (rfl | ⟨hb, hk⟩ | hk) cur x hc
  · rw [h.box] at hc; injection hc with hc; injection hc with _ h9 _; cases h9
  · obtain ⟨_, cur2, h2⟩ := h.row.type k hb hk; rw [h2] at hc; injection hc with hc; injection hc with _ h9 _; cases h9
  · obtain ⟨cur2, h2⟩ := h.rests.type k hk; rw [h2] at hc; injection hc with hc; injection hc with _ h9 _; cases h9
theorem MrP.ne_row {w : World} {q : Nat} {u t : Value} {b : List UInt8} {rs : List (Nat × List Str)} (h : MrP w q u t b rs) (hb : b ≠ []) : u.ownBlock ≠ some q := by
  intro hk
  obtain ⟨_, cur, hc⟩ := h.row.type q hb hk
  rw [h.box] at hc; injection hc with hc; injection hc with _ h9 _; cases h9
theorem MrP.ne_rests {w : World} {q : Nat} {u t : Value} {b : List UInt8} {rs : List (Nat × List Str)} (h : MrP w q u t b rs) : t.ownBlock ≠ some q := by
  intro hk
  obtain ⟨cur, hc⟩ := h.rests.type q hk
  rw [h.box] at hc; injection hc with hc; injection hc with _ h9 _; cases h9
theorem MrP.row_rests {w : World} {q : Nat} {u t : Value} {b : List UInt8} {rs : List (Nat × List Str)} (h : MrP w q u t b rs) (hb : b ≠ []) (k : Nat) (hu : u.ownBlock = some k) : t.ownBlock ≠ some k := by
  intro hk
  obtain ⟨_, cur, hc⟩ := h.row.type k hb hu
  obtain ⟨cur2, hc2⟩ := h.rests.type k hk
  rw [hc] at hc2; injection hc2 with hc; injection hc with _ h9 _; cases h9
/-- Whatever leaves its blocks and all names alone leaves it. -/
theorem MrP.kp {T : Nat → Prop} {w w' : World} {q : Nat} {u t : Value} {b : List UInt8} {rs : List (Nat × List Str)} (h : MrP w q u t b rs) (hk : Kp T w w') (hT : ∀ k, Smr q u t b k → ¬ T k) (hN : NoStr T w) : MrP w' q u t b rs :=
  ⟨(hk.block q (h.lt q (.inl rfl)) (hT q (.inl rfl))).trans h.box, h.row.kpN hk (fun k hb hu => hT k (.inr (.inl ⟨hb, hu⟩))), h.rests.kpS (RestR.kp hk hN) hk (fun k ht => hT k (.inr (.inr ht)))⟩
theorem MrP.ext {w w' : World} {q : Nat} {u t : Value} {b : List UInt8} {rs : List (Nat × List Str)} (h : MrP w q u t b rs) (hE : Ext w w') : MrP w' q u t b rs :=
  h.kp (T := fun _ => False) (Kp.of_ext hE) (fun _ _ h => h) (fun _ h => h.elim)
theorem MrP.cells {w : World} {q : Nat} {u t : Value} {b : List UInt8} {rs : List (Nat × List Str)} (h : MrP w q u t b rs) : w.cell? ⟨q, 0, none⟩ = some u ∧ w.cell? ⟨q, 1, none⟩ = some t ∧ ∀ i, w.frozen? ⟨q, i, none⟩ = false := by
  have hb := h.box
  exact ⟨by simp [World.cell?, hb], by simp [World.cell?, hb], fun i => by simp [World.frozen?, hb]⟩
theorem MrP.slice {w : World} {q : Nat} {u t : Value} {b : List UInt8} {rs : List (Nat × List Str)} (h : MrP w q u t b rs) : ∃ A c, u = .slice A b.length c := by
  obtain ⟨A, c, h, _⟩ := h.row.1.1.form; exact ⟨A, c, h⟩
/-- The writer goes on to other bytes and rests. -/
def Mrote (q : Nat) (u t : Value) (b : List UInt8) (b' : List UInt8) (rs' : List (Nat × List Str)) (w w' : World) : Prop := ∃ u' t', MrP w' q u' t' b' rs' ∧ Stp (Smr q u t b) w (Smr q u' t' b') w'
theorem mr_store {w w1 : World} {q : Nat} {u t u' : Value} {b b' : List UInt8} {rs : List (Nat × List Str)} (h : MrP w q u t b rs) (hO : NewZ vByte 5 w1 w.heap.size u' b') (hE : Ext w w1) : Mrote q u t b b' rs w (w1.setCell ⟨q, 0, none⟩ u') := by
  have h1 := h.ext hE
  have hq := h.lt q (.inl rfl)
  have hK : Kp (fun k => k = q) w1 (w1.setCell ⟨q, 0, none⟩ u') := Kp.setCell (S := fun k => k = q) (p := ⟨q, 0, none⟩) (Kp.refl _ _) (.inl rfl) u'
  have hNo : NoStr (fun k => k = q) w1 := fun k hk => by subst hk; exact h1.noStr _ (.inl rfl)
  refine ⟨u', t, ⟨by simp [World.setCell, Array.getElem?_modify, h1.box], ?_, ?_⟩, ?_, ?_⟩
  · exact (hO.mono (Nat.zero_le _)).kpN hK (fun k hb hu e => by have := (hO.type k hb hu).1; omega)
  · exact h1.rests.kpS (RestR.kp hK hNo) hK (fun k ht e => by subst e; exact h1.ne_rests ht)
  · exact (Kp.of_ext hE).setCell (.inl (.inl rfl)) _
  · rintro k (rfl | ⟨hb, hk⟩ | hk)
    · exact .inl (.inl rfl)
    · exact .inr (hO.type k hb hk).1
    · exact .inl (.inr (.inr hk))
theorem Mrote.trans {q : Nat} {u t u1 t1 : Value} {b b1 b2 : List UInt8} {rs2 : List (Nat × List Str)} {w w1 w2 : World} (hs : Stp (Smr q u t b) w (Smr q u1 t1 b1) w1) (h : Mrote q u1 t1 b1 b2 rs2 w1 w2) : Mrote q u t b b2 rs2 w w2 := by
  obtain ⟨u', t', h1, h2⟩ := h; exact ⟨u', t', h1, hs.trans h2⟩
set_option maxRecDepth 100000 in
set_option maxHeartbeats 400000 in
/-- ref03.Writer.Num. -/
theorem mw_Num (q : Nat) (u t : Value) (n size : Int) (b : List UInt8) (rs : List (Nat × List Str)) (w : World) (hW : MrP w q u t b rs) (hl : b.length ≤ 140737488000000) (hn : n ≤ 9223372036854775807) :
    Calls Try.prog 118 #[.pointer (some ⟨q, 0, none⟩), .int .i64 n, .int .i64 size] w fun e w' => e = .returned (.tuple #[]) ∧ Mrote q u t b (putN b n size) rs w w' := by
  obtain ⟨c0, c1, cf⟩ := hW.cells
  have HW := Lib.hid hW
  have HC := Lib.hid (ref_Put b n size u w hW.row.1.1 hl hn)
  obtain ⟨A, c, rfl⟩ := hW.slice
  clear hW hl
  go_enter Try.func118, Try.ntmps118
  go_wp2_with fail
  refine (HC.out).mono ?_
  rintro e w1 ⟨u1, rfl, hO, hE⟩
  have HF := Lib.hid (mr_store HW.out hO hE)
  have d0 := hE.cell c0
  have d2 := ((HW.out.ext hE).cells).2.2
  obtain ⟨A1, n1, k1, rfl⟩ := hO.1.slice
  clear hO hE c0 c1 cf
  go_wp2
  go_end0
  exact ⟨rfl, HF.out⟩
set_option maxRecDepth 100000 in
set_option maxHeartbeats 400000 in
/-- ref03.Writer.Raw. -/
theorem mw_Raw (q : Nat) (u t vy : Value) (b ys : List UInt8) (rs : List (Nat × List Str)) (w : World) (hW : MrP w q u t b rs) (hy : BytesV w vy ys) (hl : (b.length + ys.length) * 1 ≤ 140737488355328) :
    Calls Try.prog 119 #[.pointer (some ⟨q, 0, none⟩), vy] w fun e w' => e = .returned (.tuple #[]) ∧ Mrote q u t b (b ++ ys) rs w w' := by
  obtain ⟨c0, c1, cf⟩ := hW.cells
  have HW := Lib.hid hW
  have HY := Lib.hid hy
  have HL := Lib.hid hl
  obtain ⟨A, c, rfl⟩ := hW.slice
  obtain ⟨Ay, cy, rfl, _, _⟩ := hy.form
  have HL1 : Hid (b.length * 1 ≤ 140737488355328) := Lib.hid (by omega)
  have d0' := ((Ext.refl w).alloc (.cells #[] 5)).cell c0
  clear hW hl hy
  go_enter Try.func119, Try.ntmps119
  go_wp2_with (first | (at_builtin; refine (wpList_app0z vByte rfl (.tmp 5) (.tmp 9) 22 5 (.int .u8 0) 1 rfl Try.underlying22 (by kernel_rfl) rfl (by decide) _ b _ rfl rfl (fun _ => rfl) (HW.out.row.1.1.ext ((Ext.refl _).alloc _)) HL1.out ?_); intro v1 w1 hN1 hz1 hE1; have HN1 : Hid (NewZ vByte 5 w1 w.heap.size v1 b) := Lib.hid ⟨hN1.mono (by simp), fun h => ⟨_, hz1 h⟩⟩; have HE1 := Lib.hid (((Ext.refl _).alloc _).trans hE1); obtain ⟨A1, n1, k1, rfl⟩ := hN1.slice; clear hN1 hz1 hE1) | (at_builtin; go_must (refine wpList_appZ vByte w.heap.size rfl (.tmp 10) (.tmp 11) 22 5 (.int .u8 0) 1 rfl Try.underlying22 (by kernel_rfl) rfl (by decide) _ b ys _ rfl rfl (fun _ => rfl) HN1.out (HY.out.ext HE1.out) HE1.out.size HL.out ?_); intro v4 w4 hN4 hg4; have hE4 : Ext w w4 := (by obtain ⟨row, hg, hr⟩ := hg4; exact HE1.out.grown hg hr); have HF := Lib.hid (mr_store HW.out hN4 hE4); have d0 := hE4.cell c0; have d2 := ((HW.out.ext hE4).cells).2.2; obtain ⟨A4, n4, k4, rfl⟩ := hN4.1.slice; clear hN4 hg4 hE4))
  go_end0
  exact ⟨rfl, HF.out⟩
end Go.Proofs.Ytfnelkcllaaebaa
end
section
/- The document's writer: find. No condition but that the writer and the name stand in memory, and room. -/
open Go.RowKit
set_option linter.unusedVariables false
set_option linter.unusedSimpArgs false
namespace Go.Proofs.Ytfnelkcllaaebaa
/-- The first place of a rest. -/
def findR (rs : List (Nat × List Str)) : Rests := fun n => (rs.find? fun r => decide (r.2 = n)).map Prod.fst
theorem findR_note {rs : List (Nat × List Str)} {p : Nat} {n : List Str} (hp : p < 16384) : findR (rs ++ [(p, n)]) = note p (findR rs) n := by
  funext x
  unfold findR note
  rw [List.find?_append]
  by_cases hx : x = n
  · subst hx
    rw [if_pos ⟨rfl, hp⟩]
    cases hh : List.find? (fun r => decide (r.2 = x)) rs <;> simp [hh]
  · rw [if_neg (by simp [hx])]
    have : ¬ n = x := fun e => hx e.symm
    cases hh : List.find? (fun r => decide (r.2 = x)) rs <;> simp [this, hh]
theorem find_step {rs : List (Nat × List Str)} {n : List Str} {k : Nat} {x : Nat × List Str} (hx : rs[k]? = some x) (h : (rs.take k).find? (fun r => decide (r.2 = n)) = none) (hn : ¬ x.2 = n) : (rs.take (k + 1)).find? (fun r => decide (r.2 = n)) = none := by
  rw [List.take_add_one, hx, List.find?_append, h]; simp [hn]
theorem find_hit {rs : List (Nat × List Str)} {n : List Str} {k : Nat} {x : Nat × List Str} (hx : rs[k]? = some x) (h : (rs.take k).find? (fun r => decide (r.2 = n)) = none) (hn : x.2 = n) : findR rs n = some x.1 := by
  have hlt := (List.getElem?_eq_some_iff.1 hx).1
  have e : rs = rs.take k ++ x :: rs.drop (k + 1) := by
    have hx2 := (List.getElem?_eq_some_iff.1 hx).2
    rw [← hx2, ← List.drop_eq_getElem_cons hlt, List.take_append_drop]
  unfold findR
  rw [e, List.find?_append, h]; simp [hn]
/-- What find answers. -/
def fAns (o : Option Nat) : Int := match o with | none => -1 | some k => k
set_option maxRecDepth 100000 in
set_option maxHeartbeats 400000 in
/-- ref03.Writer.find. -/
theorem mw_find (q : Nat) (u t vn : Value) (n : List Str) (b : List UInt8) (rs : List (Nat × List Str)) (w : World) (hW : MrP w q u t b rs) (hn : NameV w vn n) :
    Calls Try.prog 117 #[.pointer (some ⟨q, 0, none⟩), vn] w fun e w' => e = .returned (.int .i64 (fAns (findR rs n))) ∧ Ext w w' := by
  have HC1 := Lib.hid hW.cells.2.1
  have HT := Lib.hid hW.rests.sl
  have HN := Lib.hid hn
  obtain ⟨A, c, rfl, h1, h2⟩ := hW.rests.slice
  obtain ⟨An, cn, rfl, _, _⟩ := hn.form
  have HL := Lib.hid hW.rests.slice
  clear hW hn
  unfold maxI at *
  go_enter Try.func117, Try.ntmps117
  go_wp2
  go_loopw [5] (fun i wr => ∃ k : Nat, k ≤ rs.length ∧ i = .int .i64 k ∧ Hid ((rs.take k).find? (fun r => decide (r.2 = n)) = none) ∧ Ext w wr) (fun i _ => rs.length - (intOf i).toNat)
  case atStart => exact ⟨0, by omega, rfl, Lib.hid rfl, Ext.refl _⟩
  case round =>
    obtain ⟨k, hk, rfl, hF, hE⟩ := hrel
    have HE := Lib.hid hE
    have c1 := hE.cell HC1.out
    clear hE
    by_cases hlt : k < rs.length
    · obtain ⟨g, o, c', e1, _, _, hcell⟩ := HT.out.opens (by omega)
      injection e1 with e1 e3 e4
      subst e1
      clear e3 e4
      have hx := List.getElem?_eq_getElem hlt
      obtain ⟨cs, hcs, ⟨vx, rfl, hNx⟩, hcc⟩ := hcell k _ hx
      have a0 := HE.out.cell (hcc 0 _ rfl)
      have a1 := HE.out.cell (hcc 1 _ rfl)
      obtain ⟨Ax, nx, cx, rfl⟩ := hNx.slice
      have HX := Lib.hid hx
      have HA := Lib.hid a0
      generalize rs[k] = x at *
      simp only [Nat.add_zero] at a0
      rw [← Nat.add_assoc] at a1
      go_wp2_with fail
      refine (ref_Exact _ _ x.2 n wr (hNx.1.ext HE.out) (HN.out.ext HE.out)).mono ?_
      rintro e w1 ⟨rfl, hD⟩
      have HE2 := Lib.hid (HE.out.trans hD.ext)
      have b0 := hD.ext.cell a0
      have b1 := hD.ext.cell c1
      clear a0 a1 c1 hD
      by_cases hxn : x.2 = n
      · have HH := Lib.hid (find_hit HX.out hF.out hxn)
        rw [decide_eq_true hxn]
        clear hxn
        go_wp2
        go_ret
        exact ⟨by rw [HH.out]; rfl, HE2.out⟩
      · have HH := Lib.hid (find_step HX.out hF.out hxn)
        rw [decide_eq_false hxn]
        clear hxn
        go_wp2
        go_roundw
        case rel => exact ⟨k + 1, by omega, by go_num, HH, HE2.out⟩
        case measure => simp [intOf]; omega
    · go_wp2
      go_ret
      have e0 : rs.take k = rs := List.take_of_length_le (by omega)
      have hF2 := hF.out
      rw [e0] at hF2
      refine ⟨?_, HE.out⟩
      unfold findR
      rw [hF2]; rfl
end Go.Proofs.Ytfnelkcllaaebaa
end
section
/- Appends at steps of a region that draws its order: to an empty literal, and of one struct, with where the new row lies. No condition. -/
open Go.RowKit
set_option linter.unusedVariables false
set_option linter.unusedSimpArgs false
namespace Go.Proofs.Ytfnelkcllaaebaa
section
variable {P : Program} {ops : Array Oper} {rest : List Oper} {o : Oper} {a : Act} {Q : Exit → Act → World → Prop} {K : Act → World → Prop} {E : Prop}
theorem run_appH {α : Type} (R : World → List Value → α → Prop) {W : World} (base : Nat) (t tr e : TypeId) (z : Value) (sz bytes : Nat)
    (ht : P.underlying t = some (.slice e)) (hinfo : (P.info? e).map (fun i => (i.zero, i.size, i.bytes)) = some (some z, sz, bytes)) (hz : z.cells.size = sz) (hsz : 0 < sz) (hb0 : 0 < bytes)
    (hk : KeepsB base R e)
    (v : Value) (l : List α) (y : α) (cs : Array Value) (hcs : cs.size = sz) (g : Nat) (hg : W.heap[g]? = some (.cells cs e (0, 0))) (h1 : ∀ u ∈ cs.toList, u.oneCell' = true)
    (hy : R W cs.toList y) (HO : OwnM R e sz W base v l) (hbase : base ≤ W.heap.size) (hl : (l.length + 1) * bytes ≤ 140737488355328) :
    ∃ v1 w1, (Builtin.append_ #[t, t] tr #[v, .slice (some ⟨g, 0, none⟩) 1 1]).run P W = .ok v1 w1 ∧ OwnM R e sz w1 base v1 (l ++ [y]) ∧ W.grownBy w1 v.ownBlock ∧ (∀ k, v1.ownBlock = some k → v.ownBlock = some k ∨ W.heap.size ≤ k) := by
  obtain ⟨i0, hi, hzz⟩ := Option.map_eq_some_iff.1 hinfo
  simp only [Prod.mk.injEq] at hzz
  obtain ⟨hz0, hz1, hz2⟩ := hzz
  have hlen : l.length + 1 ≤ 140737488355328 := Nat.le_trans (Nat.le_mul_of_pos_right _ hb0) hl
  have htype : ∀ k, v.ownBlock = some k → base ≤ k ∧ ∃ cur, W.heap[k]? = some (.cells cur e (0, 0)) := fun k hk => ⟨HO.base_le k hk, HO.type k hk⟩
  obtain ⟨css, hO, hcl, hj⟩ := HO
  obtain ⟨v1, w1, hr, hown, hgr, _, hat⟩ := run_append_own_at (P := P) W base t tr e i0 z sz bytes ht hi hz0 hz1 hz2 hz hsz v l.length css.flatten hO ⟨g, 0, none⟩ 1 1 cs.toList (by simp [hcs])
    (World.news_of_block (cs := cs) (t := e) (fr := (0, 0)) hg) h1 (by simp only [maxLen]; omega) hl hbase
  have hR : ∀ cs x, R W cs x → R w1 cs x := fun cs x h => hk W w1 v.ownBlock cs x hgr htype h
  refine ⟨v1, w1, hr, ⟨css ++ [cs.toList], ?_, by simp [hcl], ?_⟩, hgr, fun k hk => hat.elim (fun h => .inl (by rw [← h]; exact hk)) (fun h => .inr (by rw [h] at hk; injection hk with hk; omega))⟩
  · simpa using hown
  · intro j c x hc hx2
    rcases Nat.lt_or_ge j l.length with h2 | h2
    · rw [List.getElem?_append_left (by omega)] at hc hx2
      exact ⟨(hj j c x hc hx2).1, hR _ _ (hj j c x hc hx2).2⟩
    · rw [List.getElem?_append_right (by omega)] at hc hx2
      rw [hcl] at hc
      cases hq : j - l.length with
      | zero =>
        rw [hq] at hc hx2
        simp at hc hx2
        subst hc hx2
        exact ⟨by simp [hcs], hR _ _ hy⟩
      | succ q => rw [hq] at hc; simp at hc
theorem wp_appH {α : Type} (R : World → List Value → α → Prop) {W : World} (base : Nat) (s x : Operand) (t e : TypeId) (z : Value) (sz bytes : Nat)
    (ho : o.op = .call { callee := .builtin .append, args := #[s, x], argTypes := #[t, t] })
    (ht : P.underlying t = some (.slice e)) (hinfo : (P.info? e).map (fun i => (i.zero, i.size, i.bytes)) = some (some z, sz, bytes)) (hz : z.cells.size = sz) (hsz : 0 < sz) (hb0 : 0 < bytes)
    (hk : KeepsB base R e)
    (v : Value) (l : List α) (y : α) (cs : Array Value) (hcs : cs.size = sz) (g : Nat) (hs : a.eval s = v) (hx : a.eval x = .slice (some ⟨g, 0, none⟩) 1 1) (hg : W.heap[g]? = some (.cells cs e (0, 0))) (h1 : ∀ u ∈ cs.toList, u.oneCell' = true)
    (hy : R W cs.toList y) (HO : OwnM R e sz W base v l) (hbase : base ≤ W.heap.size) (hl : (l.length + 1) * bytes ≤ 140737488355328)
    (h : ∀ v1 w1, OwnM R e sz w1 base v1 (l ++ [y]) → W.grownBy w1 v.ownBlock → (∀ k, v1.ownBlock = some k → v.ownBlock = some k ∨ W.heap.size ≤ k) → K (a.put o.dst v1) w1) : Oper.wp P o a W K Q := by
  obtain ⟨v1, w1, hr, hown, hgr, hat⟩ := run_appH (P := P) R base t o.type e z sz bytes ht hinfo hz hsz hb0 hk v l y cs hcs g hg h1 hy HO hbase hl
  unfold Oper.wp execOp
  simp only [ho, resolve, invoke, builtin, Sem.run_bind, Sem.run_pure, Result.andThen_ok, List.map_toArray, List.map_cons, List.map_nil, hs, hx, hr]
  exact h v1 w1 hown hgr hat
end
theorem restR_keeps : KeepsB 0 RestR 144 := by
  rintro w w' row cs x hg ht ⟨vn, rfl, h⟩
  exact ⟨vn, rfl, h.grown (e' := 144) hg (fun k hk => (ht k hk).2) (by decide)⟩
theorem rest_info : (Try.prog.info? 144).map (fun i => (i.zero, i.size, i.bytes)) = some (some (.agg #[.int .i64 0, .slice none 0 0]), 2, 32) := by kernel_rfl
end Go.Proofs.Ytfnelkcllaaebaa
end
