/- Parts of one proof, joined: RSound, RSound2. Conditions: those that each theorem states. -/
import Derived.Test.YtfnelkcllaaebaaEB6
import Derived.Test.YtfnelkcllaaebaaEB7
import Derived.Test.YtfnelkcllaaebaaEB8
section
/- Contract of rdata.Sound. No condition but that slices read as lists, and the labels' sizes. -/
open Go.RowKit
set_option linter.unusedVariables false
set_option linter.unusedSimpArgs false
namespace Go.Proofs.Ytfnelkcllaaebaa
def longT (t : Str) : Bool := decide (255 < t.size)
def rsoundS (sh : Shape) (d : Dat) : Bool :=
  (decide (sh.bytes < 0) || decide ((d.bytes.length : Int) = sh.bytes)) && (decide (d.bytes.length ≤ 65535) && (decide (d.nums.length = sh.nums) && ((if sh.host then nsound d.host else decide (d.host.length = 0)) && ((if sh.mail then nsound d.mail else decide (d.mail.length = 0)) && (!(d.nums.any fun n => !fits n sh.size) && (if sh.texts then decide (1 ≤ d.texts.length ∧ d.texts.length ≤ 64) && !(d.texts.any longT) else decide (d.texts.length = 0)))))))
/-- May a type say so? -/
def rsound (kind : Int) (d : Dat) : Bool := decide (1 ≤ kind ∧ kind ≤ 65535) && rsoundS (shapeOf kind) d
/-- rdata.Sound$2. -/
theorem rdata_Sound2 (x : Str) (w : World) (hx : x.size ≤ maxI) : Calls Try.prog 96 #[.string x] w fun e w' => e = .returned (.bool (longT x)) ∧ Ext w w' := by
  unfold maxI at hx
  go_enter Try.func96, Try.ntmps96
  go_wp2
  go_ret
  refine ⟨ret_eq (bool_eq ?_), Ext.refl _⟩
  unfold longT
  rw [decide_eq_decide]; omega
/-- rdata.Sound$1. -/
theorem rdata_Sound1 (x sz : Int) (g : Nat) (w : World) (hc : w.cell? ⟨g, 5, none⟩ = some (.int .i64 sz)) :
    Calls Try.prog 93 #[.int .i64 x, .pointer (some ⟨g, 0, none⟩)] w fun e w' => e = .returned (.bool (!fits x sz)) ∧ Ext w w' := by
  go_enter Try.func93, Try.ntmps93
  go_wp2_with fail
  refine (num_Fits x sz w).mono ?_
  rintro e w1 ⟨rfl, rfl⟩
  cases hf : fits x sz with
  | true =>
    have HF := Lib.hid hf
    clear hf
    go_wp2
    go_ret
    exact ⟨by rw [HF.out]; rfl, Ext.refl _⟩
  | false =>
    have HF := Lib.hid hf
    clear hf
    go_wp2
    go_ret
    exact ⟨by rw [HF.out]; rfl, Ext.refl _⟩
/-- What stands while Sound runs. -/
structure SInv (w W : World) (g : Nat) (C : Array Value) (a0 a1 a2 a3 a4 : Value) : Prop where
  one : One w W a0 a1 a2 a3 a4
  shp : W.heap[g]? = some (.cells C 118 (0, 0))
theorem One.step {w W W' : World} {a0 a1 a2 a3 a4 : Value} (h : One w W a0 a1 a2 a3 a4) (hE : Ext W W') : One w W' a0 a1 a2 a3 a4 := ⟨h.ext.trans hE, hE.block h.ha⟩
theorem SInv.step {w W W' : World} {g : Nat} {C : Array Value} {a0 a1 a2 a3 a4 : Value} (h : SInv w W g C a0 a1 a2 a3 a4) (hE : Ext W W') : SInv w W' g C a0 a1 a2 a3 a4 := ⟨h.one.step hE, hE.block h.shp⟩
theorem SInv.cs {w W : World} {g : Nat} {C : Array Value} {a0 a1 a2 a3 a4 : Value} (h : SInv w W g C a0 a1 a2 a3 a4) (i : Nat) : W.cell? ⟨g, i, none⟩ = C[i]? := by
  have := h.shp
  simp [World.cell?, this]
/-- A kind that is none. -/
theorem rsound_bad (kind : Int) (hk : ¬ (1 ≤ kind ∧ kind ≤ 65535)) (d : Dat) (v0 v1 v2 v3 v4 : Value) (w : World) (hd : DR w v0 v1 v2 v3 v4 d) :
    Calls Try.prog 31 #[.int .i64 kind, .agg #[v0, v1, v2, v3, v4]] w fun e w' => e = .returned (.bool (rsound kind d)) ∧ Ext w w' := by
  have HE := Lib.hid (show rsound kind d = false by unfold rsound; rw [decide_eq_false hk]; rfl)
  have hO : Ext w (w.alloc (.cells #[v0, v1, v2, v3, v4] 26)) := (Ext.refl w).alloc _
  have HO := Lib.hid hO
  clear hO hd
  go_enter Try.func31, Try.ntmps31
  go_wp2_with fail
  refine (rdata_shapes kind _).mono ?_
  rintro e w1 ⟨rfl, hE1⟩
  have HW := Lib.hid (HO.out.trans hE1)
  clear hE1
  unfold shapeC
  by_cases h1 : kind < 1
  · clear hk
    go_wp2
    go_ret
    exact ⟨by rw [HE.out]; rfl, HW.out.alloc _⟩
  · have h2 : 65535 < kind := by omega
    clear hk
    go_wp2
    go_ret
    exact ⟨by rw [HE.out]; rfl, HW.out.alloc _⟩
set_option maxRecDepth 100000 in
set_option maxHeartbeats 2000000 in
theorem rsound_texts (kind : Int) (h1 : 1 ≤ kind) (h2 : kind ≤ 65535) (hs : shapeOf kind = ⟨0, false, false, false, 0, 0, true, false⟩) (d : Dat) (v0 v1 v2 v3 v4 : Value) (w : World) (hd : DR w v0 v1 v2 v3 v4 d) (fd : DFit d) (ft : Fits d.texts) :
    Calls Try.prog 31 #[.int .i64 kind, .agg #[v0, v1, v2, v3, v4]] w fun e w' => e = .returned (.bool (rsound kind d)) ∧ Ext w w' := by
  have hmf : ∀ (fn : Fn) (first cap : Array Value) (w : World), (Instr.makeFunc fn first cap).run Try.prog w = .ok (.func fn first cap) w := fun _ _ _ _ => rfl
  have hm : rsound kind d = rsoundS ⟨0, false, false, false, 0, 0, true, false⟩ d := by unfold rsound; rw [hs, decide_eq_true ⟨h1, h2⟩]; rfl
  rw [hm]
  have HD := Lib.hid hd
  have FD := Lib.hid fd
  have FT := Lib.hid ft
  have HO := Lib.hid (one_start w v0 v1 v2 v3 v4)
  have HS := Lib.hid hs
  obtain ⟨A0, k0, rfl, l0, m0⟩ := hd.by_.form
  obtain ⟨A1, k1, rfl, l1, m1⟩ := hd.ho.form
  obtain ⟨A2, k2, rfl, l2, m2⟩ := hd.ma.form
  obtain ⟨A3, k3, rfl, l3, m3⟩ := hd.nu.form
  obtain ⟨A4, k4, rfl, l4, m4⟩ := hd.tx.form
  unfold maxI at m0 m1 m2 m3 m4
  clear hd fd ft hm hs
  by_cases p1 : (d.bytes.length : Int) = 0
  case neg =>
    have ht : ((d.bytes.length : Int) != 0) = true := by rw [bne_iff_ne]; exact p1
    have HE := Lib.hid (show rsoundS ⟨0, false, false, false, 0, 0, true, false⟩ d = false by unfold rsoundS; simp only []; rw [decide_eq_false p1, decide_eq_false (show ¬ (0 : Int) < 0 by omega)]; rfl)
    clear p1
    go_enter Try.func31, Try.ntmps31
    go_wp2_with fail
    refine (rdata_shapes kind _).mono ?_
    rintro e w1 ⟨rfl, hE1⟩
    rw [HS.out]
    have HI := Lib.hid (show SInv w (w1.alloc (.cells #[.int .i64 0, .bool false, .bool false, .bool false, .int .i64 0, .int .i64 0, .bool true, .bool false] 118)) w1.heap.size #[.int .i64 0, .bool false, .bool false, .bool false, .int .i64 0, .int .i64 0, .bool true, .bool false] _ _ _ _ _ from ⟨(HO.out.step hE1).step ((Ext.refl _).alloc _), heap_alloc_new w1 _⟩)
    clear hE1 HO
    unfold shapeC
    simp only []
    have s0 := HI.out.cs 0
    have s1 := HI.out.cs 1
    have s2 := HI.out.cs 2
    have s4 := HI.out.cs 4
    have s5 := HI.out.cs 5
    have s6 := HI.out.cs 6
    simp only [List.getElem?_toArray, List.getElem?_cons_zero, List.getElem?_cons_succ] at s0 s1 s2 s4 s5 s6
    obtain ⟨c0, c1, c2, c3, c4⟩ := HI.out.one.ca
    go_wp2
    go_ret
    exact ⟨by rw [HE.out]; rfl, HI.out.one.ext⟩
  have ht1 : ((d.bytes.length : Int) != 0) = false := by rw [p1]; simp
  have p1b : d.bytes.length ≤ 65535 := by omega
  by_cases p2 : d.nums.length = 0
  case neg =>
    have ht : ((d.nums.length : Int) != 0) = true := by rw [bne_iff_ne]; omega
    have HE := Lib.hid (show rsoundS ⟨0, false, false, false, 0, 0, true, false⟩ d = false by unfold rsoundS; simp only []; rw [decide_eq_false p2]; simp)
    clear p2
    go_enter Try.func31, Try.ntmps31
    go_wp2_with fail
    refine (rdata_shapes kind _).mono ?_
    rintro e w1 ⟨rfl, hE1⟩
    rw [HS.out]
    have HI := Lib.hid (show SInv w (w1.alloc (.cells #[.int .i64 0, .bool false, .bool false, .bool false, .int .i64 0, .int .i64 0, .bool true, .bool false] 118)) w1.heap.size #[.int .i64 0, .bool false, .bool false, .bool false, .int .i64 0, .int .i64 0, .bool true, .bool false] _ _ _ _ _ from ⟨(HO.out.step hE1).step ((Ext.refl _).alloc _), heap_alloc_new w1 _⟩)
    clear hE1 HO
    unfold shapeC
    simp only []
    have s0 := HI.out.cs 0
    have s1 := HI.out.cs 1
    have s2 := HI.out.cs 2
    have s4 := HI.out.cs 4
    have s5 := HI.out.cs 5
    have s6 := HI.out.cs 6
    simp only [List.getElem?_toArray, List.getElem?_cons_zero, List.getElem?_cons_succ] at s0 s1 s2 s4 s5 s6
    obtain ⟨c0, c1, c2, c3, c4⟩ := HI.out.one.ca
    go_wp2
    go_ret
    exact ⟨by rw [HE.out]; rfl, HI.out.one.ext⟩
  have ht2 : ((d.nums.length : Int) != 0) = false := by rw [p2]; simp
  have P2 := Lib.hid p2
  have P1 := Lib.hid p1
  clear p2 p1
  by_cases p3 : d.host.length = 0
  case neg =>
    have HE := Lib.hid (show rsoundS ⟨0, false, false, false, 0, 0, true, false⟩ d = false by unfold rsoundS; simp only []; rw [decide_eq_false p3]; simp)
    go_enter Try.func31, Try.ntmps31
    go_wp2_with fail
    refine (rdata_shapes kind _).mono ?_
    rintro e w1 ⟨rfl, hE1⟩
    rw [HS.out]
    have HI := Lib.hid (show SInv w (w1.alloc (.cells #[.int .i64 0, .bool false, .bool false, .bool false, .int .i64 0, .int .i64 0, .bool true, .bool false] 118)) w1.heap.size #[.int .i64 0, .bool false, .bool false, .bool false, .int .i64 0, .int .i64 0, .bool true, .bool false] _ _ _ _ _ from ⟨(HO.out.step hE1).step ((Ext.refl _).alloc _), heap_alloc_new w1 _⟩)
    clear hE1 HO
    unfold shapeC
    simp only []
    have s0 := HI.out.cs 0
    have s1 := HI.out.cs 1
    have s2 := HI.out.cs 2
    have s4 := HI.out.cs 4
    have s5 := HI.out.cs 5
    have s6 := HI.out.cs 6
    simp only [List.getElem?_toArray, List.getElem?_cons_zero, List.getElem?_cons_succ] at s0 s1 s2 s4 s5 s6
    obtain ⟨c0, c1, c2, c3, c4⟩ := HI.out.one.ca
    go_wp2
    go_ret
    exact ⟨by rw [HE.out]; rfl, HI.out.one.ext⟩
  have P3 := Lib.hid p3
  have n3 : ¬ (0 : Int) < (d.host.length : Int) := by omega
  clear p3
  by_cases p4 : d.mail.length = 0
  case neg =>
    have HE := Lib.hid (show rsoundS ⟨0, false, false, false, 0, 0, true, false⟩ d = false by unfold rsoundS; simp only []; rw [decide_eq_false p4]; simp)
    go_enter Try.func31, Try.ntmps31
    go_wp2_with fail
    refine (rdata_shapes kind _).mono ?_
    rintro e w1 ⟨rfl, hE1⟩
    rw [HS.out]
    have HI := Lib.hid (show SInv w (w1.alloc (.cells #[.int .i64 0, .bool false, .bool false, .bool false, .int .i64 0, .int .i64 0, .bool true, .bool false] 118)) w1.heap.size #[.int .i64 0, .bool false, .bool false, .bool false, .int .i64 0, .int .i64 0, .bool true, .bool false] _ _ _ _ _ from ⟨(HO.out.step hE1).step ((Ext.refl _).alloc _), heap_alloc_new w1 _⟩)
    clear hE1 HO
    unfold shapeC
    simp only []
    have s0 := HI.out.cs 0
    have s1 := HI.out.cs 1
    have s2 := HI.out.cs 2
    have s4 := HI.out.cs 4
    have s5 := HI.out.cs 5
    have s6 := HI.out.cs 6
    simp only [List.getElem?_toArray, List.getElem?_cons_zero, List.getElem?_cons_succ] at s0 s1 s2 s4 s5 s6
    obtain ⟨c0, c1, c2, c3, c4⟩ := HI.out.one.ca
    go_wp2
    go_ret
    exact ⟨by rw [HE.out]; rfl, HI.out.one.ext⟩
  have P4 := Lib.hid p4
  have n4 : ¬ (0 : Int) < (d.mail.length : Int) := by omega
  clear p4
  go_enter Try.func31, Try.ntmps31
  go_wp2_with fail
  refine (rdata_shapes kind _).mono ?_
  rintro e w1 ⟨rfl, hE1⟩
  rw [HS.out]
  have HI := Lib.hid (show SInv w (w1.alloc (.cells #[.int .i64 0, .bool false, .bool false, .bool false, .int .i64 0, .int .i64 0, .bool true, .bool false] 118)) w1.heap.size #[.int .i64 0, .bool false, .bool false, .bool false, .int .i64 0, .int .i64 0, .bool true, .bool false] _ _ _ _ _ from ⟨(HO.out.step hE1).step ((Ext.refl _).alloc _), heap_alloc_new w1 _⟩)
  clear hE1 HO
  unfold shapeC
  simp only []
  have s0 := HI.out.cs 0
  have s1 := HI.out.cs 1
  have s2 := HI.out.cs 2
  have s4 := HI.out.cs 4
  have s5 := HI.out.cs 5
  have s6 := HI.out.cs 6
  simp only [List.getElem?_toArray, List.getElem?_cons_zero, List.getElem?_cons_succ] at s0 s1 s2 s4 s5 s6
  obtain ⟨c0, c1, c2, c3, c4⟩ := HI.out.one.ca
  go_wp2_with fail
  refine (containsFunc_I 93 #[.pointer (some ⟨w1.heap.size, 0, none⟩)] (fun _ _ => by kernel_rfl) (fun n => !fits n 0) _ d.nums _ (HD.out.ext HI.out.one.ext).nu (fun x w9 _ hE9 => rdata_Sound1 x 0 w1.heap.size w9 ((HI.out.step hE9).cs 5))).mono ?_
  rintro e w4 ⟨rfl, hE4⟩
  have HI := Lib.hid (HI.out.step hE4)
  clear hE4 s0 s1 s2 s4 s5 s6 c0 c1 c2 c3 c4
  have s0 := HI.out.cs 0
  have s1 := HI.out.cs 1
  have s2 := HI.out.cs 2
  have s4 := HI.out.cs 4
  have s5 := HI.out.cs 5
  have s6 := HI.out.cs 6
  simp only [List.getElem?_toArray, List.getElem?_cons_zero, List.getElem?_cons_succ] at s0 s1 s2 s4 s5 s6
  obtain ⟨c0, c1, c2, c3, c4⟩ := HI.out.one.ca
  cases q5 : d.nums.any (fun n => !fits n 0) with
  | true =>
    have HE := Lib.hid (show rsoundS ⟨0, false, false, false, 0, 0, true, false⟩ d = false by unfold rsoundS; simp only []; rw [show (d.nums.any fun n => !fits n ((0 : Nat) : Int)) = true from q5]; simp)
    clear q5
    go_wp2
    go_ret
    exact ⟨by rw [HE.out]; rfl, HI.out.one.ext⟩
  | false =>
    have Q5 := Lib.hid (show (d.nums.any fun n => !fits n ((0 : Nat) : Int)) = false from q5)
    clear q5
    by_cases p6 : 1 ≤ d.texts.length ∧ d.texts.length ≤ 64
    · obtain ⟨p7, p8⟩ := p6
      go_wp2_with fail
      refine (containsFunc_S 96 #[] (fun _ _ => by kernel_rfl) longT _ d.texts _ (HD.out.ext HI.out.one.ext).tx (fun x w9 hx _ => rdata_Sound2 x w9 (FT.out x hx))).mono ?_
      rintro e w5 ⟨rfl, hE5⟩
      have HI := Lib.hid (HI.out.step hE5)
      clear hE5 s0 s1 s2 s4 s5 s6 c0 c1 c2 c3 c4
      have s0 := HI.out.cs 0
      have s1 := HI.out.cs 1
      have s2 := HI.out.cs 2
      have s4 := HI.out.cs 4
      have s5 := HI.out.cs 5
      have s6 := HI.out.cs 6
      simp only [List.getElem?_toArray, List.getElem?_cons_zero, List.getElem?_cons_succ] at s0 s1 s2 s4 s5 s6
      obtain ⟨c0, c1, c2, c3, c4⟩ := HI.out.one.ca
      cases q6 : d.texts.any longT with
      | true =>
        have HE := Lib.hid (show rsoundS ⟨0, false, false, false, 0, 0, true, false⟩ d = false by unfold rsoundS; simp only [decide_eq_true P1.out, Bool.or_true, decide_eq_true p1b, decide_eq_true P2.out, if_false, Bool.false_eq_true, decide_eq_true P3.out, decide_eq_true P4.out, Q5.out, Bool.true_and, Bool.not_false, if_true, decide_eq_true (show 1 ≤ d.texts.length ∧ d.texts.length ≤ 64 from ⟨p7, p8⟩), q6, Bool.not_true])
        clear q6
        go_wp2
        go_ret
        exact ⟨by rw [HE.out]; rfl, HI.out.one.ext⟩
      | false =>
        have HE := Lib.hid (show rsoundS ⟨0, false, false, false, 0, 0, true, false⟩ d = true by unfold rsoundS; simp only [decide_eq_true P1.out, Bool.or_true, decide_eq_true p1b, decide_eq_true P2.out, if_false, Bool.false_eq_true, decide_eq_true P3.out, decide_eq_true P4.out, Q5.out, Bool.true_and, Bool.not_false, if_true, decide_eq_true (show 1 ≤ d.texts.length ∧ d.texts.length ≤ 64 from ⟨p7, p8⟩), q6, Bool.not_true])
        clear q6
        go_wp2
        go_ret
        exact ⟨by rw [HE.out]; rfl, HI.out.one.ext⟩
    · have HE := Lib.hid (show rsoundS ⟨0, false, false, false, 0, 0, true, false⟩ d = false by unfold rsoundS; simp only [decide_eq_true P1.out, Bool.or_true, decide_eq_true p1b, decide_eq_true P2.out, if_false, Bool.false_eq_true, decide_eq_true P3.out, decide_eq_true P4.out, Q5.out, Bool.true_and, Bool.not_false, if_true, decide_eq_false p6, Bool.false_and])
      by_cases p7 : 1 ≤ d.texts.length
      · have p8 : 64 < d.texts.length := by omega
        clear p6
        go_wp2
        go_ret
        exact ⟨by rw [HE.out]; rfl, HI.out.one.ext⟩
      · clear p6
        go_wp2
        go_ret
        exact ⟨by rw [HE.out]; rfl, HI.out.one.ext⟩
set_option maxRecDepth 100000 in
set_option maxHeartbeats 2000000 in
theorem rsound_rest (kind : Int) (h1 : 1 ≤ kind) (h2 : kind ≤ 65535) (hs : shapeOf kind = ⟨(-1), false, false, false, 0, 0, false, false⟩) (d : Dat) (v0 v1 v2 v3 v4 : Value) (w : World) (hd : DR w v0 v1 v2 v3 v4 d) (fd : DFit d) (ft : Fits d.texts) :
    Calls Try.prog 31 #[.int .i64 kind, .agg #[v0, v1, v2, v3, v4]] w fun e w' => e = .returned (.bool (rsound kind d)) ∧ Ext w w' := by
  have hmf : ∀ (fn : Fn) (first cap : Array Value) (w : World), (Instr.makeFunc fn first cap).run Try.prog w = .ok (.func fn first cap) w := fun _ _ _ _ => rfl
  have hm : rsound kind d = rsoundS ⟨(-1), false, false, false, 0, 0, false, false⟩ d := by unfold rsound; rw [hs, decide_eq_true ⟨h1, h2⟩]; rfl
  rw [hm]
  have HD := Lib.hid hd
  have FD := Lib.hid fd
  have FT := Lib.hid ft
  have HO := Lib.hid (one_start w v0 v1 v2 v3 v4)
  have HS := Lib.hid hs
  obtain ⟨A0, k0, rfl, l0, m0⟩ := hd.by_.form
  obtain ⟨A1, k1, rfl, l1, m1⟩ := hd.ho.form
  obtain ⟨A2, k2, rfl, l2, m2⟩ := hd.ma.form
  obtain ⟨A3, k3, rfl, l3, m3⟩ := hd.nu.form
  obtain ⟨A4, k4, rfl, l4, m4⟩ := hd.tx.form
  unfold maxI at m0 m1 m2 m3 m4
  clear hd fd ft hm hs
  by_cases p1 : d.bytes.length ≤ 65535
  case neg =>
    have HE := Lib.hid (show rsoundS ⟨(-1), false, false, false, 0, 0, false, false⟩ d = false by unfold rsoundS; simp [p1])
    go_enter Try.func31, Try.ntmps31
    go_wp2_with fail
    refine (rdata_shapes kind _).mono ?_
    rintro e w1 ⟨rfl, hE1⟩
    rw [HS.out]
    have HI := Lib.hid (show SInv w (w1.alloc (.cells #[.int .i64 (-1), .bool false, .bool false, .bool false, .int .i64 0, .int .i64 0, .bool false, .bool false] 118)) w1.heap.size #[.int .i64 (-1), .bool false, .bool false, .bool false, .int .i64 0, .int .i64 0, .bool false, .bool false] _ _ _ _ _ from ⟨(HO.out.step hE1).step ((Ext.refl _).alloc _), heap_alloc_new w1 _⟩)
    clear hE1 HO
    unfold shapeC
    simp only []
    have s0 := HI.out.cs 0
    have s1 := HI.out.cs 1
    have s2 := HI.out.cs 2
    have s4 := HI.out.cs 4
    have s5 := HI.out.cs 5
    have s6 := HI.out.cs 6
    simp only [List.getElem?_toArray, List.getElem?_cons_zero, List.getElem?_cons_succ] at s0 s1 s2 s4 s5 s6
    obtain ⟨c0, c1, c2, c3, c4⟩ := HI.out.one.ca
    go_wp2
    go_ret
    exact ⟨by rw [HE.out]; rfl, HI.out.one.ext⟩
  by_cases p2 : d.nums.length = 0
  case neg =>
    have ht : ((d.nums.length : Int) != 0) = true := by rw [bne_iff_ne]; omega
    have HE := Lib.hid (show rsoundS ⟨(-1), false, false, false, 0, 0, false, false⟩ d = false by unfold rsoundS; simp only []; rw [decide_eq_false p2]; simp)
    clear p2
    go_enter Try.func31, Try.ntmps31
    go_wp2_with fail
    refine (rdata_shapes kind _).mono ?_
    rintro e w1 ⟨rfl, hE1⟩
    rw [HS.out]
    have HI := Lib.hid (show SInv w (w1.alloc (.cells #[.int .i64 (-1), .bool false, .bool false, .bool false, .int .i64 0, .int .i64 0, .bool false, .bool false] 118)) w1.heap.size #[.int .i64 (-1), .bool false, .bool false, .bool false, .int .i64 0, .int .i64 0, .bool false, .bool false] _ _ _ _ _ from ⟨(HO.out.step hE1).step ((Ext.refl _).alloc _), heap_alloc_new w1 _⟩)
    clear hE1 HO
    unfold shapeC
    simp only []
    have s0 := HI.out.cs 0
    have s1 := HI.out.cs 1
    have s2 := HI.out.cs 2
    have s4 := HI.out.cs 4
    have s5 := HI.out.cs 5
    have s6 := HI.out.cs 6
    simp only [List.getElem?_toArray, List.getElem?_cons_zero, List.getElem?_cons_succ] at s0 s1 s2 s4 s5 s6
    obtain ⟨c0, c1, c2, c3, c4⟩ := HI.out.one.ca
    go_wp2
    go_ret
    exact ⟨by rw [HE.out]; rfl, HI.out.one.ext⟩
  have ht2 : ((d.nums.length : Int) != 0) = false := by rw [p2]; simp
  have P2 := Lib.hid p2
  have P1 := Lib.hid p1
  clear p2
  by_cases p3 : d.host.length = 0
  case neg =>
    have HE := Lib.hid (show rsoundS ⟨(-1), false, false, false, 0, 0, false, false⟩ d = false by unfold rsoundS; simp only []; rw [decide_eq_false p3]; simp)
    go_enter Try.func31, Try.ntmps31
    go_wp2_with fail
    refine (rdata_shapes kind _).mono ?_
    rintro e w1 ⟨rfl, hE1⟩
    rw [HS.out]
    have HI := Lib.hid (show SInv w (w1.alloc (.cells #[.int .i64 (-1), .bool false, .bool false, .bool false, .int .i64 0, .int .i64 0, .bool false, .bool false] 118)) w1.heap.size #[.int .i64 (-1), .bool false, .bool false, .bool false, .int .i64 0, .int .i64 0, .bool false, .bool false] _ _ _ _ _ from ⟨(HO.out.step hE1).step ((Ext.refl _).alloc _), heap_alloc_new w1 _⟩)
    clear hE1 HO
    unfold shapeC
    simp only []
    have s0 := HI.out.cs 0
    have s1 := HI.out.cs 1
    have s2 := HI.out.cs 2
    have s4 := HI.out.cs 4
    have s5 := HI.out.cs 5
    have s6 := HI.out.cs 6
    simp only [List.getElem?_toArray, List.getElem?_cons_zero, List.getElem?_cons_succ] at s0 s1 s2 s4 s5 s6
    obtain ⟨c0, c1, c2, c3, c4⟩ := HI.out.one.ca
    go_wp2
    go_ret
    exact ⟨by rw [HE.out]; rfl, HI.out.one.ext⟩
  have P3 := Lib.hid p3
  have n3 : ¬ (0 : Int) < (d.host.length : Int) := by omega
  clear p3
  by_cases p4 : d.mail.length = 0
  case neg =>
    have HE := Lib.hid (show rsoundS ⟨(-1), false, false, false, 0, 0, false, false⟩ d = false by unfold rsoundS; simp only []; rw [decide_eq_false p4]; simp)
    go_enter Try.func31, Try.ntmps31
    go_wp2_with fail
    refine (rdata_shapes kind _).mono ?_
    rintro e w1 ⟨rfl, hE1⟩
    rw [HS.out]
    have HI := Lib.hid (show SInv w (w1.alloc (.cells #[.int .i64 (-1), .bool false, .bool false, .bool false, .int .i64 0, .int .i64 0, .bool false, .bool false] 118)) w1.heap.size #[.int .i64 (-1), .bool false, .bool false, .bool false, .int .i64 0, .int .i64 0, .bool false, .bool false] _ _ _ _ _ from ⟨(HO.out.step hE1).step ((Ext.refl _).alloc _), heap_alloc_new w1 _⟩)
    clear hE1 HO
    unfold shapeC
    simp only []
    have s0 := HI.out.cs 0
    have s1 := HI.out.cs 1
    have s2 := HI.out.cs 2
    have s4 := HI.out.cs 4
    have s5 := HI.out.cs 5
    have s6 := HI.out.cs 6
    simp only [List.getElem?_toArray, List.getElem?_cons_zero, List.getElem?_cons_succ] at s0 s1 s2 s4 s5 s6
    obtain ⟨c0, c1, c2, c3, c4⟩ := HI.out.one.ca
    go_wp2
    go_ret
    exact ⟨by rw [HE.out]; rfl, HI.out.one.ext⟩
  have P4 := Lib.hid p4
  have n4 : ¬ (0 : Int) < (d.mail.length : Int) := by omega
  clear p4
  go_enter Try.func31, Try.ntmps31
  go_wp2_with fail
  refine (rdata_shapes kind _).mono ?_
  rintro e w1 ⟨rfl, hE1⟩
  rw [HS.out]
  have HI := Lib.hid (show SInv w (w1.alloc (.cells #[.int .i64 (-1), .bool false, .bool false, .bool false, .int .i64 0, .int .i64 0, .bool false, .bool false] 118)) w1.heap.size #[.int .i64 (-1), .bool false, .bool false, .bool false, .int .i64 0, .int .i64 0, .bool false, .bool false] _ _ _ _ _ from ⟨(HO.out.step hE1).step ((Ext.refl _).alloc _), heap_alloc_new w1 _⟩)
  clear hE1 HO
  unfold shapeC
  simp only []
  have s0 := HI.out.cs 0
  have s1 := HI.out.cs 1
  have s2 := HI.out.cs 2
  have s4 := HI.out.cs 4
  have s5 := HI.out.cs 5
  have s6 := HI.out.cs 6
  simp only [List.getElem?_toArray, List.getElem?_cons_zero, List.getElem?_cons_succ] at s0 s1 s2 s4 s5 s6
  obtain ⟨c0, c1, c2, c3, c4⟩ := HI.out.one.ca
  go_wp2_with fail
  refine (containsFunc_I 93 #[.pointer (some ⟨w1.heap.size, 0, none⟩)] (fun _ _ => by kernel_rfl) (fun n => !fits n 0) _ d.nums _ (HD.out.ext HI.out.one.ext).nu (fun x w9 _ hE9 => rdata_Sound1 x 0 w1.heap.size w9 ((HI.out.step hE9).cs 5))).mono ?_
  rintro e w4 ⟨rfl, hE4⟩
  have HI := Lib.hid (HI.out.step hE4)
  clear hE4 s0 s1 s2 s4 s5 s6 c0 c1 c2 c3 c4
  have s0 := HI.out.cs 0
  have s1 := HI.out.cs 1
  have s2 := HI.out.cs 2
  have s4 := HI.out.cs 4
  have s5 := HI.out.cs 5
  have s6 := HI.out.cs 6
  simp only [List.getElem?_toArray, List.getElem?_cons_zero, List.getElem?_cons_succ] at s0 s1 s2 s4 s5 s6
  obtain ⟨c0, c1, c2, c3, c4⟩ := HI.out.one.ca
  cases q5 : d.nums.any (fun n => !fits n 0) with
  | true =>
    have HE := Lib.hid (show rsoundS ⟨(-1), false, false, false, 0, 0, false, false⟩ d = false by unfold rsoundS; simp only []; rw [show (d.nums.any fun n => !fits n ((0 : Nat) : Int)) = true from q5]; simp)
    clear q5
    go_wp2
    go_ret
    exact ⟨by rw [HE.out]; rfl, HI.out.one.ext⟩
  | false =>
    have Q5 := Lib.hid (show (d.nums.any fun n => !fits n ((0 : Nat) : Int)) = false from q5)
    clear q5
    by_cases p6 : d.texts.length = 0
    · have HE := Lib.hid (show rsoundS ⟨(-1), false, false, false, 0, 0, false, false⟩ d = true by unfold rsoundS; simp only [show decide ((-1 : Int) < 0) = true from rfl, Bool.true_or, decide_eq_true P1.out, decide_eq_true P2.out, if_false, Bool.false_eq_true, decide_eq_true P3.out, decide_eq_true P4.out, Q5.out, Bool.true_and, Bool.not_false, if_false, Bool.false_eq_true, decide_eq_true p6])
      have ht6 : ((d.texts.length : Int) == 0) = true := by rw [p6]; rfl
      clear p6
      go_wp2
      go_ret
      exact ⟨by rw [HE.out]; rfl, HI.out.one.ext⟩
    · have HE := Lib.hid (show rsoundS ⟨(-1), false, false, false, 0, 0, false, false⟩ d = false by unfold rsoundS; simp only [show decide ((-1 : Int) < 0) = true from rfl, Bool.true_or, decide_eq_true P1.out, decide_eq_true P2.out, if_false, Bool.false_eq_true, decide_eq_true P3.out, decide_eq_true P4.out, Q5.out, Bool.true_and, Bool.not_false, if_false, Bool.false_eq_true, decide_eq_false p6])
      have ht6 : ((d.texts.length : Int) == 0) = false := by rw [beq_eq_false_iff_ne]; omega
      clear p6
      go_wp2
      go_ret
      exact ⟨by rw [HE.out]; rfl, HI.out.one.ext⟩
set_option maxRecDepth 100000 in
set_option maxHeartbeats 2000000 in
theorem rsound_bytes (n : Nat) (hn : n = 4 ∨ n = 16) (kind : Int) (h1 : 1 ≤ kind) (h2 : kind ≤ 65535) (hs : shapeOf kind = ⟨n, false, false, false, 0, 0, false, false⟩) (d : Dat) (v0 v1 v2 v3 v4 : Value) (w : World) (hd : DR w v0 v1 v2 v3 v4 d) (fd : DFit d) (ft : Fits d.texts) :
    Calls Try.prog 31 #[.int .i64 kind, .agg #[v0, v1, v2, v3, v4]] w fun e w' => e = .returned (.bool (rsound kind d)) ∧ Ext w w' := by
  have hmf : ∀ (fn : Fn) (first cap : Array Value) (w : World), (Instr.makeFunc fn first cap).run Try.prog w = .ok (.func fn first cap) w := fun _ _ _ _ => rfl
  have hm : rsound kind d = rsoundS ⟨n, false, false, false, 0, 0, false, false⟩ d := by unfold rsound; rw [hs, decide_eq_true ⟨h1, h2⟩]; rfl
  rw [hm]
  have HD := Lib.hid hd
  have FD := Lib.hid fd
  have FT := Lib.hid ft
  have HO := Lib.hid (one_start w v0 v1 v2 v3 v4)
  have HS := Lib.hid hs
  obtain ⟨A0, k0, rfl, l0, m0⟩ := hd.by_.form
  obtain ⟨A1, k1, rfl, l1, m1⟩ := hd.ho.form
  obtain ⟨A2, k2, rfl, l2, m2⟩ := hd.ma.form
  obtain ⟨A3, k3, rfl, l3, m3⟩ := hd.nu.form
  obtain ⟨A4, k4, rfl, l4, m4⟩ := hd.tx.form
  unfold maxI at m0 m1 m2 m3 m4
  clear hd fd ft hm hs
  by_cases p1 : (d.bytes.length : Int) = n
  case neg =>
    have ht : ((d.bytes.length : Int) != n) = true := by rw [bne_iff_ne]; exact p1
    have HE := Lib.hid (show rsoundS ⟨n, false, false, false, 0, 0, false, false⟩ d = false by unfold rsoundS; simp only []; rw [decide_eq_false p1, decide_eq_false (show ¬ (n : Int) < 0 by omega)]; rfl)
    clear p1
    go_enter Try.func31, Try.ntmps31
    go_wp2_with fail
    refine (rdata_shapes kind _).mono ?_
    rintro e w1 ⟨rfl, hE1⟩
    rw [HS.out]
    have HI := Lib.hid (show SInv w (w1.alloc (.cells #[.int .i64 n, .bool false, .bool false, .bool false, .int .i64 0, .int .i64 0, .bool false, .bool false] 118)) w1.heap.size #[.int .i64 n, .bool false, .bool false, .bool false, .int .i64 0, .int .i64 0, .bool false, .bool false] _ _ _ _ _ from ⟨(HO.out.step hE1).step ((Ext.refl _).alloc _), heap_alloc_new w1 _⟩)
    clear hE1 HO
    unfold shapeC
    simp only []
    have s0 := HI.out.cs 0
    have s1 := HI.out.cs 1
    have s2 := HI.out.cs 2
    have s4 := HI.out.cs 4
    have s5 := HI.out.cs 5
    have s6 := HI.out.cs 6
    simp only [List.getElem?_toArray, List.getElem?_cons_zero, List.getElem?_cons_succ] at s0 s1 s2 s4 s5 s6
    obtain ⟨c0, c1, c2, c3, c4⟩ := HI.out.one.ca
    go_wp2
    go_ret
    exact ⟨by rw [HE.out]; rfl, HI.out.one.ext⟩
  have ht1 : ((d.bytes.length : Int) != n) = false := by rw [p1]; simp
  have p1b : d.bytes.length ≤ 65535 := by omega
  by_cases p2 : d.nums.length = 0
  case neg =>
    have ht : ((d.nums.length : Int) != 0) = true := by rw [bne_iff_ne]; omega
    have HE := Lib.hid (show rsoundS ⟨n, false, false, false, 0, 0, false, false⟩ d = false by unfold rsoundS; simp only []; rw [decide_eq_false p2]; simp)
    clear p2
    go_enter Try.func31, Try.ntmps31
    go_wp2_with fail
    refine (rdata_shapes kind _).mono ?_
    rintro e w1 ⟨rfl, hE1⟩
    rw [HS.out]
    have HI := Lib.hid (show SInv w (w1.alloc (.cells #[.int .i64 n, .bool false, .bool false, .bool false, .int .i64 0, .int .i64 0, .bool false, .bool false] 118)) w1.heap.size #[.int .i64 n, .bool false, .bool false, .bool false, .int .i64 0, .int .i64 0, .bool false, .bool false] _ _ _ _ _ from ⟨(HO.out.step hE1).step ((Ext.refl _).alloc _), heap_alloc_new w1 _⟩)
    clear hE1 HO
    unfold shapeC
    simp only []
    have s0 := HI.out.cs 0
    have s1 := HI.out.cs 1
    have s2 := HI.out.cs 2
    have s4 := HI.out.cs 4
    have s5 := HI.out.cs 5
    have s6 := HI.out.cs 6
    simp only [List.getElem?_toArray, List.getElem?_cons_zero, List.getElem?_cons_succ] at s0 s1 s2 s4 s5 s6
    obtain ⟨c0, c1, c2, c3, c4⟩ := HI.out.one.ca
    go_wp2
    go_ret
    exact ⟨by rw [HE.out]; rfl, HI.out.one.ext⟩
  have ht2 : ((d.nums.length : Int) != 0) = false := by rw [p2]; simp
  have P2 := Lib.hid p2
  have P1 := Lib.hid p1
  clear p2 p1
  by_cases p3 : d.host.length = 0
  case neg =>
    have HE := Lib.hid (show rsoundS ⟨n, false, false, false, 0, 0, false, false⟩ d = false by unfold rsoundS; simp only []; rw [decide_eq_false p3]; simp)
    go_enter Try.func31, Try.ntmps31
    go_wp2_with fail
    refine (rdata_shapes kind _).mono ?_
    rintro e w1 ⟨rfl, hE1⟩
    rw [HS.out]
    have HI := Lib.hid (show SInv w (w1.alloc (.cells #[.int .i64 n, .bool false, .bool false, .bool false, .int .i64 0, .int .i64 0, .bool false, .bool false] 118)) w1.heap.size #[.int .i64 n, .bool false, .bool false, .bool false, .int .i64 0, .int .i64 0, .bool false, .bool false] _ _ _ _ _ from ⟨(HO.out.step hE1).step ((Ext.refl _).alloc _), heap_alloc_new w1 _⟩)
    clear hE1 HO
    unfold shapeC
    simp only []
    have s0 := HI.out.cs 0
    have s1 := HI.out.cs 1
    have s2 := HI.out.cs 2
    have s4 := HI.out.cs 4
    have s5 := HI.out.cs 5
    have s6 := HI.out.cs 6
    simp only [List.getElem?_toArray, List.getElem?_cons_zero, List.getElem?_cons_succ] at s0 s1 s2 s4 s5 s6
    obtain ⟨c0, c1, c2, c3, c4⟩ := HI.out.one.ca
    go_wp2
    go_ret
    exact ⟨by rw [HE.out]; rfl, HI.out.one.ext⟩
  have P3 := Lib.hid p3
  have n3 : ¬ (0 : Int) < (d.host.length : Int) := by omega
  clear p3
  by_cases p4 : d.mail.length = 0
  case neg =>
    have HE := Lib.hid (show rsoundS ⟨n, false, false, false, 0, 0, false, false⟩ d = false by unfold rsoundS; simp only []; rw [decide_eq_false p4]; simp)
    go_enter Try.func31, Try.ntmps31
    go_wp2_with fail
    refine (rdata_shapes kind _).mono ?_
    rintro e w1 ⟨rfl, hE1⟩
    rw [HS.out]
    have HI := Lib.hid (show SInv w (w1.alloc (.cells #[.int .i64 n, .bool false, .bool false, .bool false, .int .i64 0, .int .i64 0, .bool false, .bool false] 118)) w1.heap.size #[.int .i64 n, .bool false, .bool false, .bool false, .int .i64 0, .int .i64 0, .bool false, .bool false] _ _ _ _ _ from ⟨(HO.out.step hE1).step ((Ext.refl _).alloc _), heap_alloc_new w1 _⟩)
    clear hE1 HO
    unfold shapeC
    simp only []
    have s0 := HI.out.cs 0
    have s1 := HI.out.cs 1
    have s2 := HI.out.cs 2
    have s4 := HI.out.cs 4
    have s5 := HI.out.cs 5
    have s6 := HI.out.cs 6
    simp only [List.getElem?_toArray, List.getElem?_cons_zero, List.getElem?_cons_succ] at s0 s1 s2 s4 s5 s6
    obtain ⟨c0, c1, c2, c3, c4⟩ := HI.out.one.ca
    go_wp2
    go_ret
    exact ⟨by rw [HE.out]; rfl, HI.out.one.ext⟩
  have P4 := Lib.hid p4
  have n4 : ¬ (0 : Int) < (d.mail.length : Int) := by omega
  clear p4
  go_enter Try.func31, Try.ntmps31
  go_wp2_with fail
  refine (rdata_shapes kind _).mono ?_
  rintro e w1 ⟨rfl, hE1⟩
  rw [HS.out]
  have HI := Lib.hid (show SInv w (w1.alloc (.cells #[.int .i64 n, .bool false, .bool false, .bool false, .int .i64 0, .int .i64 0, .bool false, .bool false] 118)) w1.heap.size #[.int .i64 n, .bool false, .bool false, .bool false, .int .i64 0, .int .i64 0, .bool false, .bool false] _ _ _ _ _ from ⟨(HO.out.step hE1).step ((Ext.refl _).alloc _), heap_alloc_new w1 _⟩)
  clear hE1 HO
  unfold shapeC
  simp only []
  have s0 := HI.out.cs 0
  have s1 := HI.out.cs 1
  have s2 := HI.out.cs 2
  have s4 := HI.out.cs 4
  have s5 := HI.out.cs 5
  have s6 := HI.out.cs 6
  simp only [List.getElem?_toArray, List.getElem?_cons_zero, List.getElem?_cons_succ] at s0 s1 s2 s4 s5 s6
  obtain ⟨c0, c1, c2, c3, c4⟩ := HI.out.one.ca
  go_wp2_with fail
  refine (containsFunc_I 93 #[.pointer (some ⟨w1.heap.size, 0, none⟩)] (fun _ _ => by kernel_rfl) (fun n => !fits n 0) _ d.nums _ (HD.out.ext HI.out.one.ext).nu (fun x w9 _ hE9 => rdata_Sound1 x 0 w1.heap.size w9 ((HI.out.step hE9).cs 5))).mono ?_
  rintro e w4 ⟨rfl, hE4⟩
  have HI := Lib.hid (HI.out.step hE4)
  clear hE4 s0 s1 s2 s4 s5 s6 c0 c1 c2 c3 c4
  have s0 := HI.out.cs 0
  have s1 := HI.out.cs 1
  have s2 := HI.out.cs 2
  have s4 := HI.out.cs 4
  have s5 := HI.out.cs 5
  have s6 := HI.out.cs 6
  simp only [List.getElem?_toArray, List.getElem?_cons_zero, List.getElem?_cons_succ] at s0 s1 s2 s4 s5 s6
  obtain ⟨c0, c1, c2, c3, c4⟩ := HI.out.one.ca
  cases q5 : d.nums.any (fun n => !fits n 0) with
  | true =>
    have HE := Lib.hid (show rsoundS ⟨n, false, false, false, 0, 0, false, false⟩ d = false by unfold rsoundS; simp only []; rw [show (d.nums.any fun n => !fits n ((0 : Nat) : Int)) = true from q5]; simp)
    clear q5
    go_wp2
    go_ret
    exact ⟨by rw [HE.out]; rfl, HI.out.one.ext⟩
  | false =>
    have Q5 := Lib.hid (show (d.nums.any fun n => !fits n ((0 : Nat) : Int)) = false from q5)
    clear q5
    by_cases p6 : d.texts.length = 0
    · have HE := Lib.hid (show rsoundS ⟨n, false, false, false, 0, 0, false, false⟩ d = true by unfold rsoundS; simp only [decide_eq_true P1.out, Bool.or_true, decide_eq_true p1b, decide_eq_true P2.out, if_false, Bool.false_eq_true, decide_eq_true P3.out, decide_eq_true P4.out, Q5.out, Bool.true_and, Bool.not_false, if_false, Bool.false_eq_true, decide_eq_true p6])
      have ht6 : ((d.texts.length : Int) == 0) = true := by rw [p6]; rfl
      clear p6
      go_wp2
      go_ret
      exact ⟨by rw [HE.out]; rfl, HI.out.one.ext⟩
    · have HE := Lib.hid (show rsoundS ⟨n, false, false, false, 0, 0, false, false⟩ d = false by unfold rsoundS; simp only [decide_eq_true P1.out, Bool.or_true, decide_eq_true p1b, decide_eq_true P2.out, if_false, Bool.false_eq_true, decide_eq_true P3.out, decide_eq_true P4.out, Q5.out, Bool.true_and, Bool.not_false, if_false, Bool.false_eq_true, decide_eq_false p6])
      have ht6 : ((d.texts.length : Int) == 0) = false := by rw [beq_eq_false_iff_ne]; omega
      clear p6
      go_wp2
      go_ret
      exact ⟨by rw [HE.out]; rfl, HI.out.one.ext⟩
set_option maxRecDepth 100000 in
set_option maxHeartbeats 2000000 in
theorem rsound_host (sh_ fi_ : Bool) (nn sz : Nat) (hnn : nn ≤ 3) (hsz : sz ≤ 4) (kind : Int) (h1 : 1 ≤ kind) (h2 : kind ≤ 65535) (hs : shapeOf kind = ⟨0, true, false, sh_, nn, sz, false, fi_⟩) (d : Dat) (v0 v1 v2 v3 v4 : Value) (w : World) (hd : DR w v0 v1 v2 v3 v4 d) (fd : DFit d) (ft : Fits d.texts) :
    Calls Try.prog 31 #[.int .i64 kind, .agg #[v0, v1, v2, v3, v4]] w fun e w' => e = .returned (.bool (rsound kind d)) ∧ Ext w w' := by
  have hmf : ∀ (fn : Fn) (first cap : Array Value) (w : World), (Instr.makeFunc fn first cap).run Try.prog w = .ok (.func fn first cap) w := fun _ _ _ _ => rfl
  have hm : rsound kind d = rsoundS ⟨0, true, false, sh_, nn, sz, false, fi_⟩ d := by unfold rsound; rw [hs, decide_eq_true ⟨h1, h2⟩]; rfl
  rw [hm]
  have HD := Lib.hid hd
  have FD := Lib.hid fd
  have FT := Lib.hid ft
  have HO := Lib.hid (one_start w v0 v1 v2 v3 v4)
  have HS := Lib.hid hs
  obtain ⟨A0, k0, rfl, l0, m0⟩ := hd.by_.form
  obtain ⟨A1, k1, rfl, l1, m1⟩ := hd.ho.form
  obtain ⟨A2, k2, rfl, l2, m2⟩ := hd.ma.form
  obtain ⟨A3, k3, rfl, l3, m3⟩ := hd.nu.form
  obtain ⟨A4, k4, rfl, l4, m4⟩ := hd.tx.form
  unfold maxI at m0 m1 m2 m3 m4
  clear hd fd ft hm hs
  by_cases p1 : (d.bytes.length : Int) = 0
  case neg =>
    have ht : ((d.bytes.length : Int) != 0) = true := by rw [bne_iff_ne]; exact p1
    have HE := Lib.hid (show rsoundS ⟨0, true, false, sh_, nn, sz, false, fi_⟩ d = false by unfold rsoundS; simp only []; rw [decide_eq_false p1, decide_eq_false (show ¬ (0 : Int) < 0 by omega)]; rfl)
    clear p1
    go_enter Try.func31, Try.ntmps31
    go_wp2_with fail
    refine (rdata_shapes kind _).mono ?_
    rintro e w1 ⟨rfl, hE1⟩
    rw [HS.out]
    have HI := Lib.hid (show SInv w (w1.alloc (.cells #[.int .i64 0, .bool true, .bool false, .bool sh_, .int .i64 nn, .int .i64 sz, .bool false, .bool fi_] 118)) w1.heap.size #[.int .i64 0, .bool true, .bool false, .bool sh_, .int .i64 nn, .int .i64 sz, .bool false, .bool fi_] _ _ _ _ _ from ⟨(HO.out.step hE1).step ((Ext.refl _).alloc _), heap_alloc_new w1 _⟩)
    clear hE1 HO
    unfold shapeC
    simp only []
    have s0 := HI.out.cs 0
    have s1 := HI.out.cs 1
    have s2 := HI.out.cs 2
    have s4 := HI.out.cs 4
    have s5 := HI.out.cs 5
    have s6 := HI.out.cs 6
    simp only [List.getElem?_toArray, List.getElem?_cons_zero, List.getElem?_cons_succ] at s0 s1 s2 s4 s5 s6
    obtain ⟨c0, c1, c2, c3, c4⟩ := HI.out.one.ca
    go_wp2
    go_ret
    exact ⟨by rw [HE.out]; rfl, HI.out.one.ext⟩
  have ht1 : ((d.bytes.length : Int) != 0) = false := by rw [p1]; simp
  have p1b : d.bytes.length ≤ 65535 := by omega
  by_cases p2 : d.nums.length = nn
  case neg =>
    have ht : ((d.nums.length : Int) != nn) = true := by rw [bne_iff_ne]; omega
    have HE := Lib.hid (show rsoundS ⟨0, true, false, sh_, nn, sz, false, fi_⟩ d = false by unfold rsoundS; simp only []; rw [decide_eq_false p2]; simp)
    clear p2
    go_enter Try.func31, Try.ntmps31
    go_wp2_with fail
    refine (rdata_shapes kind _).mono ?_
    rintro e w1 ⟨rfl, hE1⟩
    rw [HS.out]
    have HI := Lib.hid (show SInv w (w1.alloc (.cells #[.int .i64 0, .bool true, .bool false, .bool sh_, .int .i64 nn, .int .i64 sz, .bool false, .bool fi_] 118)) w1.heap.size #[.int .i64 0, .bool true, .bool false, .bool sh_, .int .i64 nn, .int .i64 sz, .bool false, .bool fi_] _ _ _ _ _ from ⟨(HO.out.step hE1).step ((Ext.refl _).alloc _), heap_alloc_new w1 _⟩)
    clear hE1 HO
    unfold shapeC
    simp only []
    have s0 := HI.out.cs 0
    have s1 := HI.out.cs 1
    have s2 := HI.out.cs 2
    have s4 := HI.out.cs 4
    have s5 := HI.out.cs 5
    have s6 := HI.out.cs 6
    simp only [List.getElem?_toArray, List.getElem?_cons_zero, List.getElem?_cons_succ] at s0 s1 s2 s4 s5 s6
    obtain ⟨c0, c1, c2, c3, c4⟩ := HI.out.one.ca
    go_wp2
    go_ret
    exact ⟨by rw [HE.out]; rfl, HI.out.one.ext⟩
  have ht2 : ((d.nums.length : Int) != nn) = false := by rw [p2]; simp
  have P2 := Lib.hid p2
  have P1 := Lib.hid p1
  clear p2 p1
  go_enter Try.func31, Try.ntmps31
  go_wp2_with fail
  refine (rdata_shapes kind _).mono ?_
  rintro e w1 ⟨rfl, hE1⟩
  rw [HS.out]
  have HI := Lib.hid (show SInv w (w1.alloc (.cells #[.int .i64 0, .bool true, .bool false, .bool sh_, .int .i64 nn, .int .i64 sz, .bool false, .bool fi_] 118)) w1.heap.size #[.int .i64 0, .bool true, .bool false, .bool sh_, .int .i64 nn, .int .i64 sz, .bool false, .bool fi_] _ _ _ _ _ from ⟨(HO.out.step hE1).step ((Ext.refl _).alloc _), heap_alloc_new w1 _⟩)
  clear hE1 HO
  unfold shapeC
  simp only []
  have s0 := HI.out.cs 0
  have s1 := HI.out.cs 1
  have s2 := HI.out.cs 2
  have s4 := HI.out.cs 4
  have s5 := HI.out.cs 5
  have s6 := HI.out.cs 6
  simp only [List.getElem?_toArray, List.getElem?_cons_zero, List.getElem?_cons_succ] at s0 s1 s2 s4 s5 s6
  obtain ⟨c0, c1, c2, c3, c4⟩ := HI.out.one.ca
  go_wp2_with fail
  refine (name_Sound _ d.host _ (HD.out.ext HI.out.one.ext).ho FD.out.1).mono ?_
  rintro e w2 ⟨rfl, hE2⟩
  have HI := Lib.hid (HI.out.step hE2)
  clear hE2 s0 s1 s2 s4 s5 s6 c0 c1 c2 c3 c4
  have s0 := HI.out.cs 0
  have s1 := HI.out.cs 1
  have s2 := HI.out.cs 2
  have s4 := HI.out.cs 4
  have s5 := HI.out.cs 5
  have s6 := HI.out.cs 6
  simp only [List.getElem?_toArray, List.getElem?_cons_zero, List.getElem?_cons_succ] at s0 s1 s2 s4 s5 s6
  obtain ⟨c0, c1, c2, c3, c4⟩ := HI.out.one.ca
  cases q3 : nsound d.host with
  | false =>
    have HE := Lib.hid (show rsoundS ⟨0, true, false, sh_, nn, sz, false, fi_⟩ d = false by unfold rsoundS; simp [q3])
    clear q3
    go_wp2
    go_ret
    exact ⟨by rw [HE.out]; rfl, HI.out.one.ext⟩
  | true =>
    have Q3 := Lib.hid q3
    clear q3
    by_cases p4 : d.mail.length = 0
    case neg =>
      have HE := Lib.hid (show rsoundS ⟨0, true, false, sh_, nn, sz, false, fi_⟩ d = false by unfold rsoundS; simp only []; rw [decide_eq_false p4]; simp)
      go_wp2
      go_ret
      exact ⟨by rw [HE.out]; rfl, HI.out.one.ext⟩
    have P4 := Lib.hid p4
    have n4 : ¬ (0 : Int) < (d.mail.length : Int) := by omega
    clear p4
    go_wp2_with fail
    refine (containsFunc_I 93 #[.pointer (some ⟨w1.heap.size, 0, none⟩)] (fun _ _ => by kernel_rfl) (fun n => !fits n sz) _ d.nums _ (HD.out.ext HI.out.one.ext).nu (fun x w9 _ hE9 => rdata_Sound1 x sz w1.heap.size w9 ((HI.out.step hE9).cs 5))).mono ?_
    rintro e w4 ⟨rfl, hE4⟩
    have HI := Lib.hid (HI.out.step hE4)
    clear hE4 s0 s1 s2 s4 s5 s6 c0 c1 c2 c3 c4
    have s0 := HI.out.cs 0
    have s1 := HI.out.cs 1
    have s2 := HI.out.cs 2
    have s4 := HI.out.cs 4
    have s5 := HI.out.cs 5
    have s6 := HI.out.cs 6
    simp only [List.getElem?_toArray, List.getElem?_cons_zero, List.getElem?_cons_succ] at s0 s1 s2 s4 s5 s6
    obtain ⟨c0, c1, c2, c3, c4⟩ := HI.out.one.ca
    cases q5 : d.nums.any (fun n => !fits n sz) with
    | true =>
      have HE := Lib.hid (show rsoundS ⟨0, true, false, sh_, nn, sz, false, fi_⟩ d = false by unfold rsoundS; simp only []; rw [show (d.nums.any fun n => !fits n ((sz : Nat) : Int)) = true from q5]; simp)
      clear q5
      go_wp2
      go_ret
      exact ⟨by rw [HE.out]; rfl, HI.out.one.ext⟩
    | false =>
      have Q5 := Lib.hid (show (d.nums.any fun n => !fits n ((sz : Nat) : Int)) = false from q5)
      clear q5
      by_cases p6 : d.texts.length = 0
      · have HE := Lib.hid (show rsoundS ⟨0, true, false, sh_, nn, sz, false, fi_⟩ d = true by unfold rsoundS; simp only [decide_eq_true P1.out, Bool.or_true, decide_eq_true p1b, decide_eq_true P2.out, if_true, if_false, Bool.false_eq_true, Q3.out, decide_eq_true P4.out, Q5.out, Bool.true_and, Bool.not_false, if_false, Bool.false_eq_true, decide_eq_true p6])
        have ht6 : ((d.texts.length : Int) == 0) = true := by rw [p6]; rfl
        clear p6
        go_wp2
        go_ret
        exact ⟨by rw [HE.out]; rfl, HI.out.one.ext⟩
      · have HE := Lib.hid (show rsoundS ⟨0, true, false, sh_, nn, sz, false, fi_⟩ d = false by unfold rsoundS; simp only [decide_eq_true P1.out, Bool.or_true, decide_eq_true p1b, decide_eq_true P2.out, if_true, if_false, Bool.false_eq_true, Q3.out, decide_eq_true P4.out, Q5.out, Bool.true_and, Bool.not_false, if_false, Bool.false_eq_true, decide_eq_false p6])
        have ht6 : ((d.texts.length : Int) == 0) = false := by rw [beq_eq_false_iff_ne]; omega
        clear p6
        go_wp2
        go_ret
        exact ⟨by rw [HE.out]; rfl, HI.out.one.ext⟩
set_option maxRecDepth 100000 in
set_option maxHeartbeats 2000000 in
theorem rsound_soa (kind : Int) (h1 : 1 ≤ kind) (h2 : kind ≤ 65535) (hs : shapeOf kind = ⟨0, true, true, true, 5, 4, false, false⟩) (d : Dat) (v0 v1 v2 v3 v4 : Value) (w : World) (hd : DR w v0 v1 v2 v3 v4 d) (fd : DFit d) (ft : Fits d.texts) :
    Calls Try.prog 31 #[.int .i64 kind, .agg #[v0, v1, v2, v3, v4]] w fun e w' => e = .returned (.bool (rsound kind d)) ∧ Ext w w' := by
  have hmf : ∀ (fn : Fn) (first cap : Array Value) (w : World), (Instr.makeFunc fn first cap).run Try.prog w = .ok (.func fn first cap) w := fun _ _ _ _ => rfl
  have hm : rsound kind d = rsoundS ⟨0, true, true, true, 5, 4, false, false⟩ d := by unfold rsound; rw [hs, decide_eq_true ⟨h1, h2⟩]; rfl
  rw [hm]
  have HD := Lib.hid hd
  have FD := Lib.hid fd
  have FT := Lib.hid ft
  have HO := Lib.hid (one_start w v0 v1 v2 v3 v4)
  have HS := Lib.hid hs
  obtain ⟨A0, k0, rfl, l0, m0⟩ := hd.by_.form
  obtain ⟨A1, k1, rfl, l1, m1⟩ := hd.ho.form
  obtain ⟨A2, k2, rfl, l2, m2⟩ := hd.ma.form
  obtain ⟨A3, k3, rfl, l3, m3⟩ := hd.nu.form
  obtain ⟨A4, k4, rfl, l4, m4⟩ := hd.tx.form
  unfold maxI at m0 m1 m2 m3 m4
  clear hd fd ft hm hs
  by_cases p1 : (d.bytes.length : Int) = 0
  case neg =>
    have ht : ((d.bytes.length : Int) != 0) = true := by rw [bne_iff_ne]; exact p1
    have HE := Lib.hid (show rsoundS ⟨0, true, true, true, 5, 4, false, false⟩ d = false by unfold rsoundS; simp only []; rw [decide_eq_false p1, decide_eq_false (show ¬ (0 : Int) < 0 by omega)]; rfl)
    clear p1
    go_enter Try.func31, Try.ntmps31
    go_wp2_with fail
    refine (rdata_shapes kind _).mono ?_
    rintro e w1 ⟨rfl, hE1⟩
    rw [HS.out]
    have HI := Lib.hid (show SInv w (w1.alloc (.cells #[.int .i64 0, .bool true, .bool true, .bool true, .int .i64 5, .int .i64 4, .bool false, .bool false] 118)) w1.heap.size #[.int .i64 0, .bool true, .bool true, .bool true, .int .i64 5, .int .i64 4, .bool false, .bool false] _ _ _ _ _ from ⟨(HO.out.step hE1).step ((Ext.refl _).alloc _), heap_alloc_new w1 _⟩)
    clear hE1 HO
    unfold shapeC
    simp only []
    have s0 := HI.out.cs 0
    have s1 := HI.out.cs 1
    have s2 := HI.out.cs 2
    have s4 := HI.out.cs 4
    have s5 := HI.out.cs 5
    have s6 := HI.out.cs 6
    simp only [List.getElem?_toArray, List.getElem?_cons_zero, List.getElem?_cons_succ] at s0 s1 s2 s4 s5 s6
    obtain ⟨c0, c1, c2, c3, c4⟩ := HI.out.one.ca
    go_wp2
    go_ret
    exact ⟨by rw [HE.out]; rfl, HI.out.one.ext⟩
  have ht1 : ((d.bytes.length : Int) != 0) = false := by rw [p1]; simp
  have p1b : d.bytes.length ≤ 65535 := by omega
  by_cases p2 : d.nums.length = 5
  case neg =>
    have ht : ((d.nums.length : Int) != 5) = true := by rw [bne_iff_ne]; omega
    have HE := Lib.hid (show rsoundS ⟨0, true, true, true, 5, 4, false, false⟩ d = false by unfold rsoundS; simp only []; rw [decide_eq_false p2]; simp)
    clear p2
    go_enter Try.func31, Try.ntmps31
    go_wp2_with fail
    refine (rdata_shapes kind _).mono ?_
    rintro e w1 ⟨rfl, hE1⟩
    rw [HS.out]
    have HI := Lib.hid (show SInv w (w1.alloc (.cells #[.int .i64 0, .bool true, .bool true, .bool true, .int .i64 5, .int .i64 4, .bool false, .bool false] 118)) w1.heap.size #[.int .i64 0, .bool true, .bool true, .bool true, .int .i64 5, .int .i64 4, .bool false, .bool false] _ _ _ _ _ from ⟨(HO.out.step hE1).step ((Ext.refl _).alloc _), heap_alloc_new w1 _⟩)
    clear hE1 HO
    unfold shapeC
    simp only []
    have s0 := HI.out.cs 0
    have s1 := HI.out.cs 1
    have s2 := HI.out.cs 2
    have s4 := HI.out.cs 4
    have s5 := HI.out.cs 5
    have s6 := HI.out.cs 6
    simp only [List.getElem?_toArray, List.getElem?_cons_zero, List.getElem?_cons_succ] at s0 s1 s2 s4 s5 s6
    obtain ⟨c0, c1, c2, c3, c4⟩ := HI.out.one.ca
    go_wp2
    go_ret
    exact ⟨by rw [HE.out]; rfl, HI.out.one.ext⟩
  have ht2 : ((d.nums.length : Int) != 5) = false := by rw [p2]; simp
  have P2 := Lib.hid p2
  have P1 := Lib.hid p1
  clear p2 p1
  go_enter Try.func31, Try.ntmps31
  go_wp2_with fail
  refine (rdata_shapes kind _).mono ?_
  rintro e w1 ⟨rfl, hE1⟩
  rw [HS.out]
  have HI := Lib.hid (show SInv w (w1.alloc (.cells #[.int .i64 0, .bool true, .bool true, .bool true, .int .i64 5, .int .i64 4, .bool false, .bool false] 118)) w1.heap.size #[.int .i64 0, .bool true, .bool true, .bool true, .int .i64 5, .int .i64 4, .bool false, .bool false] _ _ _ _ _ from ⟨(HO.out.step hE1).step ((Ext.refl _).alloc _), heap_alloc_new w1 _⟩)
  clear hE1 HO
  unfold shapeC
  simp only []
  have s0 := HI.out.cs 0
  have s1 := HI.out.cs 1
  have s2 := HI.out.cs 2
  have s4 := HI.out.cs 4
  have s5 := HI.out.cs 5
  have s6 := HI.out.cs 6
  simp only [List.getElem?_toArray, List.getElem?_cons_zero, List.getElem?_cons_succ] at s0 s1 s2 s4 s5 s6
  obtain ⟨c0, c1, c2, c3, c4⟩ := HI.out.one.ca
  go_wp2_with fail
  refine (name_Sound _ d.host _ (HD.out.ext HI.out.one.ext).ho FD.out.1).mono ?_
  rintro e w2 ⟨rfl, hE2⟩
  have HI := Lib.hid (HI.out.step hE2)
  clear hE2 s0 s1 s2 s4 s5 s6 c0 c1 c2 c3 c4
  have s0 := HI.out.cs 0
  have s1 := HI.out.cs 1
  have s2 := HI.out.cs 2
  have s4 := HI.out.cs 4
  have s5 := HI.out.cs 5
  have s6 := HI.out.cs 6
  simp only [List.getElem?_toArray, List.getElem?_cons_zero, List.getElem?_cons_succ] at s0 s1 s2 s4 s5 s6
  obtain ⟨c0, c1, c2, c3, c4⟩ := HI.out.one.ca
  cases q3 : nsound d.host with
  | false =>
    have HE := Lib.hid (show rsoundS ⟨0, true, true, true, 5, 4, false, false⟩ d = false by unfold rsoundS; simp [q3])
    clear q3
    go_wp2
    go_ret
    exact ⟨by rw [HE.out]; rfl, HI.out.one.ext⟩
  | true =>
    have Q3 := Lib.hid q3
    clear q3
    go_wp2_with fail
    refine (name_Sound _ d.mail _ (HD.out.ext HI.out.one.ext).ma FD.out.2).mono ?_
    rintro e w3 ⟨rfl, hE3⟩
    have HI := Lib.hid (HI.out.step hE3)
    clear hE3 s0 s1 s2 s4 s5 s6 c0 c1 c2 c3 c4
    have s0 := HI.out.cs 0
    have s1 := HI.out.cs 1
    have s2 := HI.out.cs 2
    have s4 := HI.out.cs 4
    have s5 := HI.out.cs 5
    have s6 := HI.out.cs 6
    simp only [List.getElem?_toArray, List.getElem?_cons_zero, List.getElem?_cons_succ] at s0 s1 s2 s4 s5 s6
    obtain ⟨c0, c1, c2, c3, c4⟩ := HI.out.one.ca
    cases q4 : nsound d.mail with
    | false =>
      have HE := Lib.hid (show rsoundS ⟨0, true, true, true, 5, 4, false, false⟩ d = false by unfold rsoundS; simp [q4])
      clear q4
      go_wp2
      go_ret
      exact ⟨by rw [HE.out]; rfl, HI.out.one.ext⟩
    | true =>
      have Q4 := Lib.hid q4
      clear q4
      go_wp2_with fail
      refine (containsFunc_I 93 #[.pointer (some ⟨w1.heap.size, 0, none⟩)] (fun _ _ => by kernel_rfl) (fun n => !fits n 4) _ d.nums _ (HD.out.ext HI.out.one.ext).nu (fun x w9 _ hE9 => rdata_Sound1 x 4 w1.heap.size w9 ((HI.out.step hE9).cs 5))).mono ?_
      rintro e w4 ⟨rfl, hE4⟩
      have HI := Lib.hid (HI.out.step hE4)
      clear hE4 s0 s1 s2 s4 s5 s6 c0 c1 c2 c3 c4
      have s0 := HI.out.cs 0
      have s1 := HI.out.cs 1
      have s2 := HI.out.cs 2
      have s4 := HI.out.cs 4
      have s5 := HI.out.cs 5
      have s6 := HI.out.cs 6
      simp only [List.getElem?_toArray, List.getElem?_cons_zero, List.getElem?_cons_succ] at s0 s1 s2 s4 s5 s6
      obtain ⟨c0, c1, c2, c3, c4⟩ := HI.out.one.ca
      cases q5 : d.nums.any (fun n => !fits n 4) with
      | true =>
        have HE := Lib.hid (show rsoundS ⟨0, true, true, true, 5, 4, false, false⟩ d = false by unfold rsoundS; simp only []; rw [show (d.nums.any fun n => !fits n ((4 : Nat) : Int)) = true from q5]; simp)
        clear q5
        go_wp2
        go_ret
        exact ⟨by rw [HE.out]; rfl, HI.out.one.ext⟩
      | false =>
        have Q5 := Lib.hid (show (d.nums.any fun n => !fits n ((4 : Nat) : Int)) = false from q5)
        clear q5
        by_cases p6 : d.texts.length = 0
        · have HE := Lib.hid (show rsoundS ⟨0, true, true, true, 5, 4, false, false⟩ d = true by unfold rsoundS; simp only [decide_eq_true P1.out, Bool.or_true, decide_eq_true p1b, decide_eq_true P2.out, if_true, Q3.out, Q4.out, Q5.out, Bool.true_and, Bool.not_false, if_false, Bool.false_eq_true, decide_eq_true p6])
          have ht6 : ((d.texts.length : Int) == 0) = true := by rw [p6]; rfl
          clear p6
          go_wp2
          go_ret
          exact ⟨by rw [HE.out]; rfl, HI.out.one.ext⟩
        · have HE := Lib.hid (show rsoundS ⟨0, true, true, true, 5, 4, false, false⟩ d = false by unfold rsoundS; simp only [decide_eq_true P1.out, Bool.or_true, decide_eq_true p1b, decide_eq_true P2.out, if_true, Q3.out, Q4.out, Q5.out, Bool.true_and, Bool.not_false, if_false, Bool.false_eq_true, decide_eq_false p6])
          have ht6 : ((d.texts.length : Int) == 0) = false := by rw [beq_eq_false_iff_ne]; omega
          clear p6
          go_wp2
          go_ret
          exact ⟨by rw [HE.out]; rfl, HI.out.one.ext⟩
end Go.Proofs.Ytfnelkcllaaebaa
end
section
/- Contract of rdata.Sound, at every kind. No condition but that slices read as lists, and the strings' sizes. -/
open Go.RowKit
set_option linter.unusedVariables false
namespace Go.Proofs.Ytfnelkcllaaebaa
theorem rdata_Sound (kind : Int) (d : Dat) (v0 v1 v2 v3 v4 : Value) (w : World) (hd : DR w v0 v1 v2 v3 v4 d) (fd : DFit d) (ft : Fits d.texts) :
    Calls Try.prog 31 #[.int .i64 kind, .agg #[v0, v1, v2, v3, v4]] w fun e w' => e = .returned (.bool (rsound kind d)) ∧ Ext w w' := by
  by_cases hk : 1 ≤ kind ∧ kind ≤ 65535
  · obtain ⟨h1, h2⟩ := hk
    have hs : shapeOf kind = shapeOf kind := rfl
    revert hs
    conv => enter [1, 2]; unfold shapeOf
    intro hs
    split at hs
    · exact rsound_bytes 4 (.inl rfl) kind h1 h2 hs d _ _ _ _ _ w hd fd ft
    · split at hs
      · exact rsound_bytes 16 (.inr rfl) kind h1 h2 hs d _ _ _ _ _ w hd fd ft
      · split at hs
        · exact rsound_host true false 0 0 (by omega) (by omega) kind h1 h2 hs d _ _ _ _ _ w hd fd ft
        · split at hs
          · exact rsound_host true true 1 2 (by omega) (by omega) kind h1 h2 hs d _ _ _ _ _ w hd fd ft
          · split at hs
            · exact rsound_soa kind h1 h2 hs d _ _ _ _ _ w hd fd ft
            · split at hs
              · exact rsound_host false true 3 2 (by omega) (by omega) kind h1 h2 hs d _ _ _ _ _ w hd fd ft
              · split at hs
                · exact rsound_texts kind h1 h2 hs d _ _ _ _ _ w hd fd ft
                · exact rsound_rest kind h1 h2 hs d _ _ _ _ _ w hd fd ft
  · exact rsound_bad kind hk d _ _ _ _ _ w hd
end Go.Proofs.Ytfnelkcllaaebaa
end
