/- Columns: whether a cell of a kind, or a missing one, may be: the program. Columns: whether a cell of a kind, or a missing one, may be: the document. -/
import Derived.Test.YtfkgmodgkifelaaGreatDoorJ25
import Derived.Test.YtfkgmodgkifelaaGreatDoorJ26
import Derived.Test.YtfkgmodgkifelaaGreatDoorJ29
namespace Go.Proofs.YtfkgmodgkifelaaGreatDoor
open Go.RowKit

theorem e_eta {a b : CD} (h1 : a.b = b.b) (h2 : a.x = b.x) (h3 : a.u = b.u) (h4 : a.t = b.t) (h5 : a.p = b.p) (h6 : a.q = b.q) : a = b := by
  cases a; cases b; simp_all
theorem Pur.f1 {c : CD} (h : Pur 1 c) : c = ⟨c.b, 0, 0, ByteArray.empty, 0, 0⟩ := e_eta rfl (h.x (by decide)) (h.u (by decide)) (h.t (by decide)) (h.p (by decide)) (h.q (by decide))
theorem Pur.f2 {c : CD} (h : Pur 2 c) : c = ⟨false, c.x, 0, ByteArray.empty, 0, 0⟩ := e_eta (h.b (by decide)) rfl (h.u (by decide)) (h.t (by decide)) (h.p (by decide)) (h.q (by decide))
theorem Pur.f3 {c : CD} (h : Pur 3 c) : c = ⟨false, 0, c.u, ByteArray.empty, 0, 0⟩ := e_eta (h.b (by decide)) (h.x (by decide)) rfl (h.t (by decide)) (h.p (by decide)) (h.q (by decide))
theorem Pur.f4 {c : CD} (h : Pur 4 c) : c = ⟨false, 0, 0, c.t, 0, 0⟩ := e_eta (h.b (by decide)) (h.x (by decide)) (h.u (by decide)) rfl (h.p (by decide)) (h.q (by decide))
theorem Pur.f5 {c : CD} (h : Pur 5 c) : c = ⟨false, 0, 0, c.t, 0, 0⟩ := e_eta (h.b (by decide)) (h.x (by decide)) (h.u (by decide)) rfl (h.p (by decide)) (h.q (by decide))
theorem Pur.f6 {c : CD} (h : Pur 6 c) : c = ⟨false, 0, 0, ByteArray.empty, c.p, c.q⟩ := e_eta (h.b (by decide)) (h.x (by decide)) (h.u (by decide)) (h.t (by decide)) rfl rfl
set_option maxHeartbeats 1000000 in
set_option maxRecDepth 100000 in
theorem noBool_any (b : Bool) (w : World) : Calls Tryz.prog 115 #[clV b 0 0 ByteArray.empty 0 0] w fun e w' => e = .returned (clV false 0 0 ByteArray.empty 0 0) ∧ Below w.heap.size w w' := by
  have hst := fun (w1 : World) (a1 : Addr) (m : Mode) (x y : Nat) => run_store Tryz.prog w1 a1 (.complex .f64 x y) m rfl
  unfold clV clA
  go_enter Tryz.func115, Tryz.ntmps115
  go_wp2_with fail
  exact bodyPost_ret (results_cell_row rfl _ _ (w.heap.size + 1) 45 #[.bool false, .bool false, .int .i64 0, .int .u64 0, .string ByteArray.empty, .complex .f64 0 0] (0, 0) _ rfl (blk_n2 _ _ _ _).out Tryz.underlying45 rfl info_c) rfl ⟨rfl, ((Below.refl _ _).alloc (Nat.le_refl _) _).alloc (by simp) _⟩
set_option maxHeartbeats 1000000 in
set_option maxRecDepth 100000 in
theorem noUint_any (u : Int) (w : World) : Calls Tryz.prog 119 #[clV false 0 u ByteArray.empty 0 0] w fun e w' => e = .returned (clV false 0 0 ByteArray.empty 0 0) ∧ Below w.heap.size w w' := by
  have hst := fun (w1 : World) (a1 : Addr) (m : Mode) (x y : Nat) => run_store Tryz.prog w1 a1 (.complex .f64 x y) m rfl
  unfold clV clA
  go_enter Tryz.func119, Tryz.ntmps119
  go_wp2_with fail
  exact bodyPost_ret (results_cell_row rfl _ _ (w.heap.size + 1) 45 #[.bool false, .bool false, .int .i64 0, .int .u64 0, .string ByteArray.empty, .complex .f64 0 0] (0, 0) _ rfl (blk_n2 _ _ _ _).out Tryz.underlying45 rfl info_c) rfl ⟨rfl, ((Below.refl _ _).alloc (Nat.le_refl _) _).alloc (by simp) _⟩
set_option maxHeartbeats 1000000 in
set_option maxRecDepth 100000 in
theorem noPoint_any (p q : Nat) (w : World) : Calls Tryz.prog 126 #[clV false 0 0 ByteArray.empty p q] w fun e w' => e = .returned (clV false 0 0 ByteArray.empty 0 0) ∧ Below w.heap.size w w' := by
  have hst := fun (w1 : World) (a1 : Addr) (m : Mode) (x y : Nat) => run_store Tryz.prog w1 a1 (.complex .f64 x y) m rfl
  unfold clV clA
  go_enter Tryz.func126, Tryz.ntmps126
  go_wp2_with fail
  exact bodyPost_ret (results_cell_row rfl _ _ (w.heap.size + 1) 45 #[.bool false, .bool false, .int .i64 0, .int .u64 0, .string ByteArray.empty, .complex .f64 0 0] (0, 0) _ rfl (blk_n2 _ _ _ _).out Tryz.underlying45 rfl info_c) rfl ⟨rfl, ((Below.refl _ _).alloc (Nat.le_refl _) _).alloc (by simp) _⟩
set_option maxHeartbeats 1000000 in
set_option maxRecDepth 100000 in
theorem mayText_any (t : ByteArray) (ht : t.size ≤ maxLen) (hv : Lib.validD t.data.toList = true) (w : World) (hT : Tabs w) : Calls Tryz.prog 123 #[clV false 0 0 t 0 0] w fun e w' => e = .returned (.bool true) ∧ Below w.heap.size w w' := by
  have KV := hide (fun o => valid_any t (w.alloc o) ht (hT.below ((Below.refl _ _).alloc (Nat.le_refl _) _)))
  rw [hv] at KV
  clear hv ht hT
  unfold clV clA
  go_enter Tryz.func123, Tryz.ntmps123
  go_wp2_with fail
  refine (KV.out _).mono ?_
  rintro e w1 ⟨rfl, hb1⟩
  have HB := hide (((Below.refl w.heap.size w).alloc (Nat.le_refl _) _).trans (hb1.mono (by simp)))
  clear hb1
  go_wp2_with fail
  go_ret
  exact ⟨rfl, HB.out⟩
set_option maxHeartbeats 1000000 in
set_option maxRecDepth 100000 in
theorem swhole_any (x : Nat) (n : Int) (h : Wh x n) (w : World) :
    Calls Tryz.prog 125 #[.float .f64 x] w fun e w' => e = .returned (.bool true) ∧ w = w' := by
  have h1 := h.ge
  have h2 := h.le
  have h3 := h.fi
  have h4 := fun w => run_convert_float_int (P := Tryz.prog) w 153 2 .f64 .i64 x n (by kernel_rfl) Tryz.underlying2 h.ti
  clear h
  go_enter Tryz.func125, Tryz.ntmps125
  go_wp2_with fail
  go_ret
  exact ⟨rfl, rfl⟩
set_option maxHeartbeats 1000000 in
set_option maxRecDepth 100000 in
theorem mayPoint_any (p q : Nat) (n m : Int) (hp : Wh p n) (hq : Wh q m) (w : World) : Calls Tryz.prog 124 #[clV false 0 0 ByteArray.empty p q] w fun e w' => e = .returned (.bool true) ∧ Below w.heap.size w w' := by
  have K1 := hide (fun w => swhole_any p n hp w)
  have K2 := hide (fun w => swhole_any q m hq w)
  clear hp hq
  unfold clV clA
  go_enter Tryz.func124, Tryz.ntmps124
  go_wp2_with fail
  refine (K1.out _).mono ?_
  rintro e w1 ⟨rfl, rfl⟩
  go_wp2_with fail
  refine (K2.out _).mono ?_
  rintro e w2 ⟨rfl, rfl⟩
  go_wp2_with fail
  go_ret
  exact ⟨rfl, (Below.refl _ _).alloc (Nat.le_refl _) _⟩
/-- How a column is told to a function. -/
def colV (nm : ByteArray) (k : Int) (nl : Bool) : Value := .agg #[.string nm, .int .i64 k, .bool nl]
def MC.v (c : MC) : Value := .agg #[.bool c.1, .bool c.2.b, .int .i64 c.2.x, .int .u64 c.2.u, .string c.2.t, .complex .f64 c.2.p c.2.q]
set_option maxHeartbeats 4000000 in
set_option maxRecDepth 100000 in
theorem may_there (M F : FuncId) (G : Value) (nm : ByteArray) (k : Int) (nu : Bool) (c : CD)
    (hE : ∀ args w, (callFunc M args).run Tryz.prog w = .ok (.enter M args) w)
    (hF : ∀ args w, (callFunc F args).run Tryz.prog w = .ok (.enter F args) w)
    (hM : ∀ w, Tabs w → Calls Tryz.prog M #[c.v] w fun e w' => e = .returned (.bool true) ∧ Below w.heap.size w w')
    (hK : ∀ w, Calls Tryz.prog F #[c.v] w fun e w' => e = .returned (clV false 0 0 ByteArray.empty 0 0) ∧ Below w.heap.size w w') (w : World) (hT : Tabs w) :
    Calls Tryz.prog 78 #[colV nm k nu, .agg #[.func (.func M) #[] #[], .func (.func F) #[] #[], G], MC.v (false, c)] w fun e w' => e = .returned (.bool true) ∧ Below w.heap.size w w' := by
  have KE := hide (fun o1 o2 o3 => hM (((w.alloc o1).alloc o2).alloc o3) (hT.below ((((Below.refl w.heap.size w).alloc (Nat.le_refl _) o1).alloc (by simp) o2).alloc (by simp; omega) o3)))
  have KK := hide hK
  clear hK hM
  unfold colV MC.v
  unfold CD.v clV clA at KE KK
  obtain ⟨cb, cx, cu, ct, cp, cq⟩ := c
  simp only at KE KK ⊢
  have HB := hide (fun o1 o2 o3 => (((Below.refl w.heap.size w).alloc (Nat.le_refl _) o1).alloc (by simp) o2).alloc (by simp; omega) o3)
  go_enter Tryz.func78, Tryz.ntmps78
  go_wp2_with fail
  refine (KE.out _ _ _).mono ?_
  rintro e w1 ⟨rfl, hb1⟩
  have b1 : Blk w1 (w.heap.size + 1) 131 #[.func (.func M) #[] #[], .func (.func F) #[] #[], G] := Blk.below ((blk_n2 w _ _ _).alloc _) hb1 (by simp)
  have b2 : Blk w1 (w.heap.size + 1 + 1) 45 #[.bool false, .bool cb, .int .i64 cx, .int .u64 cu, .string ct, .complex .f64 cp cq] := Blk.below (blk_n3 _ _ _ _ _) hb1 (by simp)
  obtain ⟨c0, c1, c2, c3, c4, c5, f0, f1, f2, f3, f4, f5⟩ := Blk.six b2
  have d1 := b1.cell 1
  simp at d1
  have HB1 := hide ((HB.out _ _ _).trans (hb1.mono (by simp; omega)))
  clear b1 b2 hb1
  go_wp2_with fail
  refine (KK.out _).mono ?_
  rintro e w2 ⟨rfl, hb2⟩
  have HB2 := hide (HB1.out.trans (hb2.mono HB1.out.size))
  clear hb2
  have hq : ∀ w, (binOp .eql 45 (.agg #[.bool false, .bool false, .int .i64 0, .int .u64 0, .string ByteArray.empty, .complex .f64 0 0]) (.agg #[.bool false, .bool false, .int .i64 0, .int .u64 0, .string { data := #[] }, .complex .f64 0 0])).run Tryz.prog w = .ok (.bool true) w := fun _ => by kernel_rfl
  go_wp2_with fail
  go_ret
  exact ⟨rfl, HB2.out⟩
set_option maxHeartbeats 4000000 in
set_option maxRecDepth 100000 in
theorem may_gone (K0 : Value) (hK0 : ∃ a b c, K0 = .agg #[a, b, c]) (nm : ByteArray) (k : Int) (w : World) :
    Calls Tryz.prog 78 #[colV nm k true, K0, MC.v (true, CD.z)] w fun e w' => e = .returned (.bool true) ∧ Below w.heap.size w w' := by
  obtain ⟨M, F, G, rfl⟩ := hK0
  unfold colV MC.v CD.z
  simp only
  have HB := hide (fun o1 o2 o3 => (((Below.refl w.heap.size w).alloc (Nat.le_refl _) o1).alloc (by simp) o2).alloc (by simp; omega) o3)
  have hq : ∀ w, (binOp .eql 45 (.agg #[.bool false, .bool false, .int .i64 0, .int .u64 0, .string ByteArray.empty, .complex .f64 0 0]) (.agg #[.bool false, .bool false, .int .i64 0, .int .u64 0, .string { data := #[] }, .complex .f64 0 0])).run Tryz.prog w = .ok (.bool true) w := fun _ => by kernel_rfl
  go_enter Tryz.func78, Tryz.ntmps78
  go_wp2_with fail
  go_ret
  exact ⟨rfl, HB.out _ _ _⟩
/-- A cell that may be of a column. -/
def okM (nl : Bool) (k : Int) (c : MC) : Prop := if c.1 = true then nl = true ∧ c.2 = CD.z else Pur k c.2
/-- The three functions of a kind. -/
def kM (k : Int) : FuncId := if k = 5 then 123 else if k = 6 then 124 else 114
def kF (k : Int) : FuncId := if k = 1 then 115 else if k = 2 then 117 else if k = 3 then 119 else if k = 6 then 126 else 121
def kG (k : Int) : FuncId := if k = 1 then 116 else if k = 2 then 118 else if k = 3 then 120 else if k = 6 then 127 else 122
def kV (k : Int) : Value := .agg #[.func (.func (kM k)) #[] #[], .func (.func (kF k)) #[] #[], .func (.func (kG k)) #[] #[]]
set_option maxRecDepth 100000 in
theorem ka_k (kn : Nat) (h1 : 1 ≤ kn) (h6 : kn ≤ 6) : ka[kn * 3]? = some (.func (.func (kM kn)) #[] #[]) ∧ ka[kn * 3 + 1]? = some (.func (.func (kF kn)) #[] #[]) ∧ ka[kn * 3 + 2]? = some (.func (.func (kG kn)) #[] #[]) := by
  have hk : kn = 1 ∨ kn = 2 ∨ kn = 3 ∨ kn = 4 ∨ kn = 5 ∨ kn = 6 := by omega
  rcases hk with rfl | rfl | rfl | rfl | rfl | rfl
  all_goals exact ⟨rfl, rfl, rfl⟩
set_option maxRecDepth 100000 in
theorem en_every : ∀ args w, (callFunc 114 args).run Tryz.prog w = .ok (.enter 114 args) w := enters_of Tryz.func114 (by kernel_rfl) rfl
set_option maxRecDepth 100000 in
theorem en_k1 : ∀ args w, (callFunc 115 args).run Tryz.prog w = .ok (.enter 115 args) w := enters_of Tryz.func115 (by kernel_rfl) rfl
set_option maxRecDepth 100000 in
theorem en_k3 : ∀ args w, (callFunc 117 args).run Tryz.prog w = .ok (.enter 117 args) w := enters_of Tryz.func117 (by kernel_rfl) rfl
set_option maxRecDepth 100000 in
theorem en_k5 : ∀ args w, (callFunc 119 args).run Tryz.prog w = .ok (.enter 119 args) w := enters_of Tryz.func119 (by kernel_rfl) rfl
set_option maxRecDepth 100000 in
theorem en_k7 : ∀ args w, (callFunc 123 args).run Tryz.prog w = .ok (.enter 123 args) w := enters_of Tryz.func123 (by kernel_rfl) rfl
set_option maxRecDepth 100000 in
theorem en_k8 : ∀ args w, (callFunc 124 args).run Tryz.prog w = .ok (.enter 124 args) w := enters_of Tryz.func124 (by kernel_rfl) rfl
set_option maxRecDepth 100000 in
theorem en_k9 : ∀ args w, (callFunc 126 args).run Tryz.prog w = .ok (.enter 126 args) w := enters_of Tryz.func126 (by kernel_rfl) rfl
set_option maxRecDepth 100000 in
theorem en_noText : ∀ args w, (callFunc 121 args).run Tryz.prog w = .ok (.enter 121 args) w := enters_of Tryz.func121 (by kernel_rfl) rfl
theorem kV_1 : kV 1 = .agg #[.func (.func 114) #[] #[], .func (.func 115) #[] #[], .func (.func 116) #[] #[]] := by unfold kV kM kF kG; simp
theorem kV_2 : kV 2 = .agg #[.func (.func 114) #[] #[], .func (.func 117) #[] #[], .func (.func 118) #[] #[]] := by unfold kV kM kF kG; simp
theorem kV_3 : kV 3 = .agg #[.func (.func 114) #[] #[], .func (.func 119) #[] #[], .func (.func 120) #[] #[]] := by unfold kV kM kF kG; simp
theorem kV_4 : kV 4 = .agg #[.func (.func 114) #[] #[], .func (.func 121) #[] #[], .func (.func 122) #[] #[]] := by unfold kV kM kF kG; simp
theorem kV_5 : kV 5 = .agg #[.func (.func 123) #[] #[], .func (.func 121) #[] #[], .func (.func 122) #[] #[]] := by unfold kV kM kF kG; simp
theorem kV_6 : kV 6 = .agg #[.func (.func 124) #[] #[], .func (.func 126) #[] #[], .func (.func 127) #[] #[]] := by unfold kV kM kF kG; simp
set_option maxHeartbeats 2000000 in
set_option maxRecDepth 100000 in
theorem may_ok (nm : ByteArray) (k : Int) (h1 : 1 ≤ k) (h6 : k ≤ 6) (nl : Bool) (c : MC) (hc : okM nl k c) (w : World) (hT : Tabs w) :
    Calls Tryz.prog 78 #[colV nm k nl, kV k, c.v] w fun e w' => e = .returned (.bool true) ∧ Below w.heap.size w w' := by
  obtain ⟨n, c⟩ := c
  cases n
  · have hp : Pur k c := hc
    have hk : k = 1 ∨ k = 2 ∨ k = 3 ∨ k = 4 ∨ k = 5 ∨ k = 6 := by omega
    have ev : ∀ c : CD, ∀ w, Tabs w → Calls Tryz.prog 114 #[c.v] w fun e w' => e = .returned (.bool true) ∧ Below w.heap.size w w' := fun c w _ => every_any c.v ⟨_, _, _, _, _, _, rfl⟩ w
    rcases hk with rfl | rfl | rfl | rfl | rfl | rfl
    · rw [hp.f1, kV_1]
      exact may_there 114 115 _ nm 1 nl ⟨c.b, 0, 0, ByteArray.empty, 0, 0⟩ en_every en_k1 (ev ⟨c.b, 0, 0, ByteArray.empty, 0, 0⟩) (noBool_any c.b) w hT
    · rw [hp.f2, kV_2]
      exact may_there 114 117 _ nm 2 nl ⟨false, c.x, 0, ByteArray.empty, 0, 0⟩ en_every en_k3 (ev ⟨false, c.x, 0, ByteArray.empty, 0, 0⟩) (noInt_any c.x ByteArray.empty) w hT
    · rw [hp.f3, kV_3]
      exact may_there 114 119 _ nm 3 nl ⟨false, 0, c.u, ByteArray.empty, 0, 0⟩ en_every en_k5 (ev ⟨false, 0, c.u, ByteArray.empty, 0, 0⟩) (noUint_any c.u) w hT
    · rw [hp.f4, kV_4]
      exact may_there 114 121 _ nm 4 nl ⟨false, 0, 0, c.t, 0, 0⟩ en_every en_noText (ev ⟨false, 0, 0, c.t, 0, 0⟩) (noText_any 0 c.t) w hT
    · rw [hp.f5, kV_5]
      exact may_there 123 121 _ nm 5 nl ⟨false, 0, 0, c.t, 0, 0⟩ en_k7 en_noText (fun w h => mayText_any c.t hp.kg.t1 (hp.v rfl) w h) (noText_any 0 c.t) w hT
    · rw [hp.f6, kV_6]
      exact may_there 124 126 _ nm 6 nl ⟨false, 0, 0, ByteArray.empty, c.p, c.q⟩ en_k8 en_k9 (fun w _ => mayPoint_any c.p c.q _ _ hp.kg.pw hp.kg.qw w) (noPoint_any c.p c.q) w hT
  · obtain ⟨rfl, rfl⟩ : nl = true ∧ c = CD.z := hc
    exact may_gone (kV k) ⟨_, _, _, rfl⟩ nm k w
end Go.Proofs.YtfkgmodgkifelaaGreatDoor
namespace Go.Proofs.YtfkgmodgkifelaaGreatDoor
open Go.RowKit

set_option maxHeartbeats 1000000 in
set_option maxRecDepth 100000 in
theorem s6whole_any (x : Nat) (n : Int) (h : Wh x n) (w : World) :
    Calls Tryz.prog 113 #[.float .f64 x] w fun e w' => e = .returned (.bool true) ∧ w = w' := by
  have h1 := h.ge
  have h2 := h.le
  have h3 := h.fi
  have h4 := fun w => run_convert_float_int (P := Tryz.prog) w 153 2 .f64 .i64 x n (by kernel_rfl) Tryz.underlying2 h.ti
  clear h
  go_enter Tryz.func113, Tryz.ntmps113
  go_wp2_with fail
  go_ret
  exact ⟨rfl, rfl⟩
set_option maxHeartbeats 2000000 in
set_option maxRecDepth 100000 in
theorem scell_1 (nm : ByteArray) (nl : Bool) (b : Bool) (w : World) :
    Calls Tryz.prog 76 #[colV nm 1 nl, MC.v (false, ⟨b, 0, 0, ByteArray.empty, 0, 0⟩)] w fun e w' => e = .returned (.bool true) ∧ Below w.heap.size w w' := by
  unfold colV MC.v
  simp only
  have HB := hide (fun o1 o2 => ((Below.refl w.heap.size w).alloc (Nat.le_refl _) o1).alloc (by simp) o2)
  go_enter Tryz.func76, Tryz.ntmps76
  go_wp2_with fail
  go_ret
  exact ⟨rfl, HB.out _ _⟩
set_option maxHeartbeats 2000000 in
set_option maxRecDepth 100000 in
theorem scell_2 (nm : ByteArray) (nl : Bool) (x : Int) (w : World) :
    Calls Tryz.prog 76 #[colV nm 2 nl, MC.v (false, ⟨false, x, 0, ByteArray.empty, 0, 0⟩)] w fun e w' => e = .returned (.bool true) ∧ Below w.heap.size w w' := by
  unfold colV MC.v
  simp only
  have HB := hide (fun o1 o2 => ((Below.refl w.heap.size w).alloc (Nat.le_refl _) o1).alloc (by simp) o2)
  go_enter Tryz.func76, Tryz.ntmps76
  go_wp2_with fail
  go_ret
  exact ⟨rfl, HB.out _ _⟩
set_option maxHeartbeats 2000000 in
set_option maxRecDepth 100000 in
theorem scell_3 (nm : ByteArray) (nl : Bool) (u : Int) (w : World) :
    Calls Tryz.prog 76 #[colV nm 3 nl, MC.v (false, ⟨false, 0, u, ByteArray.empty, 0, 0⟩)] w fun e w' => e = .returned (.bool true) ∧ Below w.heap.size w w' := by
  unfold colV MC.v
  simp only
  have HB := hide (fun o1 o2 => ((Below.refl w.heap.size w).alloc (Nat.le_refl _) o1).alloc (by simp) o2)
  go_enter Tryz.func76, Tryz.ntmps76
  go_wp2_with fail
  go_ret
  exact ⟨rfl, HB.out _ _⟩
set_option maxHeartbeats 2000000 in
set_option maxRecDepth 100000 in
theorem scell_4 (nm : ByteArray) (nl : Bool) (t : ByteArray) (w : World) :
    Calls Tryz.prog 76 #[colV nm 4 nl, MC.v (false, ⟨false, 0, 0, t, 0, 0⟩)] w fun e w' => e = .returned (.bool true) ∧ Below w.heap.size w w' := by
  unfold colV MC.v
  simp only
  have HB := hide (fun o1 o2 => ((Below.refl w.heap.size w).alloc (Nat.le_refl _) o1).alloc (by simp) o2)
  go_enter Tryz.func76, Tryz.ntmps76
  go_wp2_with fail
  go_ret
  exact ⟨rfl, HB.out _ _⟩
set_option maxHeartbeats 2000000 in
set_option maxRecDepth 100000 in
theorem scell_5 (nm : ByteArray) (nl : Bool) (t : ByteArray) (ht : t.size ≤ maxLen) (hv : Lib.validD t.data.toList = true) (w : World) (hT : Tabs w) :
    Calls Tryz.prog 76 #[colV nm 5 nl, MC.v (false, ⟨false, 0, 0, t, 0, 0⟩)] w fun e w' => e = .returned (.bool true) ∧ Below w.heap.size w w' := by
  have KV := hide (fun o o' => valid_any t ((w.alloc o).alloc o') ht (hT.below (((Below.refl w.heap.size w).alloc (Nat.le_refl _) o).alloc (by simp) o')))
  rw [hv] at KV
  unfold colV MC.v
  simp only
  have HB := hide (fun o1 o2 => ((Below.refl w.heap.size w).alloc (Nat.le_refl _) o1).alloc (by simp) o2)
  clear hv ht hT
  go_enter Tryz.func76, Tryz.ntmps76
  go_wp2_with fail
  refine (KV.out _ _).mono ?_
  rintro e w1 ⟨rfl, hb1⟩
  have b1 : Blk w1 w.heap.size 23 #[.string nm, .int .i64 5, .bool nl] := Blk.below ((Blk.new w _ _).alloc _) hb1 (by simp; omega)
  have b2 : Blk w1 (w.heap.size + 1) 45 #[.bool false, .bool false, .int .i64 0, .int .u64 0, .string t, .complex .f64 0 0] := Blk.below (blk_n2 _ _ _ _) hb1 (by simp)
  obtain ⟨c0, c1, c2, c3, c4, c5, f0, f1, f2, f3, f4, f5⟩ := Blk.six b2
  have d1 := b1.cell 1
  have d2 := b1.cell 2
  simp at d1 d2
  have HB1 := hide ((HB.out _ _).trans (hb1.mono (by simp; omega)))
  clear b1 b2 hb1
  go_wp2_with fail
  go_ret
  exact ⟨rfl, HB1.out⟩
set_option maxHeartbeats 2000000 in
set_option maxRecDepth 100000 in
theorem scell_6 (nm : ByteArray) (nl : Bool) (p q : Nat) (n m : Int) (hp : Wh p n) (hq : Wh q m) (w : World) :
    Calls Tryz.prog 76 #[colV nm 6 nl, MC.v (false, ⟨false, 0, 0, ByteArray.empty, p, q⟩)] w fun e w' => e = .returned (.bool true) ∧ Below w.heap.size w w' := by
  have K1 := hide (fun w => s6whole_any p n hp w)
  have K2 := hide (fun w => s6whole_any q m hq w)
  unfold colV MC.v
  simp only
  have HB := hide (fun o1 o2 => ((Below.refl w.heap.size w).alloc (Nat.le_refl _) o1).alloc (by simp) o2)
  clear hp hq
  go_enter Tryz.func76, Tryz.ntmps76
  go_wp2_with fail
  refine (K1.out _).mono ?_
  rintro e w1 ⟨rfl, rfl⟩
  go_wp2_with fail
  refine (K2.out _).mono ?_
  rintro e w2 ⟨rfl, rfl⟩
  go_wp2_with fail
  go_ret
  exact ⟨rfl, HB.out _ _⟩
set_option maxHeartbeats 2000000 in
set_option maxRecDepth 100000 in
theorem scell_z (nm : ByteArray) (k : Int) (h1 : 1 ≤ k) (h6 : k ≤ 6) (w : World) (hT : Tabs w) :
    Calls Tryz.prog 76 #[colV nm k true, MC.v (true, CD.z)] w fun e w' => e = .returned (.bool true) ∧ Below w.heap.size w w' := by
  have KV := hide (fun o o' => valid_any ByteArray.empty ((w.alloc o).alloc o') e_sz (hT.below (((Below.refl w.heap.size w).alloc (Nat.le_refl _) o).alloc (by simp) o')))
  rw [show Lib.validD (ByteArray.empty).data.toList = true by kernel_rfl] at KV
  have K1 := hide (fun w => s6whole_any 0 0 wh0 w)
  unfold colV MC.v CD.z
  simp only
  have HB := hide (fun o1 o2 => ((Below.refl w.heap.size w).alloc (Nat.le_refl _) o1).alloc (by simp) o2)
  clear hT
  by_cases h5 : k = 5
  · subst h5
    go_enter Tryz.func76, Tryz.ntmps76
    go_wp2_with fail
    refine (KV.out _ _).mono ?_
    rintro e w1 ⟨rfl, hb1⟩
    have b1 : Blk w1 w.heap.size 23 #[.string nm, .int .i64 5, .bool true] := Blk.below ((Blk.new w _ _).alloc _) hb1 (by simp; omega)
    have b2 : Blk w1 (w.heap.size + 1) 45 #[.bool true, .bool false, .int .i64 0, .int .u64 0, .string ByteArray.empty, .complex .f64 0 0] := Blk.below (blk_n2 _ _ _ _) hb1 (by simp)
    obtain ⟨c0, c1, c2, c3, c4, c5, f0, f1, f2, f3, f4, f5⟩ := Blk.six b2
    have d1 := b1.cell 1
    have d2 := b1.cell 2
    simp at d1 d2
    have HB1 := hide ((HB.out _ _).trans (hb1.mono (by simp; omega)))
    clear b1 b2 hb1
    go_wp2_with fail
    go_ret
    exact ⟨rfl, HB1.out⟩
  · by_cases h66 : k = 6
    · subst h66
      go_enter Tryz.func76, Tryz.ntmps76
      go_wp2_with fail
      refine (K1.out _).mono ?_
      rintro e w1 ⟨rfl, rfl⟩
      go_wp2_with fail
      refine (K1.out _).mono ?_
      rintro e w2 ⟨rfl, rfl⟩
      go_wp2_with fail
      go_ret
      exact ⟨rfl, HB.out _ _⟩
    · have hk : k = 1 ∨ k = 2 ∨ k = 3 ∨ k = 4 := by omega
      clear h5 h66 h1 h6
      rcases hk with rfl | rfl | rfl | rfl
      all_goals
        go_enter Tryz.func76, Tryz.ntmps76
        go_wp2_with fail
        go_ret
        exact ⟨rfl, HB.out _ _⟩
theorem scell_ok (nm : ByteArray) (k : Int) (h1 : 1 ≤ k) (h6 : k ≤ 6) (nl : Bool) (c : MC) (hc : okM nl k c) (w : World) (hT : Tabs w) :
    Calls Tryz.prog 76 #[colV nm k nl, c.v] w fun e w' => e = .returned (.bool true) ∧ Below w.heap.size w w' := by
  obtain ⟨n, c⟩ := c
  cases n
  · have hp : Pur k c := hc
    have hk : k = 1 ∨ k = 2 ∨ k = 3 ∨ k = 4 ∨ k = 5 ∨ k = 6 := by omega
    rcases hk with rfl | rfl | rfl | rfl | rfl | rfl
    · rw [hp.f1]; exact scell_1 nm nl _ w
    · rw [hp.f2]; exact scell_2 nm nl _ w
    · rw [hp.f3]; exact scell_3 nm nl _ w
    · rw [hp.f4]; exact scell_4 nm nl _ w
    · rw [hp.f5]; exact scell_5 nm nl _ hp.kg.t1 (hp.v rfl) w hT
    · rw [hp.f6]; exact scell_6 nm nl _ _ _ _ hp.kg.pw hp.kg.qw w
  · obtain ⟨rfl, rfl⟩ : nl = true ∧ c = CD.z := hc
    exact scell_z nm k h1 h6 w hT
end Go.Proofs.YtfkgmodgkifelaaGreatDoor
