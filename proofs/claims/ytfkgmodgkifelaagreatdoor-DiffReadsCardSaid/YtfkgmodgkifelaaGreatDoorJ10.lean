/- The chapter's examples (layer 8): three cells, told as bytes. The walk of the law PlainGets. Rows of one's own. Cells one behind the other, read: the plain function, and plain.Decode's loop. -/
import Derived.Test.YtfkgmodgkifelaaGreatDoorJ09
import Derived.RegionTactic
import Derived.Test.YtfkgmodgkifelaaGreatDoorJ08
import Derived.Test.YtfkgmodgkifelaaGreatDoorJ01
import Derived.Maps.AppendAt
import Derived.Deep.AppendLies
namespace Go.Proofs.YtfkgmodgkifelaaGreatDoor
open Go.RowKit

theorem whm2 : Wh 13835058055282163712 (-2) := ⟨by kernel_rfl, by kernel_rfl, by kernel_rfl, by kernel_rfl, by kernel_rfl, by kernel_rfl, by kernel_rfl⟩
set_option maxHeartbeats 1000000 in
set_option maxRecDepth 100000 in
theorem pput_int (W B : Nat) (sv : Value) (l : List Nat) (x : Nat) (hx : x < 9223372036854775808) (c : CD) (hc : c.x = x) (w : World) (h : Wr w W B sv l) (hl : l.length ≤ 1000) (hB : B ≤ w.heap.size) :
    Calls Tryz.prog 74 #[.pointer (some ⟨W, 0, none⟩), .int .i64 2, c.v] w (WPost W B w sv (l ++ fixN x 8)) := by
  have K := hide (fun (o : Obj) => wu64_any W B sv l x (by omega) (w.alloc o) (h.below ((Below.refl _ _).alloc (Nat.le_refl _) _)) (by omega) (by simp; omega))
  have HB := hide hB
  clear hB hl h
  obtain ⟨cb, cx, cu, ct, cp, cq⟩ := c
  obtain rfl : cx = (x : Int) := hc
  unfold CD.v clV clA
  go_enter Tryz.func74, Tryz.ntmps74
  go_wp2_with fail
  refine (K.out _).mono ?_
  rintro e w1 ⟨rfl, sv1, hw1, hs1⟩
  have HW1 := hide hw1
  have HS1 := hide (WS.ahead ((Below.refl w.heap.size w).alloc (Nat.le_refl _) _) hs1)
  clear hw1 hs1
  go_wp2_with fail
  go_end0
  exact ⟨rfl, sv1, HW1.out, HS1.out⟩
set_option maxHeartbeats 1000000 in
set_option maxRecDepth 100000 in
theorem pput_text (W B : Nat) (sv : Value) (l : List Nat) (c : CD) (hs : c.t.size ≤ 1000) (w : World) (h : Wr w W B sv l) (hl : l.length ≤ 1000) (hB : B ≤ w.heap.size) :
    Calls Tryz.prog 74 #[.pointer (some ⟨W, 0, none⟩), .int .i64 5, c.v] w (WPost W B w sv (l ++ (uvar c.t.size ++ bn c.t))) := by
  have K := hide (fun (o : Obj) => wtext_any W B sv l c.t (by omega) (w.alloc o) (h.below ((Below.refl _ _).alloc (Nat.le_refl _) _)) (by omega) (by simp; omega))
  have HB := hide hB
  clear hB hl h hs
  obtain ⟨cb, cx, cu, ct, cp, cq⟩ := c
  unfold CD.v clV clA
  simp only at K ⊢
  go_enter Tryz.func74, Tryz.ntmps74
  go_wp2_with fail
  refine (K.out _).mono ?_
  rintro e w1 ⟨rfl, sv1, hw1, hs1⟩
  have HW1 := hide hw1
  have HS1 := hide (WS.ahead ((Below.refl w.heap.size w).alloc (Nat.le_refl _) _) hs1)
  clear hw1 hs1
  go_wp2_with fail
  go_end0
  exact ⟨rfl, sv1, HW1.out, HS1.out⟩
theorem atC_blk {w : World} {g : Nat} {t : TypeId} {c : CD} (h : Blk w g t (clA c.b c.x c.u c.t c.p c.q)) : AtC w g (0 * 6) c.b c.x c.u c.t c.p c.q :=
  ⟨h.cell 0, h.cell 1, h.cell 2, h.cell 3, h.cell 4, h.cell 5⟩
theorem enc_one (kind : Int) (hk : ((kind : Int) == 1) = false) (c : CD) (l : List Nat)
    (hr : ∀ (w : World) (W B : Nat) (sv : Value), Wr w W B sv [] → B ≤ w.heap.size → Calls Tryz.prog 74 #[.pointer (some ⟨W, 0, none⟩), .int .i64 kind, c.v] w (WPost W B w sv l))
    (w : World) (g : Nat) (t : TypeId) (h : Blk w g t (clA c.b c.x c.u c.t c.p c.q)) :
    Calls Tryz.prog 87 #[.int .i64 kind, .slice (some ⟨g, 0, none⟩) 1 1] w fun e w' => e = .returned (.string (strN l)) ∧ Below w.heap.size w w' :=
  pencode_any kind hk 1 (by omega) (by omega) (fun _ => c) (fun i => if i = 0 then [] else l) rfl (fun i hi => by
    obtain rfl : i = 0 := by omega
    exact hr) g 1 w (fun i hi => by
    obtain rfl : i = 0 := by omega
    exact atC_blk h)
theorem bl1 : strN [1, 0, 0, 0, 0, 0, 0, 0] = ⟨#[1, 0, 0, 0, 0, 0, 0, 0]⟩ := strN_bn ⟨#[1, 0, 0, 0, 0, 0, 0, 0]⟩
theorem bl23 : strN [2, 3] = ⟨#[2, 3]⟩ := strN_bn ⟨#[2, 3]⟩
theorem bl2e : strN [2, 195, 169] = ⟨#[2, 195, 169]⟩ := strN_bn ⟨#[2, 195, 169]⟩
theorem uvp2 : uvar (zz 1) ++ uvar (zz (-2)) = [2, 3] := by
  rw [show zz 1 = 2 by decide, show zz (-2) = 3 by decide, uvar_small (by omega), uvar_small (by omega)]; rfl
theorem uvte : uvar 2 ++ bn ⟨#[195, 169]⟩ = [2, 195, 169] := by
  rw [uvar_small (by omega)]; rfl
theorem pe_int (w : World) (g : Nat) (t : TypeId) (h : Blk w g t (clA false 1 0 ByteArray.empty 0 0)) :
    Calls Tryz.prog 87 #[.int .i64 2, .slice (some ⟨g, 0, none⟩) 1 1] w fun e w' => e = .returned (.string ⟨#[1, 0, 0, 0, 0, 0, 0, 0]⟩) ∧ Below w.heap.size w w' := by
  rw [← bl1]
  exact enc_one 2 (by decide) ⟨false, 1, 0, ByteArray.empty, 0, 0⟩ _ (fun w W B sv hw hB => pput_int W B sv [] 1 (by omega) _ rfl w hw (by simp) hB) w g t h
theorem pe_point (w : World) (g : Nat) (t : TypeId) (h : Blk w g t (clA false 0 0 ByteArray.empty 4607182418800017408 13835058055282163712)) :
    Calls Tryz.prog 87 #[.int .i64 6, .slice (some ⟨g, 0, none⟩) 1 1] w fun e w' => e = .returned (.string ⟨#[2, 3]⟩) ∧ Below w.heap.size w w' := by
  rw [← bl23, ← uvp2]
  exact enc_one 6 (by decide) ⟨false, 0, 0, ByteArray.empty, 4607182418800017408, 13835058055282163712⟩ _ (fun w W B sv hw hB => pput_any W B sv [] 4607182418800017408 13835058055282163712 1 (-2) wh1 whm2 (by omega) (by omega) w hw (by simp) hB) w g t h
theorem pe_text (w : World) (g : Nat) (t : TypeId) (h : Blk w g t (clA false 0 0 ⟨#[195, 169]⟩ 0 0)) :
    Calls Tryz.prog 87 #[.int .i64 5, .slice (some ⟨g, 0, none⟩) 1 1] w fun e w' => e = .returned (.string ⟨#[2, 195, 169]⟩) ∧ Below w.heap.size w w' := by
  rw [← bl2e, ← uvte]
  exact enc_one 5 (by decide) ⟨false, 0, 0, ⟨#[195, 169]⟩, 0, 0⟩ _ (fun w W B sv hw hB => pput_text W B sv [] ⟨false, 0, 0, ⟨#[195, 169]⟩, 0, 0⟩ (by decide) w hw (by simp) hB) w g t h
end Go.Proofs.YtfkgmodgkifelaaGreatDoor
namespace Go.Proofs.YtfkgmodgkifelaaGreatDoor
open Go.RowKit

def NewRd (w : World) (s : ByteArray) (e : Ending) (w' : World) : Prop := ∃ R, e = .returned (.pointer (some ⟨R, 0, none⟩)) ∧ Rd w' R s 0 0 ∧ w.heap.size ≤ R ∧ Below w.heap.size w w'
theorem rd_new (s : ByteArray) (w : World) : Calls Tryz.prog 25 #[.string s] w (NewRd w s) := by
  go_enter Tryz.func25, Tryz.ntmps25
  go_wp2_with fail
  go_ret
  exact ⟨w.heap.size, rfl, Blk.new _ _ _, Nat.le_refl _, (Below.refl _ _).alloc (Nat.le_refl _) _⟩
set_option maxHeartbeats 2000000 in
set_option maxRecDepth 100000 in
theorem gget_nil (k : Int) (w : World) : Calls Tryz.prog 109 #[.pointer none, .int .i64 k] w fun e w' => e = .returned (.tuple #[clZ, .int .i64 2]) ∧ Below w.heap.size w w' := by
  have hst := fun (w1 : World) (a1 : Addr) (m : Mode) (x y : Nat) => run_store Tryz.prog w1 a1 (.complex .f64 x y) m rfl
  go_enter Tryz.func109, Tryz.ntmps109
  go_wp2_with fail
  refine bodyPost_ret (results_cell_tmp_row' rfl _ _ _ w.heap.size 45 #[.bool false, .bool false, .int .i64 0, .int .u64 0, .string { data := #[] }, .complex .f64 0 0] (0, 0) rfl (blk_new1 _ _ _) Tryz.underlying45 (by exact info_c)) rfl ?_
  exact ⟨rfl, (Below.refl _ _).alloc (Nat.le_refl _) _⟩
set_option maxHeartbeats 2000000 in
set_option maxRecDepth 100000 in
theorem gget_kind (k : Int) (hk : k < 1 ∨ 6 < k) (R : Nat) (w : World) : Calls Tryz.prog 109 #[.pointer (some ⟨R, 0, none⟩), .int .i64 k] w fun e w' => e = .returned (.tuple #[clZ, .int .i64 14]) ∧ Below w.heap.size w w' := by
  have KI := hide (is_no k hk)
  clear hk
  have hst := fun (w1 : World) (a1 : Addr) (m : Mode) (x y : Nat) => run_store Tryz.prog w1 a1 (.complex .f64 x y) m rfl
  go_enter Tryz.func109, Tryz.ntmps109
  go_wp2_with fail
  refine (KI.out _).mono ?_
  rintro e w0 ⟨rfl, rfl⟩
  go_wp2_with fail
  refine bodyPost_ret (results_cell_tmp_row' rfl _ _ _ w.heap.size 45 #[.bool false, .bool false, .int .i64 0, .int .u64 0, .string { data := #[] }, .complex .f64 0 0] (0, 0) rfl (blk_new1 _ _ _) Tryz.underlying45 (by exact info_c)) rfl ?_
  exact ⟨rfl, (Below.refl _ _).alloc (Nat.le_refl _) _⟩
set_option maxHeartbeats 1000000 in
set_option maxRecDepth 100000 in
theorem skind_any (k : Int) (b : Bool) (hb : Hid (b = decide (1 ≤ k ∧ k ≤ 6))) (w : World) : Calls Tryz.prog 96 #[.int .i64 k] w fun e w' => e = .returned (.bool b) ∧ w = w' := by
  by_cases h1 : 1 ≤ k
  · by_cases h6 : k ≤ 6
    · obtain rfl : b = true := by rw [hb.out]; simp [h1, h6]
      clear hb
      go_enter Tryz.func96, Tryz.ntmps96
      go_wp2_with fail
      go_ret
      exact ⟨rfl, rfl⟩
    · obtain rfl : b = false := by rw [hb.out]; simp [h6]
      clear hb
      have h6' : decide (k ≤ 6) = false := by simpa using h6
      go_enter Tryz.func96, Tryz.ntmps96
      go_wp2_with fail
      go_ret
      exact ⟨rfl, rfl⟩
  · obtain rfl : b = false := by rw [hb.out]; simp [h1]
    clear hb
    have h1' : decide (1 ≤ k) = false := by simpa using h1
    go_enter Tryz.func96, Tryz.ntmps96
    go_wp2_with fail
    go_ret
    exact ⟨rfl, rfl⟩
/-- One cell against itself. -/
theorem cells_one (c : CD) (hc : c.num) (w : World) (g1 g2 : Nat) (t1 t2 : TypeId) (h1 : Blk w g1 t1 (clA c.b c.x c.u c.t c.p c.q)) (h2 : Blk w g2 t2 (clA c.b c.x c.u c.t c.p c.q)) :
    Calls Tryz.prog 8 #[.slice (some ⟨g1, 0, none⟩) 1 1, .slice (some ⟨g2, 0, none⟩) 1 1] w fun e w' => e = .returned (.bool true) ∧ ∃ m, w' = w.drewN m :=
  cells_same 1 (by omega) g1 g2 1 1 (fun _ => c.b) (fun _ => c.x) (fun _ => c.u) (fun _ => c.t) (fun _ => c.p) (fun _ => c.q) w
    (fun i hi => by obtain rfl : i = 0 := by omega
                    exact atC_blk h1) (fun i hi => by obtain rfl : i = 0 := by omega
                                                      exact atC_blk h2) (fun i _ => hc)
theorem blk_s1 (w : World) (a d : Obj) (cs : Array Value) (t : TypeId) : Blk (((w.alloc a).alloc (.cells cs t)).alloc d) (w.heap.size + 1) t cs := by
  have := (Blk.new (w.alloc a) cs t).alloc d
  rwa [show (w.alloc a).heap.size = w.heap.size + 1 by simp] at this
theorem blk_s2 (w : World) (a d : Obj) (cs : Array Value) (t : TypeId) : Blk (((w.alloc a).alloc d).alloc (.cells cs t)) (w.heap.size + 1 + 1) t cs := by
  have := Blk.new ((w.alloc a).alloc d) cs t
  rwa [show ((w.alloc a).alloc d).heap.size = w.heap.size + 1 + 1 by simp] at this
end Go.Proofs.YtfkgmodgkifelaaGreatDoor
namespace Go.Proofs.YtfkgmodgkifelaaGreatDoor
open Go.RowKit
section
variable {w w' : World} {B B2 n n2 sz sz2 : Nat} {e e2 : TypeId} {v v2 : Value} {xs xs2 : List Value}
/-- Rows of one's own of any element type. -/
theorem own_ne_blk (h : w.ownsRow B e sz v n xs) {b : Nat} {t : TypeId} {cs : Array Value} (hb : Blk w b t cs) (ht : t ≠ e) : v.ownBlock ≠ some b := by
  intro hk
  rcases h.2 with ⟨rfl, hn⟩ | ⟨g, cap, cur, rfl, _, hg, _⟩
  · simp [Value.ownBlock] at hk
  · simp [Value.ownBlock] at hk
    subst hk
    unfold Blk at hb
    rw [hb] at hg
    injection hg with hg
    injection hg with _ h2
    exact ht h2
theorem own_ne_own (h : w.ownsRow B e sz v n xs) (h2 : w.ownsRow B2 e2 sz2 v2 n2 xs2) (ht : e ≠ e2) (k : Nat) (hk : v.ownBlock = some k) : v2.ownBlock ≠ some k := by
  intro hk2
  rcases h.2 with ⟨rfl, hn⟩ | ⟨g, cap, cur, rfl, _, hg, _⟩
  · simp [Value.ownBlock] at hk
  · simp [Value.ownBlock] at hk
    subst hk
    rcases h2.2 with ⟨rfl, hn⟩ | ⟨g2, cap2, cur2, rfl, _, hg2, _⟩
    · simp [Value.ownBlock] at hk2
    · simp [Value.ownBlock] at hk2
      subst hk2
      rw [hg] at hg2
      injection hg2 with hg2
      injection hg2 with _ h3
      exact ht h3
theorem own_fr {P : Nat → Prop} (h : w.ownsRow B e sz v n xs) (hf : Fr w w' P) (hp : ∀ k, v.ownBlock = some k → ¬ P k) : w'.ownsRow B e sz v n xs := by
  refine ⟨h.1, ?_⟩
  rcases h.2 with hn | ⟨g, cap, cur, hv, hb, hg, rest⟩
  · exact .inl hn
  · refine .inr ⟨g, cap, cur, hv, hb, ?_, rest⟩
    rw [hf.block g (Array.getElem?_eq_some_iff.1 hg).1 (hp g (by rw [hv]; rfl))]; exact hg
theorem own_below (h : w.ownsRow B e sz v n xs) (hb : Below w.heap.size w w') : w'.ownsRow B e sz v n xs := own_fr h (Fr.of_below hb (fun _ => False)) (fun _ _ h => h)
end
theorem own_addr {w : World} {B sz : Nat} {e : TypeId} {v : Value} {n : Nat} {xs : List Value} (h : w.ownsRow B e sz v n xs) (hn : 0 < n) : ∃ g cap, v = .slice (some ⟨g, 0, none⟩) n cap := by
  rcases h.2 with ⟨rfl, h0⟩ | ⟨g, cap, cur, rfl, _⟩
  · omega
  · exact ⟨g, cap, rfl⟩
theorem own_form3 {w : World} {B : Nat} {v : Value} {n sz : Nat} {xs : List Value} {e : TypeId} (h : w.ownsRow B e sz v n xs) : ∃ A c, v = .slice A n c := by
  rcases h.2 with ⟨rfl, hn⟩ | ⟨g, cap, cur, rfl, _⟩
  · exact ⟨none, 0, by rw [hn]⟩
  · exact ⟨_, cap, rfl⟩
end Go.Proofs.YtfkgmodgkifelaaGreatDoor
namespace Go.Proofs.YtfkgmodgkifelaaGreatDoor
open Go.RowKit

def cellsC (c : CD) : List Go.Value := [.bool false, .bool c.b, .int .i64 c.x, .int .u64 c.u, .string c.t, .complex .f64 c.p c.q]
theorem cellsC_snoc (l : List CD) (x : CD) : (l ++ [x]).flatMap cellsC = l.flatMap cellsC ++ cellsC x := by simp
theorem cellsC_get : ∀ (l : List CD) (i : Nat) (x : CD) (j : Nat), l[i]? = some x → j < 6 → (l.flatMap cellsC)[i * 6 + j]? = (cellsC x)[j]? := by
  intro l
  induction l with
  | nil => intro i x j h; simp at h
  | cons a l ih =>
    intro i x j h hj
    rw [List.flatMap_cons]
    have hl : (cellsC a).length = 6 := rfl
    cases i with
    | zero =>
      obtain rfl : a = x := by simpa using h
      rw [List.getElem?_append_left (by omega), Nat.zero_mul, Nat.zero_add]
    | succ i =>
      rw [List.getElem?_append_right (by rw [hl]; omega), hl, show (i + 1) * 6 + j - 6 = i * 6 + j by omega]
      exact ih i x j (by simpa using h) hj
theorem own_atC {w : World} {B g n c : Nat} {e : TypeId} {l : List CD} (h : w.ownsRow B e 6 (.slice (some ⟨g, 0, none⟩) n c) n (l.flatMap cellsC)) (hn : n = l.length) {i : Nat} {x : CD} (hx : l[i]? = some x) : AtC w g (i * 6) x.b x.x x.u x.t x.p x.q := by
  have hi : i < l.length := (List.getElem?_eq_some_iff.1 hx).1
  have hc := fun j (hj : j < 6) => (h.cellAt (i * 6 + j) (by omega)).trans (cellsC_get l i x j hx hj)
  exact ⟨hc 0 (by omega), hc 1 (by omega), hc 2 (by omega), hc 3 (by omega), hc 4 (by omega), hc 5 (by omega)⟩
theorem own_capC {w : World} {B g n c sz : Nat} {e : TypeId} {xs : List Value} (h : w.ownsRow B e sz (.slice (some ⟨g, 0, none⟩) n c) n xs) : n ≤ c := by
  rcases h.2 with ⟨h1, _⟩ | ⟨g2, cap, cur, h1, h2, h3, h4⟩
  · cases h1
  · cases h1
    omega
theorem info_cC : (Tryz.prog.info? 45).map (fun i => (i.zero, i.size, i.bytes)) = some (some clZ, 6, 56) := by kernel_rfl
/-- A slice that holds these cells. -/
def InC (w : World) (v : Value) (l : List CD) : Prop :=
  (l = [] ∧ ∃ a c, v = .slice a 0 c) ∨ (0 < l.length ∧ ∃ g c, v = .slice (some ⟨g, 0, none⟩) l.length c ∧ (g < w.heap.size ∧ l.length ≤ c) ∧ ∀ i x, l[i]? = some x → AtC w g (i * 6) x.b x.x x.u x.t x.p x.q)
theorem inC_own {w : World} {B n : Nat} {v : Value} {l : List CD} (h : w.ownsRow B 45 6 v n (l.flatMap cellsC)) (hn : n = l.length) : InC w v l := by
  subst hn
  rcases Nat.eq_zero_or_pos l.length with h0 | h0
  · obtain ⟨A, c, rfl⟩ := own_form3 h
    exact .inl ⟨List.eq_nil_of_length_eq_zero h0, A, c, by rw [h0]⟩
  · obtain ⟨g, c, rfl⟩ := own_addr h h0
    exact .inr ⟨h0, g, c, rfl, ⟨(h.lt g rfl).2, own_capC h⟩, fun i x hx => own_atC h rfl hx⟩
theorem InC.below {w w' : World} {v : Value} {l : List CD} (h : InC w v l) (hb : Below w.heap.size w w') : InC w' v l := by
  rcases h with h | ⟨h0, g, c, hv, hg, hc⟩
  · exact .inl h
  · exact .inr ⟨h0, g, c, hv, ⟨Nat.lt_of_lt_of_le hg.1 hb.size, hg.2⟩, fun i x hx => (hc i x hx).below hb hg.1⟩
theorem inC_nil (w : World) : InC w (.slice none 0 0) [] := .inl ⟨rfl, none, 0, rfl⟩
set_option maxHeartbeats 1000000 in
set_option maxRecDepth 100000 in
theorem cells_nil (a b : Option Addr) (c d : Nat) (w : World) : Calls Tryz.prog 8 #[.slice a 0 c, .slice b 0 d] w fun e w' => e = .returned (.bool true) ∧ ∃ m, w' = w.drewN m := by
  go_enter Tryz.func8, Tryz.ntmps8
  go_wp2_with fail
  go_loopw [5] (fun iv wr => iv = .int .i64 (0 : Int) ∧ wr = w) (fun iv _ => 0)
  case atStart => exact ⟨rfl, rfl⟩
  case round =>
    obtain ⟨rfl, rfl⟩ := hrel
    go_wp2_with fail
    go_ret
    exact ⟨rfl, 0, rfl⟩
/-- The same cells, twice. -/
theorem cells_list (l : List CD) (hl : l.length ≤ 100000) (hn : ∀ c ∈ l, c.num) (w : World) (va vb : Value) (ha : InC w va l) (hb : InC w vb l) :
    Calls Tryz.prog 8 #[va, vb] w fun e w' => e = .returned (.bool true) ∧ ∃ m, w' = w.drewN m := by
  rcases ha with ⟨h0, a, c, rfl⟩ | ⟨h0, g, c, rfl, _, hc⟩
  · rcases hb with ⟨_, b, d, rfl⟩ | ⟨h1, _⟩
    · exact cells_nil a b c d w
    · rw [h0] at h1; simp at h1
  · rcases hb with ⟨h1, _⟩ | ⟨_, g2, c2, rfl, _, hc2⟩
    · rw [h1] at h0; simp at h0
    · have hx : ∀ i, i < l.length → l[i]? = some (l.getD i CD.z) := fun i hi => by simp [List.getD, hi]
      exact cells_same l.length hl g g2 c c2 (fun i => (l.getD i CD.z).b) (fun i => (l.getD i CD.z).x) (fun i => (l.getD i CD.z).u) (fun i => (l.getD i CD.z).t) (fun i => (l.getD i CD.z).p) (fun i => (l.getD i CD.z).q) w
        (fun i hi => hc i _ (hx i hi)) (fun i hi => hc2 i _ (hx i hi)) (fun i hi => hn _ (List.mem_of_getElem? (hx i hi)))

/-- Where the reader stands behind so many cells, these, and the first thing that is wrong. -/
def posn (k : Int) (D : List Nat) : Nat → Nat
  | 0 => 0
  | i + 1 => posn k D i + (gp k (D.drop (posn k D i))).2.1
def cellAt (k : Int) (D : List Nat) (i : Nat) : CD := (gp k (D.drop (posn k D i))).1
def errAt (k : Int) (D : List Nat) (i : Nat) : Nat := (gp k (D.drop (posn k D i))).2.2.2
def errN (k : Int) (D : List Nat) : Nat → Nat
  | 0 => 0
  | n + 1 => if errN k D n = 0 then errAt k D n else errN k D n
def cellsN (k : Int) (D : List Nat) (n : Nat) : List CD := (List.range n).map (cellAt k D)
theorem cellsN_len (k : Int) (D : List Nat) (n : Nat) : (cellsN k D n).length = n := by simp [cellsN]
theorem cellsN_succ (k : Int) (D : List Nat) (n : Nat) : cellsN k D (n + 1) = cellsN k D n ++ [cellAt k D n] := by simp [cellsN, List.range_succ]
theorem cellsN_num (k : Int) (D : List Nat) (n : Nat) : ∀ c ∈ cellsN k D n, c.num := by
  intro c hc
  obtain ⟨i, _, rfl⟩ := List.mem_map.1 hc
  exact gp_num _ _
theorem posn_le (k : Int) (D : List Nat) : ∀ i, posn k D i ≤ D.length
  | 0 => by simp [posn]
  | i + 1 => by
    have h1 := posn_le k D i
    have h2 := gp_le k (D.drop (posn k D i))
    rw [List.length_drop] at h2
    show posn k D i + (gp k (D.drop (posn k D i))).2.1 ≤ _
    omega
theorem errN_succ (k : Int) (D : List Nat) (n : Nat) (h : errN k D n = 0) : errN k D (n + 1) = errAt k D n := by
  show (if errN k D n = 0 then _ else _) = _
  rw [if_pos h]
theorem errN_stay (k : Int) (D : List Nat) (i : Nat) (h : errN k D i ≠ 0) : ∀ n, i ≤ n → errN k D n = errN k D i
  | 0, hn => by obtain rfl : i = 0 := by omega
                rfl
  | n + 1, hn => by
    rcases Nat.lt_or_eq_of_le hn with hlt | heq
    · have ih := errN_stay k D i h n (by omega)
      show (if errN k D n = 0 then _ else _) = _
      rw [if_neg (by rw [ih]; exact h), ih]
    · rw [heq]
/-- So many cells of a kind but Bool. -/
def decR (k : Int) (D : List Nat) (n : Nat) : Nat × List CD :=
  if errN k D n = 0 then (if posn k D n < D.length then (11, []) else (0, cellsN k D n)) else (errN k D n, [])
theorem decR_err (k : Int) (D : List Nat) (i n : Nat) (hi : i < n) (h : errN k D i = 0) (he : errAt k D i ≠ 0) : decR k D n = (errAt k D i, []) := by
  have h1 := errN_succ k D i h
  have h2 := errN_stay k D (i + 1) (by rw [h1]; exact he) n hi
  unfold decR
  rw [h2, h1, if_neg he]
/-- How a Decode ends. -/
def DPost (w : World) (r : Nat × List CD) (e : Ending) (w' : World) : Prop := ∃ v, e = .returned (.tuple #[v, .int .i64 (r.1 : Nat)]) ∧ InC w' v r.2 ∧ Below w.heap.size w w'
theorem blk_2 (w : World) (a : Obj) (cs : Array Value) (t : TypeId) : Blk ((w.alloc a).alloc (.cells cs t)) (w.heap.size + 1) t cs := by
  have := Blk.new (w.alloc a) cs t
  rwa [show (w.alloc a).heap.size = w.heap.size + 1 by simp] at this
theorem rdone_long (R : Nat) (s : ByteArray) (p : Nat) (hs : s.size ≤ maxLen) (hp : p < s.size) (w : World) (h : Rd w R s p 0) :
    Calls Tryz.prog 29 #[.pointer (some ⟨R, 0, none⟩)] w fun r w' => r = .returned (.int .i64 11) ∧ Below w.heap.size w w' := by
  have K := rdone_any R s p 0 hs (by omega) w h
  rw [if_pos rfl, if_pos hp] at K
  exact K
theorem rdone_all (R : Nat) (s : ByteArray) (p : Nat) (hs : s.size ≤ maxLen) (hp : p ≤ s.size) (hn : ¬ p < s.size) (w : World) (h : Rd w R s p 0) :
    Calls Tryz.prog 29 #[.pointer (some ⟨R, 0, none⟩)] w fun r w' => r = .returned (.int .i64 0) ∧ Below w.heap.size w w' := by
  have K := rdone_any R s p 0 hs hp w h
  rw [if_pos rfl, if_neg hn] at K
  exact K
set_option maxHeartbeats 4000000 in
set_option maxRecDepth 100000 in
theorem pdecode_loop (k : Int) (h1 : 2 ≤ k) (h6 : k ≤ 6) (s : ByteArray) (hs : s.size ≤ maxLen) (n : Nat) (hn : n ≤ 10000) (w : World) (hT : Tabs w) :
    Calls Tryz.prog 88 #[.int .i64 k, .string s, .int .i64 n] w (DPost w (decR k (bn s) n)) := by
  have KI := hide (is_yes k (by omega) h6)
  have KR := hide (rd_new s)
  have hk1 : ((k : Int) == 1) = false := by rw [beq_eq_false_iff_ne]; omega
  have hn0 : (0 : Int) ≤ (n : Int) := by omega
  have hn1 : (n : Int) ≤ 10000 := by omega
  have KG := hide (fun (i : Nat) (R : Nat) (w : World) (h : Rd w R s (posn k (bn s) i) 0) (hT : Tabs w) => gget_all k (by omega) h6 R s (posn k (bn s) i) hs (by have := posn_le k (bn s) i; rw [bn_len] at this; exact this) w h hT)
  have KD1 := hide (fun (R : Nat) (hp : posn k (bn s) n < s.size) (w : World) (h : Rd w R s (posn k (bn s) n) 0) => rdone_long R s (posn k (bn s) n) hs hp w h)
  have KD2 := hide (fun (R : Nat) (hp : ¬ posn k (bn s) n < s.size) (w : World) (h : Rd w R s (posn k (bn s) n) 0) => rdone_all R s (posn k (bn s) n) hs (by have := posn_le k (bn s) n; rw [bn_len] at this; exact this) hp w h)
  obtain ⟨i0, hi, hz0, hz1, hz2⟩ := info_parts info_cC
  have HT := hide hT
  clear hT hs h1 h6
  have hst := fun (w1 : World) (a1 : Addr) (m : Mode) (x y : Nat) => run_store Tryz.prog w1 a1 (.complex .f64 x y) m rfl
  go_enter Tryz.func88, Tryz.ntmps88
  go_wp2_with fail
  refine (KI.out _).mono ?_
  rintro e w0 ⟨rfl, rfl⟩
  go_wp2_with fail
  refine (KR.out _).mono ?_
  rintro e w1 ⟨R, rfl, hr1, hR, hb1⟩
  have HR1 := hide hr1
  have HB1 := hide hb1
  clear hr1 hb1
  go_wp2_with fail
  go_loopw [9, 35] (fun lv iv wr => ∃ i : Nat, i ≤ n ∧ iv = .int .i64 (i : Int) ∧ Hid (errN k (bn s) i = 0) ∧ wr.ownsRow w.heap.size 45 6 lv i ((cellsN k (bn s) i).flatMap cellsC) ∧ Rd wr R s (posn k (bn s) i) 0 ∧ Below w.heap.size w wr) (fun _ iv _ => n - (intOf iv).toNat)
  case atStart => exact ⟨0, by omega, rfl, rfl, World.ownsRow_nil _ _ _ _, HR1.out, HB1.out⟩
  case round =>
    obtain ⟨i, hin, rfl, he, ha, hrd, hbe⟩ := hrel
    obtain ⟨Aa, ca, rfl⟩ := own_form3 ha
    by_cases hlt : i < n
    · have K := hide (KG.out i R wr hrd (HT.out.below hbe))
      have HC : Hid (cellsN k (bn s) (i + 1) = cellsN k (bn s) i ++ [(gp k ((bn s).drop (posn k (bn s) i))).1]) := cellsN_succ _ _ _
      have HP : Hid (posn k (bn s) (i + 1) = posn k (bn s) i + (gp k ((bn s).drop (posn k (bn s) i))).2.1) := rfl
      have HE : Hid (errN k (bn s) (i + 1) = (gp k ((bn s).drop (posn k (bn s) i))).2.2.2) := errN_succ k (bn s) i he.out
      have HX := hide (fun h => decR_err k (bn s) i n hlt he.out h)
      unfold errAt at HX
      have hE := gp_e k ((bn s).drop (posn k (bn s) i))
      rcases hg : gp k ((bn s).drop (posn k (bn s) i)) with ⟨c, m, e', er⟩
      rw [hg] at K HC HP HE HX hE
      simp only at K HC HP HE HX hE
      obtain ⟨cb, cx, cu, ct, cp, cq⟩ := c
      unfold CD.v clV clA at K
      simp only at K
      have HA := hide ha
      have HRD := hide hrd
      have HBE := hide hbe
      clear hg ha hrd hbe
      by_cases h0 : er = 0
      · obtain rfl : e' = 0 := hE h0
        subst h0
        clear hE
        go_wp2_with fail
        refine K.out.mono ?_
        rintro e w1 ⟨rfl, hr2, hf2⟩
        have HR2 := hide hr2
        have HA2 := hide (own_fr HA.out hf2 (fun j hj h => own_ne_blk HA.out HRD.out (by decide) (by rw [hj, h])))
        have HB2 := hide (HBE.out.trans (hf2.below HBE.out.size (fun j hj => by omega)))
        clear hr2 hf2
        go_wp2_with (at_builtin; refine wpList_append_own_at _ rfl _ _ 25 rfl w.heap.size 45 i0 _ 6 56 Tryz.underlying25 hi hz0 hz1 hz2 rfl (by decide) _ _ _ rfl ((HA2.out.alloc _).alloc _) ⟨w1.heap.size + 1, 0, none⟩ 1 1 [.bool false, .bool cb, .int .i64 cx, .int .u64 cu, .string ct, .complex .f64 cp cq] rfl rfl (World.news_of_block (blk_2 _ _ _ _).out) (by simp [Value.oneCell']) (by simp only [maxLen]; omega) (by omega) (by simpa using Nat.le_succ_of_le (Nat.le_succ_of_le HB2.out.size)) ?_; intro v1 w2 hown1 hgrow1 _ hat1)
        have hba := fun o1 o2 => (HB2.out.alloc HB2.out.size o1).alloc (by simp; exact Nat.le_succ_of_le HB2.out.size) o2
        have HB3 := hide ((hba _ _).grown hgrow1 (by simpa using Nat.le_succ_of_le (Nat.le_succ_of_le HB2.out.size)) (fun j hj => (HA2.out.lt j hj).1))
        have HF3 := Fr.of_grown hgrow1
        have HR3 := hide (((HR2.out.alloc _).alloc _).fr HF3 (fun h => own_ne_blk HA2.out HR2.out (by decide) h.symm))
        have HA3 : Hid (w2.ownsRow w.heap.size 45 6 v1 (i + 1) ((cellsN k (bn s) (i + 1)).flatMap cellsC)) := by
          show World.ownsRow _ _ _ _ _ _ _
          rw [HC.out, cellsC_snoc]; exact hown1
        clear hba hown1 hgrow1 hat1 HF3
        go_roundw
        case rel => exact ⟨i + 1, by omega, by go_num, HE.out, HA3.out, by rw [HP.out]; exact HR3.out, HB3.out⟩
        case measure => simp [intOf] <;> omega
      · have hne : ((er : Int) != 0) = true := by rw [bne_iff_ne]; omega
        have HX2 := hide (HX.out h0)
        clear h0 hE HX
        go_wp2_with fail
        refine K.out.mono ?_
        rintro e w1 ⟨rfl, hr2, hf2⟩
        have HB2 := hide (HBE.out.trans (hf2.below HBE.out.size (fun j hj => by omega)))
        clear hr2 hf2
        go_wp2_with fail
        go_ret2
        rw [HX2.out]
        exact ⟨_, rfl, inC_nil _, HB2.out.alloc HB2.out.size _⟩
    · obtain rfl : i = n := by omega
      have HRD := hide hrd
      have HA := hide ha
      have HBE := hide hbe
      clear ha hrd hbe
      by_cases hp : posn k (bn s) i < s.size
      · have K := hide (KD1.out R hp wr HRD.out)
        have HX : Hid (decR k (bn s) i = (11, [])) := by show _ = _; unfold decR; rw [if_pos he.out, if_pos (by rw [bn_len]; exact hp)]
        clear hp KD1 KD2
        go_wp2_with fail
        refine K.out.mono ?_
        rintro e w1 ⟨rfl, hb1⟩
        have HB2 := hide (HBE.out.trans (hb1.mono HBE.out.size))
        clear hb1
        go_wp2_with fail
        go_ret2
        rw [HX.out]
        exact ⟨_, rfl, inC_nil _, HB2.out⟩
      · have K := hide (KD2.out R hp wr HRD.out)
        have HX : Hid (decR k (bn s) i = (0, cellsN k (bn s) i)) := by show _ = _; unfold decR; rw [if_pos he.out, if_neg (by rw [bn_len]; exact hp)]
        clear hp KD1 KD2
        go_wp2_with fail
        refine K.out.mono ?_
        rintro e w1 ⟨rfl, hb1⟩
        have HB2 := hide (HBE.out.trans (hb1.mono HBE.out.size))
        have HA2 := hide (own_below HA.out hb1)
        clear hb1
        go_wp2_with fail
        go_ret2
        rw [HX.out]
        exact ⟨_, rfl, inC_own HA2.out (cellsN_len _ _ _).symm, HB2.out⟩
end Go.Proofs.YtfkgmodgkifelaaGreatDoor
