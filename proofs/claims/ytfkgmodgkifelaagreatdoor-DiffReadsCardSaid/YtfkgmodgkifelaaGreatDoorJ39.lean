/- Columns: a stream read: which cells are missing; the four ways back. Columns: a stream's cells, the program. -/
import Derived.Test.YtfkgmodgkifelaaGreatDoorJ37
import Derived.Test.YtfkgmodgkifelaaGreatDoorJ32
import Derived.Test.YtfkgmodgkifelaaGreatDoorJ28
import Derived.Maps.AppendAt
import Derived.Test.YtfkgmodgkifelaaGreatDoorJ33
import Derived.Test.YtfkgmodgkifelaaGreatDoorJ29
import Derived.Test.YtfkgmodgkifelaaGreatDoorJ38
namespace Go.Proofs.YtfkgmodgkifelaaGreatDoor
open Go.RowKit

/-- So many cells of a way. -/
def backS (way : Nat) (k : Int) (D : List Nat) (n : Int) : Nat × List CD := if way = 1 then dspec k D n else if way = 2 then rspec k D n else if way = 3 then lspec k D n else if way = 4 then xspec k D n else (14, [])
theorem backS_dec (way : Nat) (k : Int) (h1 : 1 ≤ k) (h6 : k ≤ 6) (D : List Nat) (hD : Bys D) (n : Int) : Dec k n (backS way k D n) := by
  unfold backS
  split
  · exact dspec_dec k h1 h6 D hD n
  · split
    · exact rspec_dec k h1 h6 D hD n
    · split
      · exact lspec_dec k D n
      · split
        · exact xspec_dec k h1 h6 D hD n
        · exact dec_err (by decide) (by decide)
set_option maxHeartbeats 2000000 in
set_option maxRecDepth 100000 in
theorem cback_any (way : Nat) (k : Int) (s : ByteArray) (hs : s.size ≤ 600) (n : Int) (w : World) (hT : Tabs w) :
    Calls Tryz.prog 19 #[.int .i64 (way : Int), .int .i64 k, .string s, .int .i64 n] w (DPost w (backS way k (bn s) n)) := by
  have hm : s.size ≤ maxLen := Nat.le_trans hs (by simp [maxLen])
  by_cases w1 : way = 1
  · subst w1
    have K := hide (sdecode_any k s (by omega) n w hT)
    rw [show backS 1 k (bn s) n = dspec k (bn s) n from rfl]
    unfold DPost at K ⊢
    generalize (dspec k (bn s) n).1 = er at *
    generalize (dspec k (bn s) n).2 = l at *
    clear hm hs hT
    go_enter Tryz.func19, Tryz.ntmps19
    go_wp2_with fail
    refine K.out.mono ?_
    rintro e w1 ⟨V, rfl, hV, hb⟩
    have HV := hide hV
    have HB := hide hb
    clear hV hb
    go_wp2_with fail
    go_ret2
    exact ⟨_, rfl, HV.out, HB.out⟩
  by_cases w2 : way = 2
  · subst w2
    have K := hide (srdecode_any k s hm n w hT)
    rw [show backS 2 k (bn s) n = rspec k (bn s) n from rfl]
    unfold DPost at K ⊢
    generalize (rspec k (bn s) n).1 = er at *
    generalize (rspec k (bn s) n).2 = l at *
    clear hm hs hT
    go_enter Tryz.func19, Tryz.ntmps19
    go_wp2_with fail
    refine K.out.mono ?_
    rintro e w1 ⟨V, rfl, hV, hb⟩
    have HV := hide hV
    have HB := hide hb
    clear hV hb
    go_wp2_with fail
    go_ret2
    exact ⟨_, rfl, HV.out, HB.out⟩
  by_cases w3 : way = 3
  · subst w3
    have K := hide (sddecode_any k s hm n w hT)
    rw [show backS 3 k (bn s) n = lspec k (bn s) n from rfl]
    unfold DPost at K ⊢
    generalize (lspec k (bn s) n).1 = er at *
    generalize (lspec k (bn s) n).2 = l at *
    clear hm hs hT
    go_enter Tryz.func19, Tryz.ntmps19
    go_wp2_with fail
    refine K.out.mono ?_
    rintro e w1 ⟨V, rfl, hV, hb⟩
    have HV := hide hV
    have HB := hide hb
    clear hV hb
    go_wp2_with fail
    go_ret2
    exact ⟨_, rfl, HV.out, HB.out⟩
  by_cases w4 : way = 4
  · subst w4
    have K := hide (sxdecode_any k s hm n w hT)
    rw [show backS 4 k (bn s) n = xspec k (bn s) n from rfl]
    unfold DPost at K ⊢
    generalize (xspec k (bn s) n).1 = er at *
    generalize (xspec k (bn s) n).2 = l at *
    clear hm hs hT
    go_enter Tryz.func19, Tryz.ntmps19
    go_wp2_with fail
    refine K.out.mono ?_
    rintro e w1 ⟨V, rfl, hV, hb⟩
    have HV := hide hV
    have HB := hide hb
    clear hV hb
    go_wp2_with fail
    go_ret2
    exact ⟨_, rfl, HV.out, HB.out⟩
  have d1 : ((way : Int) == 1) = false := by rw [beq_eq_false_iff_ne]; omega
  have d2 : ((way : Int) == 2) = false := by rw [beq_eq_false_iff_ne]; omega
  have d3 : ((way : Int) == 3) = false := by rw [beq_eq_false_iff_ne]; omega
  have d4 : ((way : Int) == 4) = false := by rw [beq_eq_false_iff_ne]; omega
  rw [show backS way k (bn s) n = (14, []) by unfold backS; rw [if_neg w1, if_neg w2, if_neg w3, if_neg w4]]
  clear hm hs hT w1 w2 w3 w4
  go_enter Tryz.func19, Tryz.ntmps19
  go_wp2_with fail
  go_ret2
  exact ⟨_, rfl, inC_nil _, Below.refl _ _⟩
/-- Which cells are missing: the error, the bits, where the reader stands. -/
def missS (nl : Bool) (D : List Nat) (p n : Nat) : Nat × List Bool × Nat :=
  if nl = true then (if D.length - p < (n + 7) / 8 then (10, [], p) else ((unR ((D.drop p).take ((n + 7) / 8)) n).1, (unR ((D.drop p).take ((n + 7) / 8)) n).2, p + (n + 7) / 8)) else (0, List.replicate n false, p)
theorem slB_rep (w : World) (n : Nat) (hn : n ≤ 10000) (o : Obj) (ho : o = .cells (madeCells #[.bool false] n) 4) : SlB (w.alloc o) (.slice (some ⟨w.heap.size, 0, none⟩) n n) (List.replicate n false) := by
  subst ho
  have := slB_row (World.rowIs_made w (.bool false) n 4) (List.replicate n false) (by simp) (by unfold maxLen; omega) (fun i hi => by simp [List.getD, hi])
  exact this
/-- How column.missing ends. -/
def MPost (R : Nat) (w : World) (s : ByteArray) (r : Nat × List Bool × Nat) (e : Ending) (w' : World) : Prop :=
  (∃ V, e = .returned (.tuple #[V, .int .i64 (r.1 : Nat)]) ∧ (r.1 = 0 → SlB w' V r.2.1)) ∧ (r.1 = 0 → Rd w' R s r.2.2 0) ∧ Fr w w' (fun k => k = R)
set_option maxHeartbeats 4000000 in
set_option maxRecDepth 100000 in
theorem missing_any (nm : ByteArray) (k : Int) (nl : Bool) (R : Nat) (s : ByteArray) (hs : s.size ≤ 600) (p : Nat) (hp : p ≤ s.size) (n : Nat) (hn : n ≤ 10000) (w : World) (hr : Rd w R s p 0) :
    Calls Tryz.prog 49 #[.pointer (some ⟨R, 0, none⟩), colV nm k nl, .int .i64 (n : Int)] w (MPost R w s (missS nl (bn s) p n)) := by
  have hm : s.size ≤ maxLen := Nat.le_trans hs (by simp [maxLen])
  unfold colV
  have hn0 : (0 : Int) ≤ (n : Int) := by omega
  have hn1 : (n : Int) ≤ 10000 := by omega
  cases nl
  · rw [show missS false (bn s) p n = (0, List.replicate n false, p) from rfl]
    have hmk := run_make_row' (P := Tryz.prog) 50 4 (.bool false) 1 Tryz.underlying50 info_bool rfl .i64 .i64 n (by omega) (by omega)
    have HS := hide (fun o => show SlB ((w.alloc o).alloc (.cells (madeCells #[.bool false] n) 4)) (.slice (some ⟨w.heap.size + 1, 0, none⟩) n n) (List.replicate n false) from by have := slB_rep (w.alloc o) n hn _ rfl; rwa [show (w.alloc o).heap.size = w.heap.size + 1 by simp] at this)
    have HR := hide (fun o o' => (rd_alloc hr o).below ((Below.refl _ _).alloc (Nat.le_refl _) o'))
    generalize madeCells #[Value.bool false] n = CZ at *
    clear hs hm hp hr
    go_enter Tryz.func49, Tryz.ntmps49
    go_wp2_with fail
    go_ret2
    exact ⟨⟨_, rfl, fun _ => HS.out _⟩, fun _ => HR.out _ _, (Fr.alloc w _ _).trans (Fr.alloc _ _ _) (fun _ _ h => h)⟩
  · have hq : ((n : Int) + 8 - 1) / 8 = (((n + 7) / 8 : Nat) : Int) := by omega
    have HQ := hide hq
    clear hq
    have KRR := hide (fun (o : Obj) => rraw_any R s p 0 (((n + 7) / 8 : Nat) : Int) (by omega) hm hp (w.alloc o) (rd_alloc hr o))
    have hlt := Blk.lt hr
    have hbl := bn_len s
    by_cases hsh : (bn s).length - p < (n + 7) / 8
    · have e1 : missS true (bn s) p n = (10, [], p) := by unfold missS; rw [if_pos rfl, if_pos hsh]
      have e2 : stT s p 0 (rawS (((n + 7) / 8 : Nat) : Int)) = ([], p + 0, 10) := by
        rw [stT_at]
        unfold rawS
        rw [if_neg (by omega), if_pos (by rw [List.length_drop]; omega)]
      rw [e2] at KRR
      rw [e1]
      simp only at KRR
      generalize (n + 7) / 8 = z at *
      have HRW := hide hlt
      clear e1 e2 hm hp hr hs hsh hbl
      go_enter Tryz.func49, Tryz.ntmps49
      go_wp2_with fail
      rw [HQ.out]
      refine (KRR.out _).mono ?_
      rintro e w1 ⟨rfl, hr1, hf1⟩
      have KE := hide (rerr_any R s (p + 0) 10 w1 hr1)
      have HF := hide ((Fr.alloc w _ _).trans hf1 (fun _ _ h => h))
      clear hr1 hf1
      go_wp2_with fail
      refine KE.out.mono ?_
      rintro e w2 ⟨rfl, rfl⟩
      go_wp2_with fail
      go_ret2
      exact ⟨⟨_, rfl, (fun h => by cases h)⟩, (fun h => by cases h), HF.out⟩
    · have e1 : missS true (bn s) p n = ((unR (((bn s).drop p).take ((n + 7) / 8)) n).1, (unR (((bn s).drop p).take ((n + 7) / 8)) n).2, p + (n + 7) / 8) := by unfold missS; rw [if_pos rfl, if_neg hsh]
      have e2 : stT s p 0 (rawS (((n + 7) / 8 : Nat) : Int)) = (((bn s).drop p).take ((n + 7) / 8), p + (n + 7) / 8, 0) := by
        rw [stT_at]
        unfold rawS
        rw [if_neg (by omega), if_neg (by rw [List.length_drop]; omega)]
        rfl
      rw [e2] at KRR
      rw [e1]
      simp only at KRR
      have hby : ∀ b ∈ ((bn s).drop p).take ((n + 7) / 8), b < 256 := fun b hb => (bys_bn s hs).lt b (List.mem_of_mem_drop (List.mem_of_mem_take hb))
      have hle : (strN (((bn s).drop p).take ((n + 7) / 8))).size ≤ maxLen := by
        rw [strN_size, List.length_take, List.length_drop]; unfold maxLen at *; omega
      have KU := hide (fun w => unpack_any (strN (((bn s).drop p).take ((n + 7) / 8))) hle n w)
      unfold UnPost at KU
      rw [bn_strN _ hby] at KU
      generalize ((bn s).drop p).take ((n + 7) / 8) = Z at *
      generalize (n + 7) / 8 = z at *
      clear e1 e2 hm hp hr hs hsh hbl hby hle
      generalize (unR Z n).1 = er at *
      generalize (unR Z n).2 = L at *
      go_enter Tryz.func49, Tryz.ntmps49
      go_wp2_with fail
      rw [HQ.out]
      refine (KRR.out _).mono ?_
      rintro e w1 ⟨rfl, hr1, hf1⟩
      have KE := hide (rerr_any R s (p + z) 0 w1 hr1)
      have HR1 := hide hr1
      have HF := hide ((Fr.alloc w _ _).trans hf1 (fun _ _ h => h))
      clear hr1 hf1
      go_wp2_with fail
      refine KE.out.mono ?_
      rintro e w2 ⟨rfl, rfl⟩
      go_wp2_with fail
      refine (KU.out _).mono ?_
      rintro e w3 ⟨V, rfl, hV, hb3⟩
      have HV := hide hV
      have HB3 := hide hb3
      clear hV hb3
      go_wp2_with fail
      go_ret2
      exact ⟨⟨_, rfl, fun _ => HV.out⟩, fun _ => HR1.out.below HB3.out, HF.out.trans (Fr.of_below HB3.out _) (fun _ _ h => h)⟩
end Go.Proofs.YtfkgmodgkifelaaGreatDoor
namespace Go.Proofs.YtfkgmodgkifelaaGreatDoor
open Go.RowKit

/-- The cells that a stream tells. -/
def cellsS (k : Int) (nl : Bool) (D : List Nat) : Nat × List MC :=
  if (few D 0).2.2 ≠ 0 then ((few D 0).2.2, [])
  else if 10000 < (few D 0).1 then (31, [])
  else if (missS nl D (few D 0).2.1 (few D 0).1).1 ≠ 0 then ((missS nl D (few D 0).2.1 (few D 0).1).1, [])
  else if D.length ≤ (missS nl D (few D 0).2.1 (few D 0).1).2.2 then (10, [])
  else if (backS (D.getD (missS nl D (few D 0).2.1 (few D 0).1).2.2 0) k (D.drop ((missS nl D (few D 0).2.1 (few D 0).1).2.2 + 1)) (((missS nl D (few D 0).2.1 (few D 0).1).2.1.length : Int) - (cnt (missS nl D (few D 0).2.1 (few D 0).1).2.1 : Int))).1 ≠ 0
    then ((backS (D.getD (missS nl D (few D 0).2.1 (few D 0).1).2.2 0) k (D.drop ((missS nl D (few D 0).2.1 (few D 0).1).2.2 + 1)) (((missS nl D (few D 0).2.1 (few D 0).1).2.1.length : Int) - (cnt (missS nl D (few D 0).2.1 (few D 0).1).2.1 : Int))).1, [])
  else (0, spr (missS nl D (few D 0).2.1 (few D 0).1).2.1 (backS (D.getD (missS nl D (few D 0).2.1 (few D 0).1).2.2 0) k (D.drop ((missS nl D (few D 0).2.1 (few D 0).1).2.2 + 1)) (((missS nl D (few D 0).2.1 (few D 0).1).2.1.length : Int) - (cnt (missS nl D (few D 0).2.1 (few D 0).1).2.1 : Int))).2)
theorem cellsS_e1 {k : Int} {nl : Bool} {D : List Nat} {n a e : Nat} (h : few D 0 = (n, a, e)) (he : e ≠ 0) : cellsS k nl D = (e, []) := by
  unfold cellsS
  rw [h]
  simp only
  rw [if_pos he]
theorem cellsS_e2 {k : Int} {nl : Bool} {D : List Nat} {n a : Nat} (h : few D 0 = (n, a, 0)) (hn : 10000 < n) : cellsS k nl D = (31, []) := by
  unfold cellsS
  rw [h]
  simp only
  rw [if_neg (by simp), if_pos hn]
theorem cellsS_e3 {k : Int} {nl : Bool} {D : List Nat} {n a : Nat} (h : few D 0 = (n, a, 0)) (hn : ¬ 10000 < n) {e p : Nat} {b : List Bool} (hm : missS nl D a n = (e, b, p)) (he : e ≠ 0) : cellsS k nl D = (e, []) := by
  unfold cellsS
  rw [h]
  simp only
  rw [hm]
  simp only
  rw [if_neg (by simp), if_neg hn, if_pos he]
theorem cellsS_e4 {k : Int} {nl : Bool} {D : List Nat} {n a : Nat} (h : few D 0 = (n, a, 0)) (hn : ¬ 10000 < n) {p : Nat} {b : List Bool} (hm : missS nl D a n = (0, b, p)) (hp : D.length ≤ p) : cellsS k nl D = (10, []) := by
  unfold cellsS
  rw [h]
  simp only
  rw [hm]
  simp only
  rw [if_neg (by simp), if_neg hn, if_neg (by simp), if_pos hp]
theorem cellsS_e5 {k : Int} {nl : Bool} {D : List Nat} {n a : Nat} (h : few D 0 = (n, a, 0)) (hn : ¬ 10000 < n) {p : Nat} {b : List Bool} (hm : missS nl D a n = (0, b, p)) (hp : ¬ D.length ≤ p) :
    cellsS k nl D = if (backS (D.getD p 0) k (D.drop (p + 1)) ((b.length : Int) - (cnt b : Int))).1 ≠ 0 then ((backS (D.getD p 0) k (D.drop (p + 1)) ((b.length : Int) - (cnt b : Int))).1, []) else (0, spr b (backS (D.getD p 0) k (D.drop (p + 1)) ((b.length : Int) - (cnt b : Int))).2) := by
  unfold cellsS
  rw [h]
  simp only
  rw [hm]
  simp only
  rw [if_neg (by simp), if_neg hn, if_neg (by simp), if_neg hp]
set_option maxRecDepth 100000 in
theorem en_pd : ∀ args w, (callFunc 88 args).run Tryz.prog w = .ok (.enter 88 args) w := enters_of Tryz.func88 (by kernel_rfl) rfl
set_option maxRecDepth 100000 in
theorem en_rd : ∀ args w, (callFunc 90 args).run Tryz.prog w = .ok (.enter 90 args) w := enters_of Tryz.func90 (by kernel_rfl) rfl
set_option maxRecDepth 100000 in
theorem en_dd : ∀ args w, (callFunc 92 args).run Tryz.prog w = .ok (.enter 92 args) w := enters_of Tryz.func92 (by kernel_rfl) rfl
set_option maxRecDepth 100000 in
theorem en_xd : ∀ args w, (callFunc 94 args).run Tryz.prog w = .ok (.enter 94 args) w := enters_of Tryz.func94 (by kernel_rfl) rfl
theorem wayb_1 (p1 p2 p3 : Nat) : ∃ X : Value, ∀ w, (Instr.index 104 (.agg (wayA p1 p2 p3)) (.int .u8 1)).run Tryz.prog w = .ok (.agg #[X, .func (.func 88) #[] #[]]) w := ⟨.func (.func 128) #[] #[.pointer (some ⟨p1, 0, none⟩)], fun w => by kernel_rfl⟩
theorem wayb_2 (p1 p2 p3 : Nat) : ∃ X : Value, ∀ w, (Instr.index 104 (.agg (wayA p1 p2 p3)) (.int .u8 2)).run Tryz.prog w = .ok (.agg #[X, .func (.func 90) #[] #[]]) w := ⟨.func (.func 128) #[] #[.pointer (some ⟨p2, 0, none⟩)], fun w => by kernel_rfl⟩
theorem wayb_3 (p1 p2 p3 : Nat) : ∃ X : Value, ∀ w, (Instr.index 104 (.agg (wayA p1 p2 p3)) (.int .u8 3)).run Tryz.prog w = .ok (.agg #[X, .func (.func 92) #[] #[]]) w := ⟨.func (.func 91) #[] #[], fun w => by kernel_rfl⟩
theorem wayb_4 (p1 p2 p3 : Nat) : ∃ X : Value, ∀ w, (Instr.index 104 (.agg (wayA p1 p2 p3)) (.int .u8 4)).run Tryz.prog w = .ok (.agg #[X, .func (.func 94) #[] #[]]) w := ⟨.func (.func 128) #[] #[.pointer (some ⟨p3, 0, none⟩)], fun w => by kernel_rfl⟩
theorem way_fn (way : Nat) (h1 : 1 ≤ way) (h4 : way ≤ 4) : ∃ F : FuncId, (∀ p1 p2 p3, ∃ X : Value, ∀ w, (Instr.index 104 (.agg (wayA p1 p2 p3)) (.int .u8 (way : Int))).run Tryz.prog w = .ok (.agg #[X, .func (.func F) #[] #[]]) w) ∧
    (∀ args w, (callFunc F args).run Tryz.prog w = .ok (.enter F args) w) ∧
    (∀ (k : Int) (s : ByteArray), s.size ≤ maxLen → ∀ (n : Int) (w : World), Tabs w → Calls Tryz.prog F #[.int .i64 k, .string s, .int .i64 n] w (DPost w (backS way k (bn s) n))) := by
  have : way = 1 ∨ way = 2 ∨ way = 3 ∨ way = 4 := by omega
  rcases this with rfl | rfl | rfl | rfl
  · exact ⟨_, wayb_1, en_pd, fun k s hs n w hT => pdecode_any k s hs n w hT⟩
  · exact ⟨_, wayb_2, en_rd, fun k s hs n w hT => rdecode_any k s hs n w hT⟩
  · exact ⟨_, wayb_3, en_dd, fun k s hs n w hT => ddecode_any k s hs n w hT⟩
  · exact ⟨_, wayb_4, en_xd, fun k s hs n w hT => xdecode_any k s hs n w hT⟩
/-- How a Decode of cells some of which may be missing ends. -/
def DPostM (w : World) (r : Nat × List MC) (e : Ending) (w' : World) : Prop := ∃ v, e = .returned (.tuple #[v, .int .i64 (r.1 : Nat)]) ∧ InM w' v r.2 ∧ Below w.heap.size w w'
theorem inM_nil (w : World) : InM w (.slice none 0 0) [] := ⟨none, 0, rfl, fun i x h => by simp at h⟩
end Go.Proofs.YtfkgmodgkifelaaGreatDoor
