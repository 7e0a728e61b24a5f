import Derived.Test.YtmikeljfigignaaSums2
namespace Go.Proofs.Ytmikeljfigignaa
open Go.RowKit

theorem xs_u64 (x d : Nat) (hx : x < 18446744073709551616) : bits .xor .u64 (x : Int) ((x : Int) / (d : Int)) = ((x ^^^ x / d : Nat) : Int) := by
  have := u64_xor_nat x (x / d) hx (Nat.lt_of_le_of_lt (Nat.div_le_self _ _) hx)
  rw [← this, Int.natCast_ediv]
theorem wrap_u64_nat (n : Nat) : IntKind.u64.wrap (n : Int) = ((n % 18446744073709551616 : Nat) : Int) := by rw [IntKind.wrap_u64]; omega
theorem mix_expr (x : Nat) (hx : x < 18446744073709551616) :
    bits .xor .u64 (IntKind.u64.wrap (bits .xor .u64 (IntKind.u64.wrap (bits .xor .u64 (x : Int) ((x : Int) / 1073741824) * 13787848793156543929)) (IntKind.u64.wrap (bits .xor .u64 (x : Int) ((x : Int) / 1073741824) * 13787848793156543929) / 134217728) * 10723151780598845931))
      (IntKind.u64.wrap (bits .xor .u64 (IntKind.u64.wrap (bits .xor .u64 (x : Int) ((x : Int) / 1073741824) * 13787848793156543929)) (IntKind.u64.wrap (bits .xor .u64 (x : Int) ((x : Int) / 1073741824) * 13787848793156543929) / 134217728) * 10723151780598845931) / 2147483648) = ((mix x : Nat) : Int) := by
  have e1 := mixStep_u64 x 1073741824 13787848793156543929 hx
  have e2 := mixStep_u64 (mixA x) 134217728 10723151780598845931 (mixA_lt x)
  have e3 := xs_u64 (mixB (mixA x)) 2147483648 (mixB_lt _)
  have f1 : IntKind.u64.wrap (bits .xor .u64 (x : Int) ((x : Int) / 1073741824) * 13787848793156543929) = ((mixA x : Nat) : Int) := e1
  have f2 : IntKind.u64.wrap (bits .xor .u64 ((mixA x : Nat) : Int) (((mixA x : Nat) : Int) / 134217728) * 10723151780598845931) = ((mixB (mixA x) : Nat) : Int) := e2
  rw [f1, f2, mix_eq]
  exact e3
set_option maxHeartbeats 400000 in
theorem next_any (a : Addr) (s : Nat) (w : World) (hc : w.cell? a = some (.int .u64 s)) (hf : w.frozen? a = false) :
    Calls Try.prog 28 #[.pointer (some a)] w fun e w' => e = .returned (.int .u64 ((mix (nxt s) : Nat) : Int)) ∧ w.setCell a (.int .u64 ((nxt s : Nat) : Int)) = w' := by
  go_enter Try.func28, Try.ntmps28
  go_wp2
  go_ret
  have e : IntKind.u64.wrap ((s : Int) + 11400714819323198485) = ((nxt s : Nat) : Int) := by rw [← nxt_eq]; exact wrap_u64_nat (s + 11400714819323198485)
  refine ⟨ret_int ?_, by rw [e]⟩
  rw [e]
  exact mix_expr _ (nxt_lt _)
set_option maxHeartbeats 400000 in
theorem roll_nil (h : Nat) (b : Int) (w : World) :
    Calls Try.prog 16 #[.int .u64 h, .pointer none, .int .u8 b] w fun e w' => e = .returned (.int .u64 (((2 * h) % 18446744073709551616 : Nat) : Int)) ∧ w = w' := by
  go_enter Try.func16, Try.ntmps16
  go_wp2
  go_ret
  refine ⟨ret_int ?_, rfl⟩
  rw [IntKind.wrap_u64]
  omega
set_option maxHeartbeats 400000 in
theorem roll_any (h : Nat) (b : Nat) (hb : b < 256) (g : Nat) (w : World) (bl : Nat) (hc : w.cell? ⟨bl, b, none⟩ = some (.int .u64 g)) :
    Calls Try.prog 16 #[.int .u64 h, .pointer (some ⟨bl, 0, none⟩), .int .u8 b] w fun e w' => e = .returned (.int .u64 ((roll h g : Nat) : Int)) ∧ w = w' := by
  go_enter Try.func16, Try.ntmps16
  go_wp2
  go_ret
  refine ⟨ret_int ?_, rfl⟩
  unfold roll
  rw [IntKind.wrap_u64, IntKind.wrap_u64]
  omega

/-- The table of a seed, k numbers of which are there. -/
def z64 : Array Value := arr 256 fun _ => .int .u64 0
def gtab (seed k : Nat) : Array Value := arr 256 fun i => .int .u64 (if i < k then ((gear seed i : Nat) : Int) else 0)
theorem z64_size : z64.size = 256 := arr_size _ _
theorem gtab_0 (seed : Nat) : gtab seed 0 = z64 := arr_congr fun i _ => by simp
theorem gtab_size (seed k : Nat) : (gtab seed k).size = 256 := arr_size _ _
theorem gtab_one (seed k : Nat) : (gtab seed k).all (·.oneCell') = true := arr_one fun _ _ => rfl
theorem gtab_get {seed k i : Nat} (h : i < 256) : (gtab seed k)[i]? = some (.int .u64 (if i < k then ((gear seed i : Nat) : Int) else 0)) := arr_get h
theorem gtab_full {seed i : Nat} (h : i < 256) : (gtab seed 256)[i]? = some (.int .u64 ((gear seed i : Nat) : Int)) := by rw [gtab_get h, if_pos h]
theorem gtab_set (seed k : Nat) : (gtab seed k).setIfInBounds k (.int .u64 ((gear seed k : Nat) : Int)) = gtab seed (k + 1) := by
  unfold gtab
  rw [arr_set]
  refine arr_congr fun i _ => ?_
  by_cases e : i = k
  · subst e; simp
  · by_cases h : i < k
    · simp [e, h, Nat.lt_succ_of_lt h]
    · rw [if_neg e, if_neg h, if_neg (by omega)]
theorem zero24 (w : World) : (zeroValue 24).run Try.prog w = .ok (.agg z64) w := by kernel_rfl
theorem info24 : (Try.prog.info? 24).map (·.size) = some 256 := by kernel_rfl
set_option maxHeartbeats 400000 in
set_option maxRecDepth 100000 in
theorem gear_any (seed : Nat) (hseed : seed < 18446744073709551616) (w : World) :
    Calls Try.prog 12 #[.int .u64 seed] w fun e w' => e = .returned (.agg (gtab seed 256)) ∧ Below w.heap.size w w' := by
  have hz := zero24
  have HS0 := hide (sd_zero hseed)
  clear hseed
  go_enter Try.func12, Try.ntmps12
  go_wp2_with fail
  go_loopw [7] (fun i wr => ∃ k : Nat, k ≤ 256 ∧ i = .int .i64 k ∧ Blk wr w.heap.size 22 #[.int .u64 ((sd seed k : Nat) : Int)] ∧ Blk wr (w.heap.size + 1) 24 z64 ∧ Blk wr (w.heap.size + 2) 24 (gtab seed k) ∧ Below w.heap.size w wr) (fun i _ => 256 - (intOf i).toNat)
  case atStart =>
    refine ⟨0, by omega, rfl, ?_, ?_, ?_, ?_⟩
    · rw [HS0.out]; exact ((Blk.new _ _ _).alloc _).alloc _
    · have := (Blk.new (w.alloc (Obj.cells #[.int .u64 seed] 22)) z64 24).alloc (Obj.cells z64 24); simpa using this
    · rw [gtab_0]; have := Blk.new ((w.alloc (Obj.cells #[.int .u64 seed] 22)).alloc (Obj.cells z64 24)) z64 24; simpa using this
    · exact (((Below.refl _ _).alloc (Nat.le_refl _) _).alloc (by simp) _).alloc (by simp; omega) _
  case round =>
    obtain ⟨k, hk, rfl, H0, H1, H2, hb⟩ := hrel
    by_cases hlt : k < 256
    · have hc0 := H0.cell 0
      have hf0 := H0.frozen 0
      have HN := hide (gtab_set seed k)
      have HG := hide (show mix (nxt (sd seed k)) = gear seed k from by rw [nxt_sd, gear_eq])
      have HSk := hide (nxt_sd seed k)
      generalize sd seed k = sk at hc0 H0 HG HSk
      have HB : Below w.heap.size w (wr.setCell ⟨w.heap.size, 0, none⟩ (.int .u64 ((nxt sk : Nat) : Int))) := hb.setCell (Nat.le_refl _) _
      have H0' := H0.set 0 (.int .u64 ((nxt sk : Nat) : Int))
      have H1' := H1.other (a := ⟨w.heap.size, 0, none⟩) (by simp) (.int .u64 ((nxt sk : Nat) : Int))
      have H2' := H2.other (a := ⟨w.heap.size, 0, none⟩) (by simp) (.int .u64 ((nxt sk : Nat) : Int))
      have H2'' := H2'.set k (.int .u64 ((gear seed k : Nat) : Int))
      have hc2 := (H2'.cell k).trans (gtab_get hlt)
      have hf2 := H2'.frozen k
      have hc0' : wr.cell? ⟨w.heap.size, 0, none⟩ = some (.int .u64 sk) := hc0
      clear hc0
      go_wp2_with (go_at_call 28; refine (next_any _ sk _ hc0' hf0).mono ?_; rintro e w' ⟨rfl, rfl⟩; rw [HG.out])
      go_roundw
      case rel => exact ⟨k + 1, by omega, by go_num, by rw [← HSk.out]; exact H0'.other (by dsimp only; omega) _, H1'.other (by dsimp only; omega) _, by rw [← HN.out]; exact H2'', HB.setCell (by dsimp only; omega) _⟩
      case measure => simp [intOf] <;> omega
    · have hk8 : k = 256 := by omega
      subst hk8
      clear H0
      go_wp2_with (first | (with_reducible refine wpList_load_row rfl 24 (.tmp 4) rfl (w.heap.size + 2) rfl 24 _ _ _ H2.out Try.underlying24 rfl (by rw [gtab_size]; exact info24) ?_) | (with_reducible refine wpList_store_row rfl 24 (.tmp 2) (.tmp 15) rfl (w.heap.size + 1) (gtab seed 256) rfl rfl 24 _ H1.out (by rw [gtab_size]; exact info24) (by rw [gtab_size]; exact z64_size) (gtab_one seed 256) ?_))
      refine bodyPost_ret (results_cell_row rfl _ _ (w.heap.size + 1) 24 (gtab seed 256) (0, 0) _ rfl (H1.setRow (gtab seed 256)).out Try.underlying24 rfl (by rw [gtab_size]; exact info24)) rfl ?_
      exact ⟨rfl, below_setRow hb (by omega) _⟩
end Go.Proofs.Ytmikeljfigignaa
