/- Contracts of the queue's methods, part f: each theorem says its own conditions. -/
import Derived.Test.YtfhfeelkjpcogaaFe
import Derived.Lib.SlBytesConst
namespace Go.Proofs.Ytfhfeelkjpcogaa.Fifo
open Go.RowKit Go.Proofs.YtfhfeelkjpcogaaW.PrintWords Go.Proofs.YtfhfeelkjpcogaaW.PrintLast Go.Proofs.Ytfhfeelkjpcogaa.Mem
set_option linter.unusedVariables false
set_option linter.unusedSimpArgs false

theorem one_byte (w : World) (x : Int) : (Kd.int .u8).C (w.alloc (.cells #[.int .u8 x] 5 (1, 2))) (some ⟨w.heap.size, 0, none⟩) 1 [x] := by
  refine ⟨rfl, by omega, fun _ => ⟨_, rfl, fun j p hj => ⟨[.int .u8 p], rfl, rfl, fun i u hu => ?_⟩⟩⟩
  have hj0 : j = 0 := by
    have := (List.getElem?_eq_some_iff.1 hj).1
    simpa using this
  have hi0 : i = 0 := by
    have := (List.getElem?_eq_some_iff.1 hu).1
    simpa using this
  subst hj0 hi0
  simp at hj hu
  subst hj hu
  exact World.news_of_block (cs := #[.int .u8 x]) (t := 5) (fr := (1, 2)) (heap_alloc_new w _) 0 _ rfl

/-- Whatever is new belongs to the call. -/
theorem IsQ.widen {B B' : Nat} {w : World} {base g : Nat} {most d : Int} {U W : List (List Int)} (h : IsQ (fun k => B ≤ k ∨ B' ≤ k) w base g most U W d) (hB : B ≤ B') :
    IsQ (fun k => B ≤ k) w base g most U W d := h.mono (fun k hk => by rcases hk with hk | hk <;> omega)

set_option maxHeartbeats 3200000 in
set_option maxRecDepth 100000 in
theorem queues_any (w : World) : Calls Try.prog 12 #[] w fun e w' => e = .returned (.bool true) ∧ Below w.heap.size w w' := by
  have kc := fun (w : World) (C : Array Value) (n c : Nat) => Lib.run_convert_bytes_const (P := Try.prog) w 34 5 C n c Try.underlying34 Try.underlying5
  go_enter Try.func12, Try.ntmps12
  go_wp2_with fail
  refine (new_any 1 w (by omega) (by omega)).mono ?_
  rintro e w1 ⟨g, rfl, hI, hB⟩
  have HI := Aside0.mk hI
  have HB := Aside0.mk hB
  have hz := hB.size
  clear hI hB
  go_wp2_with fail
  refine (send_ok _ 1 1 [97] (by omega) (one_byte _ _) (HI.out.below (below_alloc (Below.refl _ _) _)) (by simp; omega) (by simp) (by omega) (by omega) (by simp)).mono ?_
  rintro e w2 ⟨rfl, hI, hC⟩
  have HI2 := Aside0.mk (hI.widen (by simp; omega))
  have HB2 := Aside0.mk (HB.out.trans (((below_alloc (Below.refl _ _) _).mono hz).trans (hC.below (by simp; omega) (fun i hi => hi))))
  have hz2 := HB2.out.size
  clear hI hC
  go_wp2_with fail
  refine (send_full _ 1 1 (by omega) (HI2.out.below (below_alloc (Below.refl _ _) _)) (by simp) (by omega) (by omega) (by simp)).mono ?_
  rintro e w3 ⟨rfl, nq, hw⟩
  have HI3 := Aside0.mk (show IsQ _ w3 _ g 1 _ _ _ from hw ▸ ((HI2.out.below (below_alloc (Below.refl _ _) _)).drewN nq))
  have HB3 := Aside0.mk (show Below w.heap.size w w3 from hw ▸ (pw_below_drewN (HB2.out.trans ((below_alloc (Below.refl _ _) _).mono hz2)) nq))
  have hz3 := HB3.out.size
  clear hw
  go_wp2_with fail
  refine (poll_none HI3.out).mono ?_
  rintro e w4 ⟨rfl, rfl⟩
  go_wp2_with fail
  refine (deliver_some HI3.out hz3 (by omega) (by omega) (by simp)).mono ?_
  rintro e w4 ⟨rfl, hI, hC⟩
  have HI4 := Aside0.mk (hI.widen hz3)
  have HB4 := Aside0.mk (HB3.out.trans (hC.below hz3 (fun i hi => hi)))
  have hz4 := HB4.out.size
  clear hI hC
  go_wp2_with fail
  refine (poll_some HI4.out).mono ?_
  rintro e w5 ⟨v, rfl, hI, hR, hC⟩
  have HI5 := Aside0.mk hI
  have HB5 := Aside0.mk (HB4.out.trans (hC.below hz4 (fun i hi => hi ▸ (by obtain ⟨_, _, _, hg, _⟩ := HI4.out; exact hg))))
  obtain ⟨A, c, rfl, hc, hCv⟩ := Kd.R_reads hR
  have hcs : ∀ m, (convert 34 9 (.slice A 1 c)).run Try.prog (w5.drewN m) = .ok (.string (strOfNums [97])) (w5.drewN m) := fun m => Kd.C_string Try.underlying34 Try.underlying5 Try.underlying9 (Kd.C_below hCv (pw_below_drewN (Below.refl _ _) m))
  have hcs0 : (convert 34 9 (.slice A 1 c)).run Try.prog w5 = .ok (.string (strOfNums [97])) w5 := hcs 0
  have hs97 : strOfNums [97] = ⟨#[97]⟩ := by kernel_rfl
  rw [hs97] at hcs hcs0
  clear hI hR hC hCv hs97
  go_wp2_with fail
  refine (kept_any HI5.out (by simp) (by omega) (by omega)).mono ?_
  rintro e w6 ⟨rfl, nq, hw⟩
  have HB6 := Aside0.mk (show Below w.heap.size w w6 from hw ▸ (pw_below_drewN HB5.out nq))
  clear hw
  go_wp2
  go_ret
  exact ⟨rfl, HB6.out⟩

/-! ### No queue -/
theorem nil_send (A : Option Addr) (n c : Nat) (w : World) : Calls Try.prog 13 #[.pointer none, .slice A n c] w fun e w' => e = .returned (.int .i64 1) ∧ w = w' := by
  go_enter Try.func13, Try.ntmps13
  go_wp2
  go_ret
  exact ⟨rfl, rfl⟩
theorem nil_deliver (w : World) : Calls Try.prog 14 #[.pointer none] w fun e w' => e = .returned (.int .i64 1) ∧ w = w' := by
  go_enter Try.func14, Try.ntmps14
  go_wp2
  go_ret
  exact ⟨rfl, rfl⟩
theorem nil_poll (w : World) : Calls Try.prog 15 #[.pointer none] w fun e w' => e = .returned (.tuple #[.slice none 0 0, .bool false]) ∧ w = w' := by
  go_enter Try.func15, Try.ntmps15
  go_wp2
  go_ret2
  exact ⟨rfl, rfl⟩
theorem nil_ack (n : Int) (w : World) : Calls Try.prog 18 #[.pointer none, .int .i64 n] w fun e w' => e = .returned (.int .i64 1) ∧ w = w' := by
  go_enter Try.func18, Try.ntmps18
  go_wp2
  go_ret
  exact ⟨rfl, rfl⟩
theorem nil_kept (w : World) : Calls Try.prog 17 #[.pointer none] w fun e w' => e = .returned (.int .i64 0) ∧ w = w' := by
  go_enter Try.func17, Try.ntmps17
  go_wp2
  go_ret
  exact ⟨rfl, rfl⟩
theorem nil_under (w : World) : Calls Try.prog 16 #[.pointer none] w fun e w' => e = .returned (.int .i64 0) ∧ w = w' := by
  go_enter Try.func16, Try.ntmps16
  go_wp2
  go_ret
  exact ⟨rfl, rfl⟩
theorem nil_waiting (w : World) : Calls Try.prog 20 #[.pointer none] w fun e w' => e = .returned (.int .i64 0) ∧ w = w' := by
  go_enter Try.func20, Try.ntmps20
  go_wp2
  go_ret
  exact ⟨rfl, rfl⟩
theorem none_any (w : World) : Calls Try.prog 19 #[] w fun e w' => e = .returned (.pointer none) ∧ w = w' := by
  go_enter Try.func19, Try.ntmps19
  go_wp2
  go_ret
  exact ⟨rfl, rfl⟩

end Go.Proofs.Ytfhfeelkjpcogaa.Fifo
