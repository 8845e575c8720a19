/- slices.Sort at numbers of less than 50, as a contract; a wheel's Tick whatever is due. Each theorem says its own conditions. -/
import Derived.Test.YtjiligngjlejmaaSi
import Derived.Test.YtjiligngjlejmaaHg
import Derived.BigQuiet
import Derived.CellFam
import Derived.Sort.WalkA
import Derived.Sort.WalkA6
namespace Go.Proofs.Ytjiligngjlejmaa.Srt
open Go.Shelf Go.RowKit Go.Sort Go.Proofs.Ytjiligngjlejmaa.Mem Go.Proofs.Ytjiligngjlejmaa.Vit Go.Proofs.YtjiligngjlejmaaW.PrintWords Go.Proofs.YtjiligngjlejmaaW.PrintLast Go.Proofs.YtjiligngjlejmaaW.PrintMore
set_option linter.unusedVariables false
set_option linter.unusedSimpArgs false

set_option maxHeartbeats 3200000 in
set_option maxRecDepth 100000 in
theorem sort16 (blk off cap : Nat) (d : Array Int) (w : World) (hH : Holds e16 w blk off d) (hblk : blk < w.heap.size) (h50 : d.size < 50) :
    Calls Try.prog 18 #[.slice (some ⟨blk, off, none⟩) d.size cap] w fun e w' => e = .returned (.tuple #[]) ∧ AtB w blk off d (Sort.sort ltInt d) w' := by
  have hLen : Calls Try.prog 22 #[.int .u64 (d.size : Int)] w fun e w' => e = .returned (.int .i64 (bitsLen d.size : Nat)) ∧ w' = w := by
    have h := Any.bits_Len Try.lays125 (d.size : Int) w (by omega) (by omega)
    change Calls Try.prog 22 _ _ _ at h
    rwa [Int.toNat_natCast, bitLen_eq _ (by omega)] at h
  have hk : bitsLen d.size ≤ 6 := (bitsLen_le_iff d.size 6).2 (by omega)
  have hp := pdq16 d.size blk off cap 0 d.size (bitsLen d.size) d w rfl hH hblk (Nat.zero_le _) (Nat.le_refl _) h50 (by omega) (by omega) (Or.inl rfl)
  rw [show ((0 : Nat) : Int) = 0 from rfl] at hp
  have HP := Aside0.mk hp
  obtain ⟨bl, hbl⟩ : ∃ bl, bitsLen d.size = bl := ⟨_, rfl⟩
  unfold Sort.sort
  rw [hbl] at hLen HP hk ⊢
  clear hp hH hbl
  go_enter Try.func18, Try.ntmps18
  go_wp2_with (first | (go_at_call 22; refine hLen.mono ?_; rintro e w2 ⟨rfl, rfl⟩) | (go_at_call 21; refine HP.out.mono ?_; rintro e w3 ⟨rfl, q⟩))
  all_goals (first | go_ret | go_end0 | refine bodyPost_ret (results_none rfl _ _ _) rfl ?_)
  all_goals (exact ⟨rfl, q⟩)
/-- A list of numbers, sorted. -/
def srt (l : List Nat) : List Nat := l.mergeSort (fun x y => decide (x ≤ y))
theorem srt_len (l : List Nat) : (srt l).length = l.length := List.length_mergeSort _
theorem ints_srt (l : List Nat) : ints (srt l) = (ints l).mergeSort (fun x y => decide (x ≤ y)) := by
  unfold ints srt
  refine List.map_mergeSort (fun a _ b _ => ?_)
  simp
theorem sort_any {base g o cap : Nat} {ok : Nat → Prop} (ds : List Nat) (w : World) (hq : (Kd.int .u16).Q 29 w base ok (.slice (some ⟨g, o, none⟩) ds.length cap) (ints ds)) (h50 : ds.length < 50) (hg : g < w.heap.size) :
    Calls Try.prog 18 #[.slice (some ⟨g, o, none⟩) ds.length cap] w fun e w' => e = .returned (.tuple #[]) ∧ (Kd.int .u16).Q 29 w' base ok (.slice (some ⟨g, o, none⟩) ds.length cap) (ints (srt ds)) ∧ Chg (fun k => k = g) w w' := by
  have h := sort16 g o cap (ints ds).toArray w (holds_of_Q hq) hg (by rw [List.size_toArray, ints_len]; exact h50)
  rw [List.size_toArray, ints_len] at h
  refine h.mono ?_
  rintro e w' ⟨he, hA⟩
  obtain ⟨W0, h0, hB⟩ := hA.ex
  obtain ⟨q, rfl⟩ := h0.world
  have hs : Sort.sort ltInt (ints ds).toArray = (ints (srt ds)).toArray := by
    rw [ints_srt, ← sortInt (ints ds)]
  rw [hs] at hB
  have hQ1 : (Kd.int .u16).Q 29 (Sort.ahead w q) base ok (.slice (some ⟨g, o, none⟩) ds.length cap) (ints ds) := Kd.Q_step hq (fun _ _ _ => rfl)
  have hQ2 := Q_deleted (ys := ints (srt ds)) (zs := []) hQ1 (by rw [List.append_nil, ints_len, ints_len, srt_len])
  rw [List.append_nil, ints_len, srt_len] at hQ2
  refine ⟨he, Kd.Q_below hQ2 hB, ?_⟩
  have hC : Chg (fun k => k = g) w (Sort.putRow (Value.int .u16) (Sort.ahead w q) g o (ints (srt ds)).toArray) := by
    rw [putRow_setCells]
    obtain ⟨s1, s2, s3, s4⟩ := setCells_same g ((ints (srt ds)).toArray.toList.map (Value.int .u16)) o (Sort.ahead w q)
    exact ⟨s1, s2, s3, by rw [s4]; exact Nat.le_refl _, fun k _ hk => (setCells_far _ _ _ hk)⟩
  exact hC.trans (Chg.of_below hB (fun _ => False)) (fun _ _ hf => hf.elim)
end Go.Proofs.Ytjiligngjlejmaa.Srt
