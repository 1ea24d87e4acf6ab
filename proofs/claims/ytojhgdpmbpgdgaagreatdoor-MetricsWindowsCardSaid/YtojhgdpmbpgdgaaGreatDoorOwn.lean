/-
  The two calls of the library that are told hold.
-/
import Derived.Test.YtojhgdpmbpgdgaaGreatDoorBase
import Derived.Test.YtojhgdpmbpgdgaaGreatDoorKeys
import Derived.Test.YtojhgdpmbpgdgaaGreatDoorRi9
namespace Go.Proofs.YtojhgdpmbpgdgaaGreatDoor
open Go Go.Ri Go.RowKit Go.Maps Go.Sort Go.Shelf

theorem join0 : JoinOk Tryz.prog 23 :=
  ⟨fun a c sep w => Any.strings_Join_none Tryz.lays156 Tryz.Builder_Extra_156 a c sep w,
   fun bk o c xs sep w h1 h2 h3 h4 h5 => Any.strings_Join Tryz.lays156 Tryz.Builder_Extra_156 bk o c xs sep w h1 h2 h3 h4 h5⟩

set_option maxHeartbeats 1000000 in
theorem keys0 : KeysOk Tryz.prog 76 124 9 := by
  intro Bm b nn D0 R w hBm hm hown hmax hbytes
  have hseq : SeqGives Fence.wide 2 Tryz.prog 124 #[.pointer (some ⟨Bm, 0, none⟩)] encStr (fun ss => ss.Perm (strKeys D0)) (Maps.size D0) w :=
    AnyZ.keys_gives (ρ := Tryz.keys77_ren) { Tryz.keys77 with } Fence.wide _ trivial rfl (by omega) Bm b nn D0 w hBm hm hown
  refine (callsIn_wide (n := 5)).1 ?_
  exact AnyZ.sorted_in Tryz.sorted76 Fence.wide 5 trivial trivial trivial trivial rfl (by omega) (Tryz.sorts76 _) (enters_of Tryz.func123 (by kernel_rfl) rfl) 124 #[.pointer (some ⟨Bm, 0, none⟩)] trivial (enters_of Tryz.func124 (by kernel_rfl) rfl) _ _ hmax hbytes _ hseq

theorem own0_ok {σ : Int → Int} : OwnOk σ C0 Tryz.prog := by
  intro f g hg args h v h' ht
  have hg : own0 f = some g := hg
  unfold own0 at hg
  split at hg
  · cases hg; exact join_told join0 ht
  · cases hg; exact keys_told Tryz.underlying9 (by kernel_rfl) keys0 ht
  · cases hg
end Go.Proofs.YtojhgdpmbpgdgaaGreatDoor
