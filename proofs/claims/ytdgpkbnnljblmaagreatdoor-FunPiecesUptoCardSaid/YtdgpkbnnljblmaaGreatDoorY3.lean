/- Y3 -/
import Derived.Test.YtdgpkbnnljblmaaGreatDoorY2
namespace Go.Proofs.YtdgpkbnnljblmaaGreatDoor
open Go Go.Ev Go.Lib
def okd (d : Dec) : Prop := okD d ∧ I64 d.M
theorem okdI {n : Int} (h : I64 n) : okd ⟨n, 0⟩ := ⟨okInt n, h⟩
theorem foldX_inl {A S Y : Type} (f : S → A → S) (fin : S → Y) : ∀ (l : List A) (s : S), foldX (fun s a => .inl (f s a)) fin s l = fin (l.foldl f s)
  | [], _ => rfl
  | a :: l, s => by simp only [foldX, List.foldl_cons]; exact foldX_inl f fin l _
end Go.Proofs.YtdgpkbnnljblmaaGreatDoor
