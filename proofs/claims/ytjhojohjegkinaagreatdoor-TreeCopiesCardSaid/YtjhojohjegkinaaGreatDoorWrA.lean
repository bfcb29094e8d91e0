/-
  append of noughts ('append(b, make([]byte, n)...)'): its run, by name.
  (*File).WriteAt: its contract.
  An open file's write, where it writes; a kern's Write to one.
-/
import Derived.Test.YtjhojohjegkinaaGreatDoorAppA
import Derived.Lib.AppendZerosOnto
import Derived.Test.YtjhojohjegkinaaGreatDoorNewA
import Derived.Laws.CopyOwn
import Derived.Deep.RegionWith
namespace Go.Proofs.YtjhojohjegkinaaGreatDoor
open Go Go.RowKit

section


noncomputable def azRun (w : World) (v x : Value) : Result Value := (Builtin.append_ #[44, 3] 44 #[v, x]).run Tryz.prog w
noncomputable def azA (w : World) (v x : Value) : Option Addr := match azRun w v x with | .ok (.slice a _ _) _ => a | _ => none
noncomputable def azN (w : World) (v x : Value) : Nat := match azRun w v x with | .ok (.slice _ n _) _ => n | _ => 0
noncomputable def azC (w : World) (v x : Value) : Nat := match azRun w v x with | .ok (.slice _ _ c) _ => c | _ => 0
noncomputable def azW (w : World) (v x : Value) : World := match azRun w v x with | .ok _ w' => w' | _ => w
def AzOk (w : World) (v x : Value) : Prop := ∃ a n c w', azRun w v x = .ok (.slice a n c) w'

theorem azOk_run {w : World} {v x : Value} (h : AzOk w v x) : azRun w v x = .ok (.slice (azA w v x) (azN w v x) (azC w v x)) (azW w v x) := by
  obtain ⟨a, n, c, w', h⟩ := h
  unfold azA azN azC azW
  rw [h]

theorem az_rule {w : World} {a : Act} {d : Option Tmp} {s t : Nat} {pos : String} {af : Array Edge} {g : Option (Nat × Bool)} (h : AzOk w (a.eval (.tmp s)) (a.eval (.tmp t))) :
    (execOp a.eval ⟨d, .call { callee := .builtin .append, args := #[.tmp s, .tmp t], argTypes := #[44, 3] }, 44, pos, af, g⟩).run Tryz.prog w =
      .ok (.value (.slice (azA w (a.eval (.tmp s)) (a.eval (.tmp t))) (azN w (a.eval (.tmp s)) (a.eval (.tmp t))) (azC w (a.eval (.tmp s)) (a.eval (.tmp t))))) (azW w (a.eval (.tmp s)) (a.eval (.tmp t))) := by
  have hr := azOk_run h
  unfold azRun at hr
  unfold execOp
  simp only [resolve, invoke, builtin, Sem.run_bind, Sem.run_pure, Result.andThen_ok, List.map_toArray, List.map_cons, List.map_nil, hr]

end

section
/-- A file's bytes behind a write. -/
def putAt (d : List UInt8) (pos : Nat) (b : List UInt8) : List UInt8 := (d ++ List.replicate (pos + b.length - d.length) 0).take pos ++ b ++ (d ++ List.replicate (pos + b.length - d.length) 0).drop (pos + b.length)







section
attribute [local go_sem ↓] az_rule
end
end

section



/-- The kern with a file written to. -/
def Ks.wrote (K : Ks) (b0 : Nat) (f : Fl) (d : Nd) (bv : Value) (p : Nat) (b : List UInt8) : Ks :=
  { K with T := K.T.setData f.node d bv (putAt d.data p b), fl := setFl K.fl b0 { f with pos := ((p + b.length : Nat) : Int) } }




end
end Go.Proofs.YtjhojohjegkinaaGreatDoor
