/- Sx, part I: which kind of goal stands there (for the walk's choice). -/
import Derived.Test.YtlhebakbbfmiiaaDoorSxH
namespace Go.Sx
section
variable {cx : Cx} {k : List KI} {e : Env} {L : Loc} {F : World → Prop} {Q : Exit → Act → World → Prop} {ops : Array Oper} {l : List Oper} {c : Code} {id fuel : Nat} {listed : Array Bool} {Φ : Loc → (World → Prop) → Prop}
theorem o_id (h : O cx ops l k e L F Q) : O cx ops l k e L F Q := h
theorem g_id (h : G cx c k e L F Q) : G cx c k e L F Q := h
theorem gl_id (h : GL cx c k e L F Q) : GL cx c k e L F Q := h
theorem n_id (h : N cx k e L F Q) : N cx k e L F Q := h
theorem x_id (h : X cx id k e L F Q) : X cx id k e L F Q := h
theorem d_id (h : D cx ops fuel listed k e L F Q) : D cx ops fuel listed k e L F Q := h
theorem rt_id (h : Rt cx L F Φ) : Rt cx L F Φ := h
end
end Go.Sx
