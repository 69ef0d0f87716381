/- States: the plain law: their bytes, their reading. Printed by gen_st.py. No conditions. -/
import Derived.Test.YtocbjadhcfjfiaaCodN
import Derived.Test.YtocbjadhcfjfiaaOpenD
namespace Go.Proofs.Ytocbjadhcfjfiaa
open Go.RowKit Go.Eng
set_option linter.unusedVariables false
set_option linter.unusedSimpArgs false
theorem Cod.cong {α : Type} {p : Bs → Option (α × Bs)} {b c : α → Bs} {ok ok' : α → Prop} (h : Cod p b ok) (hb : ∀ x, b x = c x) (ho : ∀ x, ok x ↔ ok' x) : Cod p c ok' :=
  ⟨fun x hx r => by rw [← hb]; exact h.put x ((ho x).2 hx) r, fun l x r e => by rw [← hb]; exact ⟨(ho x).1 (h.inv l x r e).1, (h.inv l x r e).2⟩⟩
theorem bMoves_1 (L : List S.api_Move) : 1 ≤ (bMoves L).length := by
  have := (putN_len (L.length : Nat)).1
  simp only [bMoves, bL, List.length_append]
  omega
theorem ints_cod : Cod pInts bInts (fun L => (∀ x ∈ L, in64 x) ∧ in64 (L.length : Nat)) := list_cod num_cod putN_1
theorem moves_cod : Cod pMoves bMoves (fun L => (∀ x ∈ L, okMove x) ∧ in64 (L.length : Nat)) := list_cod move_cod bMove_1
def fStack (x : S.api_Cell × List Int) : M.api_Stack := ⟨x.1, x.2⟩
def gStack (m : M.api_Stack) : S.api_Cell × List Int := (m.At, m.Bins)
def pStack := mp fStack (nx pCell pInts)
def bStack (m : M.api_Stack) : Bs := bCell m.At ++ bInts m.Bins
def okStack (m : M.api_Stack) : Prop := (okCell m.At ∧ ((∀ x ∈ m.Bins, in64 x) ∧ in64 (m.Bins.length : Nat)))
theorem stack_cod : Cod pStack bStack okStack := (cell_cod.nx ints_cod).mp fStack gStack (fun _ => rfl) (fun _ => rfl)
theorem bStack_1 (m : M.api_Stack) : 1 ≤ (bStack m).length := by
  have := (putN_len m.At.X).1
  simp only [bStack, bPose, bCell, List.length_append]
  omega
def fRobot (x : (((((S.api_Pose × Int) × Int) × List S.api_Move) × Bool) × Int) × Bool) : M.api_Robot := ⟨x.1.1.1.1.1.1, x.1.1.1.1.1.2, x.1.1.1.1.2, x.1.1.1.2, x.1.1.2, x.1.2, x.2⟩
def gRobot (m : M.api_Robot) : (((((S.api_Pose × Int) × Int) × List S.api_Move) × Bool) × Int) × Bool := ((((((m.At, m.Load), m.Job), m.Moves), m.Out), m.Num), m.Stands)
def pRobot := mp fRobot (nx (nx (nx (nx (nx (nx pPose num) num) pMoves) flagP) num) flagP)
def bRobot (m : M.api_Robot) : Bs := bPose m.At ++ putN m.Load ++ putN m.Job ++ bMoves m.Moves ++ putF m.Out ++ putN m.Num ++ putF m.Stands
def okRobot (m : M.api_Robot) : Prop := ((((((okPose m.At ∧ in64 m.Load) ∧ in64 m.Job) ∧ ((∀ x ∈ m.Moves, okMove x) ∧ in64 (m.Moves.length : Nat))) ∧ True) ∧ in64 m.Num) ∧ True)
theorem robot_cod : Cod pRobot bRobot okRobot := ((((((pose_cod.nx num_cod).nx num_cod).nx moves_cod).nx flag_cod).nx num_cod).nx flag_cod).mp fRobot gRobot (fun _ => rfl) (fun _ => rfl)
theorem bRobot_1 (m : M.api_Robot) : 1 ≤ (bRobot m).length := by
  have := (putN_len m.Load).1
  simp only [bRobot, bPose, bCell, List.length_append]
  omega
def fPort (x : (Int × Int) × List Int) : M.api_Port := ⟨x.1.1, x.1.2, x.2⟩
def gPort (m : M.api_Port) : (Int × Int) × List Int := ((m.Bin, m.Active), m.Queue)
def pPort := mp fPort (nx (nx num num) pInts)
def bPort (m : M.api_Port) : Bs := putN m.Bin ++ putN m.Active ++ bInts m.Queue
def okPort (m : M.api_Port) : Prop := ((in64 m.Bin ∧ in64 m.Active) ∧ ((∀ x ∈ m.Queue, in64 x) ∧ in64 (m.Queue.length : Nat)))
theorem port_cod : Cod pPort bPort okPort := ((num_cod.nx num_cod).nx ints_cod).mp fPort gPort (fun _ => rfl) (fun _ => rfl)
theorem bPort_1 (m : M.api_Port) : 1 ≤ (bPort m).length := by
  have := (putN_len m.Bin).1
  simp only [bPort, bPose, bCell, List.length_append]
  omega
def fOrder (x : ((Int × Int) × Int) × Int) : S.api_Order := ⟨x.1.1.1, x.1.1.2, x.1.2, x.2⟩
def gOrder (m : S.api_Order) : ((Int × Int) × Int) × Int := (((m.ID, m.Bin), m.Port), m.State)
def pOrder := mp fOrder (nx (nx (nx num num) num) num)
def bOrder (m : S.api_Order) : Bs := putN m.ID ++ putN m.Bin ++ putN m.Port ++ putN m.State
def okOrder (m : S.api_Order) : Prop := (((in64 m.ID ∧ in64 m.Bin) ∧ in64 m.Port) ∧ in64 m.State)
theorem order_cod : Cod pOrder bOrder okOrder := (((num_cod.nx num_cod).nx num_cod).nx num_cod).mp fOrder gOrder (fun _ => rfl) (fun _ => rfl)
theorem bOrder_1 (m : S.api_Order) : 1 ≤ (bOrder m).length := by
  have := (putN_len m.ID).1
  simp only [bOrder, bPose, bCell, List.length_append]
  omega
def fJob (x : (((((Int × Int) × Int) × Int) × S.api_Cell) × S.api_Cell) × Int) : S.api_Job := ⟨x.1.1.1.1.1.1, x.1.1.1.1.1.2, x.1.1.1.1.2, x.1.1.1.2, x.1.1.2, x.1.2, x.2⟩
def gJob (m : S.api_Job) : (((((Int × Int) × Int) × Int) × S.api_Cell) × S.api_Cell) × Int := ((((((m.ID, m.Kind), m.Order), m.Bin), m.From), m.To), m.Robot)
def pJob := mp fJob (nx (nx (nx (nx (nx (nx num num) num) num) pCell) pCell) num)
def bJob (m : S.api_Job) : Bs := putN m.ID ++ putN m.Kind ++ putN m.Order ++ putN m.Bin ++ bCell m.From ++ bCell m.To ++ putN m.Robot
def okJob (m : S.api_Job) : Prop := ((((((in64 m.ID ∧ in64 m.Kind) ∧ in64 m.Order) ∧ in64 m.Bin) ∧ okCell m.From) ∧ okCell m.To) ∧ in64 m.Robot)
theorem job_cod : Cod pJob bJob okJob := ((((((num_cod.nx num_cod).nx num_cod).nx num_cod).nx cell_cod).nx cell_cod).nx num_cod).mp fJob gJob (fun _ => rfl) (fun _ => rfl)
theorem bJob_1 (m : S.api_Job) : 1 ≤ (bJob m).length := by
  have := (putN_len m.ID).1
  simp only [bJob, bPose, bCell, List.length_append]
  omega
def fState (x : ((((((((Int × Int) × Bool) × List M.api_Stack) × List M.api_Robot) × List M.api_Port) × List S.api_Order) × List S.api_Job) × Int) × Int) : M.api_State := ⟨x.1.1.1.1.1.1.1.1.1, x.1.1.1.1.1.1.1.1.2, x.1.1.1.1.1.1.1.2, x.1.1.1.1.1.1.2, x.1.1.1.1.1.2, x.1.1.1.1.2, x.1.1.1.2, x.1.1.2, x.1.2, x.2⟩
def gState (m : M.api_State) : ((((((((Int × Int) × Bool) × List M.api_Stack) × List M.api_Robot) × List M.api_Port) × List S.api_Order) × List S.api_Job) × Int) × Int := (((((((((m.Seq, m.Epoch), m.Held), m.Stacks), m.Robots), m.Ports), m.Orders), m.Jobs), m.NextOrder), m.NextJob)
def pState := mp fState (nx (nx (nx (nx (nx (nx (nx (nx (nx num num) flagP) (pL pStack)) (pL pRobot)) (pL pPort)) (pL pOrder)) (pL pJob)) num) num)
def bState (m : M.api_State) : Bs := putN m.Seq ++ putN m.Epoch ++ putF m.Held ++ bL bStack m.Stacks ++ bL bRobot m.Robots ++ bL bPort m.Ports ++ bL bOrder m.Orders ++ bL bJob m.Jobs ++ putN m.NextOrder ++ putN m.NextJob
def okState (m : M.api_State) : Prop := (((((((((in64 m.Seq ∧ in64 m.Epoch) ∧ True) ∧ ((∀ x ∈ m.Stacks, okStack x) ∧ in64 (m.Stacks.length : Nat))) ∧ ((∀ x ∈ m.Robots, okRobot x) ∧ in64 (m.Robots.length : Nat))) ∧ ((∀ x ∈ m.Ports, okPort x) ∧ in64 (m.Ports.length : Nat))) ∧ ((∀ x ∈ m.Orders, okOrder x) ∧ in64 (m.Orders.length : Nat))) ∧ ((∀ x ∈ m.Jobs, okJob x) ∧ in64 (m.Jobs.length : Nat))) ∧ in64 m.NextOrder) ∧ in64 m.NextJob)
theorem state_cod : Cod pState bState okState := (((((((((num_cod.nx num_cod).nx flag_cod).nx (list_cod stack_cod bStack_1)).nx (list_cod robot_cod bRobot_1)).nx (list_cod port_cod bPort_1)).nx (list_cod order_cod bOrder_1)).nx (list_cod job_cod bJob_1)).nx num_cod).nx num_cod).mp fState gState (fun _ => rfl) (fun _ => rfl)
end Go.Proofs.Ytocbjadhcfjfiaa
