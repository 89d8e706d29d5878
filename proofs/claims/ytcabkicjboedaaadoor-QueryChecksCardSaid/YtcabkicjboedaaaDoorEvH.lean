import Derived.Test.YtcabkicjboedaaaDoorEvGb
namespace Go.Ev
open Go
/-! ### The verification condition of code -/
def dputW (n : Nat) (d : Option Tmp) (v : AV) (e : Env) (K : Env → Prop) : Prop := match d with
  | none => K e
  | some t => bif Nat.blt t n then K ((t, v) :: e) else False
def guardW (ops : Array Oper) (o : Oper) (e : Env) (X Y : Env → Prop) : Prop := match o.guard with
  | none => X e
  | some (j, want) => match (ops[j]?).bind (·.dst) with
    | none => False
    | some t => match eget e t with
      | .unk => False
      | .und => Y e
      | .val v => mBool v fun b => condP (bif want then b else !b) (X ((t, .val (.bool want)) :: e)) (Y ((t, .val (.bool (!want))) :: e))
def seqW (P : Program) (n : Nat) (ops : Array Oper) (K : Env → World → Prop) : List Oper → Env → World → Prop
  | [], e, w => K e w
  | o :: l, e, w => guardW ops o e (fun e => opW P e o.type (fun v w' => dputW n o.dst (.val v) e fun e' => seqW P n ops K l e' w') w o.op)
      (fun e => dputW n o.dst .und e fun e' => seqW P n ops K l e' w)
def pastW (P : Program) (e : Env) (ty : TypeId) (op : Op) (v : Value) (m : Nat) : Past → Prop → Prop
  | [], K => K
  | (j, W) :: r, K => bif Nat.testBit m j then pastW P e ty op v m r K else mG (opW P e ty (fun v' w'' => v' = v ∧ w'' = W) W op) (pastW P e ty op v m r K)
def pendW (m : Nat) (w' : World) : Pend → Prop → Prop
  | [], K => K
  | (q, ob) :: r, K => bif Nat.testBit m q then pendW m w' r K else mG (ob w') (pendW m w' r K)
def behind (m : Nat) : Past → Bool
  | [] => true
  | (j, _) :: r => Nat.testBit m j && behind m r
def drawW (P : Program) (n : Nat) (ops : Array Oper) (ms : List Nat) (K : Env → World → Prop) : List Oper → Nat → Pend → Past → Env → World → Prop
  | [], _, _, _, e, w => K e w
  | o :: l, i, pend, past, e, w => guardW ops o e (fun e => match cls P o.op with
      | .pure => opW P e o.type (fun v w' => dputW n o.dst (.val v) e fun e' => drawW P n ops ms K l (i + 1) pend past e' w') w o.op
      | .read => opW P e o.type (fun v w' => mG (w' = w) (pastW P e o.type o.op v (ms.getD i 0) past (dputW n o.dst (.val v) e fun e' =>
          drawW P n ops ms K l (i + 1) ((i, fun W => opW P e o.type (fun v' w'' => v' = v ∧ w'' = W) W o.op) :: pend) past e' w'))) w o.op
      | .eff => bif behind (ms.getD i 0) past then opW P e o.type (fun v w' => pendW (ms.getD i 0) w' pend (dputW n o.dst (.val v) e fun e' =>
          drawW P n ops ms K l (i + 1) pend ((i, w) :: past) e' w')) w o.op else False)
      (fun e => dputW n o.dst .und e fun e' => drawW P n ops ms K l (i + 1) pend past e' w)
def runQ (P : Program) (n : Nat) (ops : Array Oper) (ms : List Nat) (past : Past) (w : World) : List Nat → (Pend → Env → Prop) → Pend → Env → Prop
  | [], K, pend, e => K pend e
  | i :: l, K, pend, e => match ops[i]? with
    | none => False
    | some o => guardW ops o e (fun e => match cls P o.op with
        | .pure => opW P e o.type (fun v _ => dputW n o.dst (.val v) e fun e' => runQ P n ops ms past w l K pend e') w o.op
        | .read => opW P e o.type (fun v w' => mG (w' = w) (pastW P e o.type o.op v (ms.getD i 0) past (dputW n o.dst (.val v) e fun e' =>
            runQ P n ops ms past w l K ((i, fun W => opW P e o.type (fun v' w'' => v' = v ∧ w'' = W) W o.op) :: pend) e'))) w o.op
        | .eff => False)
        (fun e => dputW n o.dst .und e fun e' => runQ P n ops ms past w l K pend e')
def stepE (P : Program) (n : Nat) (ops : Array Oper) (ms : List Nat) (i : Nat) (K : Pend → Past → Env → World → Prop) (pend : Pend) (past : Past) (e : Env) (w : World) : Prop := match ops[i]? with
  | none => False
  | some o => guardW ops o e (fun e => opW P e o.type (fun v w' => pendW (ms.getD i 0) w' pend (dputW n o.dst (.val v) e fun e' => K pend ((i, w) :: past) e' w')) w o.op)
      (fun e => dputW n o.dst .und e fun e' => K pend past e' w)
def andW : List Nat → (Nat → Prop) → Prop
  | [], _ => True
  | [i], F => F i
  | i :: j :: l, F => F i ∧ andW (j :: l) F
def enabledW (P : Program) (ops : Array Oper) (ms : List Nat) (l : List Nat) : List Nat := l.filter fun i => isEff P ops i && l.all fun k => !Nat.testBit (ms.getD i 0) k || !isEff P ops k
def allW (P : Program) (n : Nat) (ops : Array Oper) (ms : List Nat) (K : Env → World → Prop) : Nat → List Nat → Pend → Past → Env → World → Prop
  | 0, _, _, _, _, _ => False
  | f + 1, l, pend, past, e, w => bif l.all fun i => !isEff P ops i then runQ P n ops ms past w l (fun _ e => K e w) pend e
      else andW (enabledW P ops ms l) fun i => runQ P n ops ms past w (l.filter fun k => Nat.testBit (ms.getD i 0) k)
        (fun pend e => stepE P n ops ms i (fun pend past e w => allW P n ops ms K f (l.filter fun k => !Nat.testBit (ms.getD i 0) k && k != i) pend past e w) pend past e w) pend e
def pairsB (ms : List Nat) : List Nat → Bool
  | [] => true
  | k :: l => (l.all fun i => Nat.testBit (ms.getD i 0) k) && pairsB ms l
def ordB (P : Program) (ops : Array Oper) : Bool := pairsB (ancs ops.toList) ((List.range ops.size).filter fun i => isEff P ops i)
def backB : List Oper → Nat → Bool
  | [], _ => true
  | o :: l, i => (o.after.toList.all fun e => !Region.binds .any e || Nat.blt e.on i) && backB l (i + 1)
def apartB (ops : Array Oper) (ms : List Nat) : Bool := (List.range ops.size).all fun i => (List.range i).all fun k =>
  Nat.testBit (ms.getD i 0) k || match ops[i]?, ops[k]? with
    | some oi, some ok => ok.apart ops oi
    | _, _ => true
def edgesB (ops : Array Oper) : Bool := Region.noSelect ops && backB ops.toList 0 && apartB ops (ancs ops.toList)

def dsts : List Oper → List Nat
  | [] => []
  | o :: l => match o.dst with
    | none => dsts l
    | some t => t :: dsts l
def mods : Code → List Nat
  | .region _ ops _ => dsts ops.toList
  | .seq a b => mods a ++ mods b
  | .cond _ a b => mods a ++ mods b
  | .block _ a => mods a
  | .loop a => mods a
  | _ => []
def firstRegion : Code → Nat
  | .region id _ _ => id
  | .seq a _ => firstRegion a
  | .cond _ a _ => firstRegion a
  | .block _ a => firstRegion a
  | .loop a => firstRegion a
  | _ => 0
def CurP : Nat → Type
  | 0 => World → Prop
  | k + 1 => Value → CurP k
def CurN : Nat → Type
  | 0 => World → Nat
  | k + 1 => Value → CurN k
def appP : (k : Nat) → CurP k → List Value → World → Prop
  | 0, f, _, w => f w
  | _ + 1, _, [], _ => False
  | k + 1, f, v :: vs, w => appP k (f v) vs w
def appN : (k : Nat) → CurN k → List Value → World → Nat
  | 0, f, _, w => f w
  | _ + 1, _, [], _ => 0
  | k + 1, f, v :: vs, w => appN k (f v) vs w
def allV : Nat → (List Value → Prop) → Prop
  | 0, F => F []
  | k + 1, F => ∀ v : Value, allV k fun vs => F (v :: vs)
def egets (e : Env) : List Nat → Option (List Value)
  | [] => some []
  | t :: l => match (eget e t).opt with
    | none => none
    | some v => match egets e l with
      | none => none
      | some vs => some (v :: vs)
def headE (st : List Nat) (vs : List Value) (ms : List Nat) (e : Env) : Env := match st, vs with
  | t :: st, v :: vs => (t, .val v) :: headE st vs ms e
  | _, _ => forget ms e
where forget : List Nat → Env → Env
  | [], e => e
  | t :: ms, e => (t, .unk) :: forget ms e
def memB : List Nat → Nat → Bool
  | [], _ => false
  | t' :: l, t => Nat.beq t' t || memB l t
def subB : List Nat → List Nat → Bool
  | [], _ => true
  | t :: l, ms => memB ms t && subB l ms
structure KK where
  nx : Env → World → Prop
  ret : Env → World → Prop
  ex : Nat → Env → World → Prop
def look : List (Nat × List Nat) → Nat → List Nat
  | [], _ => []
  | (j, l) :: r, i => bif Nat.beq j i then l else look r i
def vc (P : Program) (n : Nat) (hs : List (Nat × List Nat)) : Code → KK → Env → World → Prop
  | .skip, k, e, w => k.nx e w
  | .label _, k, e, w => k.nx e w
  | .region _ ops d, k, e, w => bif d then (bif P.follows .mixedOrders && edgesB ops then (bif ordB P ops then drawW P n ops (ancs ops.toList) k.nx ops.toList 0 [] [] e w.drew else allW P n ops (ancs ops.toList) k.nx (ops.size + 1) (List.range ops.size) [] [] e w.drew) else False) else seqW P n ops k.nx ops.toList e w
  | .seq a b, k, e, w => vc P n hs a { nx := fun e w => vc P n hs b k e w, ret := k.ret, ex := k.ex } e w
  | .cond c x y, k, e, w => mO (oev e c) fun c => mBool c fun b => condP b (vc P n hs x k e w) (vc P n hs y k e w)
  | .block id c, k, e, w => vc P n hs c { nx := k.nx, ret := k.ret, ex := fun i e w => bif Nat.beq i id then k.nx e w else k.ex i e w } e w
  | .loop body, k, e, w => bif subB (look hs (firstRegion body)) (mods body) then mO (egets e (look hs (firstRegion body))) fun vs0 =>
      ∃ (I : CurP (look hs (firstRegion body)).length) (μ : CurN (look hs (firstRegion body)).length), appP _ I vs0 w ∧
        allV (look hs (firstRegion body)).length fun vs => ∀ w : World, appP _ I vs w →
          vc P n hs body { nx := fun e' w' => mO (egets e' (look hs (firstRegion body))) fun vs' => appP _ I vs' w' ∧ appN _ μ vs' w' < appN _ μ vs w, ret := k.ret, ex := k.ex }
            (headE (look hs (firstRegion body)) vs (mods body) e) w
      else False
  | .exit id, k, e, w => k.ex id e w
  | .ret, k, e, w => k.ret e w
  | _, _, _, _ => False
def resW (P : Program) : List ResultVar → Env → World → (List Value → Prop) → Prop
  | [], _, _, K => K []
  | .tmp t :: l, e, w, K => mO (eget e t).opt fun v => resW P l e w fun vs => K (v :: vs)
  | .cell t ty :: l, e, w, K => mO (eget e t).opt fun p => mO (shp P ty) fun s => mPtr p fun a => match s with
    | none => mO (w.cell? a) fun v => resW P l e w fun vs => K (v :: vs)
    | some n => mO (cellsAt w a 0 n) fun cs => resW P l e w fun vs => K (.agg cs.toArray :: vs)
def retV : List Value → Value
  | [v] => v
  | vs => .tuple vs.toArray
def env0 : List Value → Nat → Env
  | [], _ => []
  | v :: vs, i => (i, .val v) :: env0 vs (i + 1)
def fnVC (P : Program) (fn : Func) (hs : List (Nat × List Nat)) (c : Code) (args : List Value) (w : World) (Q : Value → World → Prop) : Prop :=
  vc P fn.ntmps hs c { nx := fun e w => resW P fn.results.toList e w fun vs => Q (retV vs) w, ret := fun e w => resW P fn.results.toList e w fun vs => Q (retV vs) w, ex := fun _ _ _ => False } (env0 args 0) w
end Go.Ev
