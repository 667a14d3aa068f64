import Derived.Test.YtdajnflppnlhiaaGWMown
set_option linter.unusedVariables false
set_option linter.unusedSimpArgs false
set_option linter.unusedSectionVars false
namespace GW
open Go Go.RowKit
def methI (P:Program)(t:TypeId)(nm:String):Option FuncId :=
 match P.info? t with
 | some i=>match i.methods.find? (·.name==nm) with
  | some m=>match m.path.size,m.func,P.underlying t with
   | 0,some (f,true),some (.pointer _)=>some f
   | 0,some (f,false),some (.struct _)=>some f
   | 0,some (f,false),some (.slice _)=>some f
   | _,_,_=>none
  | none=>none
 | none=>none
theorem run_method {P:Program}{t:TypeId}{nm:String}{f:FuncId}(h:methI P t nm=some f)(v:Value)(w:World):(method (P.types.size+Made.depth) t v nm).run P w = .ok (f,v) w:=by
  unfold methI at h
  split at h
  · rename_i i hi
    split at h
    · rename_i m hm
      have hti:(typeInfo t).run P w = .ok i w:=by
        simp [typeInfo,program,Sem.run,hi]
      show (method ((P.types.size+99)+1) t v nm).run P w=_
      unfold method
      simp only [Sem.run_bind,hti,Result.andThen_ok,hm]
      have key:m.path = #[]→∀ (b:Bool) (g:FuncId),m.func=some (g,b)→((receiverAt t (.val v) b (if m.path.isEmpty then some ((nm.splitOn ".").getLastD nm) else none)).run P w = .ok v w) →
          ((follow m.path.toList t (.val v)).run P w).andThen (fun a w'=>((match a with
            | (xt,x)=>match m.func with
              | none=>do
                match ← x.get xt with
                | .iface t' v'=>method (P.types.size+99) t' v' nm
                | .nilIface=>runtimePanic .nilDeref
                | _=>stuck "method row: interface value expected"
              | some (f,pointerReceiver)=>do
                pure (f, ← receiverAt xt x pointerReceiver (if m.path.isEmpty then some ((nm.splitOn ".").getLastD nm) else none)):Sem (FuncId×Value)).run P w')) = .ok (g,v) w:=by
        intro hp b g hg hr
        rw [hp] at hr ⊢
        simp only [Array.toList_empty,follow,Sem.run_pure,Result.andThen_ok,hg,Sem.run_bind,hr]
      split at h
      · rename_i g e hp hg hu
        obtain rfl:=sI h
        refine key (Array.eq_empty_of_size_eq_zero hp) true _ hg ?_
        simp [receiverAt,run_underlying hu,Place.get,Result.andThen]
      · rename_i g e hp hg hu
        obtain rfl:=sI h
        refine key (Array.eq_empty_of_size_eq_zero hp) false _ hg ?_
        simp [receiverAt,run_underlying hu,Place.get,Result.andThen]
      · rename_i g e hp hg hu
        obtain rfl:=sI h
        refine key (Array.eq_empty_of_size_eq_zero hp) false _ hg ?_
        simp [receiverAt,run_underlying hu,Place.get,Result.andThen]
      · cases h
    · cases h
  · cases h
def IfR (s:List Seg):Mem→Prop:=fun m=>okS m s
theorem IfR.mono (s:List Seg):Mono (IfR s):=fun _ _ hm h=>okS_mono hm h
section
variable {P:Program} {n:Nat} {m:Mem} {w0:Base} {l:List (Nat×D)} {H:List Res} {a:Act} {w:World}
variable {ops:Array Oper} {Q:Exit→Act→World→Prop} {rest:List Oper} {ty:TypeId} {ps:String} {af:Array Edge} {t:Nat}
def noIfc (P:Program)(t:TypeId):Bool:=match P.underlying t with
 | some (.interface _)=>false
 | some _=>true
 | none=>false
theorem run_mkI {xt:TypeId}(h:noIfc P xt=true)(v:Value)(w:World):(Instr.makeInterface xt v).run P w = .ok (.iface xt v) w:=by
 unfold noIfc at h
 unfold Instr.makeInterface
 split at h
 ·cases h
 ·rename_i d hn hu
  simp only [Sem.run_bind,run_underlying hu,Result.andThen_ok]
  rfl
 ·cases h
theorem s_mkI (S:St n m w0 l H a w){xt:TypeId}{x:Operand}{d:D}{s:List Seg}{v:Value}(hx:evo l x=some d)(hs:d.segs=s)(hv:d.val=v)(hu:noIfc P xt=true)(ht:Nat.blt t n=true)
  (K:∀ a',St n m w0 ((t, .rf (.iface xt v) (IfR s))::l) H a' w→wpList P ops Q rest a' w):wpList P ops Q (⟨some t, .makeInterface xt x,ty,ps,af,none⟩::rest) a w:=by
 have hok:=evo_ok S hx
 refine s_run (dv:= .rf (.iface xt v) (IfR s)) S ht ⟨rfl,hs ▸ D.ok_segs hok,IfR.mono s⟩ ?_ K
 have hx':a.eval x=v:=(S.evo hx).trans hv
 simp only [execOp,hx',Sem.run_bind,run_mkI hu,Result.andThen_ok,Sem.run_pure]
 rfl
theorem run_eqIN {xt:TypeId}{ms:Array (String×TypeId)}(hu:P.underlying xt=some (.interface ms))(T:TypeId)(v:Value)(w:World):(Op.equal xt (.iface T v) .nilIface).run P w = .ok false w:=by
 unfold Op.equal Op.maxDepth Op.equalIn
 simp only [Sem.run_bind,run_underlying hu,Result.andThen_ok]
 rfl
theorem s_eqIN (S:St n m w0 l H a w){xt yt T:TypeId}{x y:Operand}{v:Value}{d:D}{ms:Array (String×TypeId)}(hx:evo l x=some d)(hv:d.val = .iface T v)(hy:evo l y=some (.v .nilIface))(hu:P.underlying xt=some (.interface ms))(ht:Nat.blt t n=true)
  (K:∀ a',St n m w0 ((t, .v (.bool false))::l) H a' w→wpList P ops Q rest a' w):wpList P ops Q (⟨some t, .binOp .eql xt x y yt,ty,ps,af,none⟩::rest) a w :=
 s_run (dv:= .v (.bool false)) S ht rfl (by
  have hx':a.eval x = .iface T v:=(S.evo hx).trans hv
  have hy':a.eval y = .nilIface:=S.evo hy
  simp only [execOp,hx',hy']
  simp [eqGuard_at_iface,binOp,run_eqIN hu,D.val,Result.andThen]) K
theorem run_eqNN {xt:TypeId}{ms:Array (String×TypeId)}(hu:P.underlying xt=some (.interface ms))(w:World):(Op.equal xt .nilIface .nilIface).run P w = .ok true w:=by
 unfold Op.equal Op.maxDepth Op.equalIn
 simp only [Sem.run_bind,run_underlying hu,Result.andThen_ok]
 rfl
theorem s_eqNN (S:St n m w0 l H a w){xt yt:TypeId}{x:Operand}{ms:Array (String×TypeId)}(hx:evo l x=some (.v .nilIface))(hu:P.underlying xt=some (.interface ms))(ht:Nat.blt t n=true)
  (K:∀ a',St n m w0 ((t, .v (.bool true))::l) H a' w→wpList P ops Q rest a' w):wpList P ops Q (⟨some t, .binOp .eql xt x (.const .nilIface) yt,ty,ps,af,none⟩::rest) a w :=
 s_run (dv:= .v (.bool true)) S ht rfl (by
  have hx':a.eval x = .nilIface:=S.evo hx
  have hy':a.eval (.const .nilIface) = .nilIface:=rfl
  have hg:(eqGuard .eql xt x (.const .nilIface) .nilIface .nilIface).run P w = .ok () w:=by
   unfold eqGuard
   cases x <;> rfl
  simp only [execOp,hx',hy']
  simp [hg,binOp,run_eqNN hu,D.val,Result.andThen]) K
theorem run_callI {f:FuncId}{T:TypeId}{nm:String}(hf:Fn_ P f)(hm:methI P T nm=some f)(ρ:Operand→Value)(o:Oper)(c:Operand)(xs:List Operand)(ts:Array TypeId)(v:Value)(ho:o.op = .call ⟨.invoke c nm,xs.toArray,ts⟩)(hρ:ρ c = .iface T v)(w:World) :
  (execOp ρ o).run P w = .ok (.enter f (v::xs.map ρ).toArray) w:=by
 obtain ⟨fn,h1,h2,h3⟩:=hf.out
 have h2':fn.body≠none:=by intro e; rw [e] at h2; cases h2
 have h3':fn.name ≠ "runtime.NumGoroutine" := by simpa using h3
 unfold execOp
 simp only [ho,resolve,hρ]
 have hcf:∀ args:Array Value,(callFunc f args).run P w = .ok (.enter f args) w:=fun args=>by
  simp [callFunc,program,Sem.run,h1,h2',h3']
 have hcm:∀ args:Array Value,(callMethod (.iface T v) nm args).run P w = .ok (.enter f (#[v]++args)) w:=fun args=>by
  unfold callMethod
  simp only [Sem.run_bind,run_program,Result.andThen_ok,run_method hm v w,hcf]
 simp only [Sem.run_bind,Sem.run_pure,Result.andThen_ok,invoke]
 have e1:(#[Value.iface T v]++Array.map ρ xs.toArray)[0]?=some (.iface T v):=by simp
 have e2:(#[Value.iface T v]++Array.map ρ xs.toArray).extract 1 (#[Value.iface T v]++Array.map ρ xs.toArray).size=Array.map ρ xs.toArray:=by
  apply Array.ext'
  simp
  rw [List.take_of_length_le (by simp)]
 rw [e1]
 simp only [e2,hcm]
 simp
theorem s_callI {Ch:Type}(S:St n m w0 l H a w){f:FuncId}{T:TypeId}{nm:String}{rc:Operand}{xs:List Operand}{ts:Array TypeId}{v:Value}{R:Mem→Prop}{d0:D}{ds' ds:List D}(Hin Hr:List Res)(d:Ch→D)(Ho Hn:Ch→List Res)(hn:∀ c,Ho c++Hr=Hn c)(hf:Fn_ P f)(hm:methI P T nm=some f)(hr:evo l rc=some (.rf (.iface T v) R))(h0:d0.val=v)(h0k:R m→d0.ok m)(hx:evos l xs=some ds')(hv:ds'.map D.val=ds.map D.val)(hk:okL m ds'→okL m ds)(hs:Sel H (Hin++Hr))(ht:Nat.blt t n=true)
  (hc:okL m (d0::ds)→Pre m Hin w→Calls P f ((d0::ds).map D.val).toArray w (RetX m Hin d Ho w))
  (K:∀ c m' (_:LeM m m') a' w',St n m' w0 ((t,d c)::l) (Hn c) a' w'→wpList P ops Q rest a' w'):wpList P ops Q (⟨some t, .call ⟨.invoke rc nm,xs.toArray,ts⟩,ty,ps,af,none⟩::rest) a w :=
 wpList_plain rfl fun K' hK=>by
  have S1:=S.sub (l':=[]) tv hs
  have hsl:Sel (Hin++Hr) Hin:=by
   clear S1 hc K hs
   induction Hin with
   | nil=>exact .nil
   | cons r T ih=>exact .cons .here ih
  have hok:=evo_ok S hr
  unfold Oper.wp
  rw [run_callI hf hm a.eval _ rc xs ts v rfl (S.evo hr),(S.evos hx).1,Oper.upon_enter,hv, ← h0]
  refine (hc ⟨h0k hok.2.1,hk (okL_all.2 (S.evos hx).2)⟩ (S1.pre hsl)).mono fun e w' ⟨c,m',he,hdk,hp⟩=>?_
  subst he
  exact hK _ _ (K _ _ hp.le _ _ ((hn c ▸ S.afterX hs hp).put ht hdk))
end
end GW
