/- A part of the proof of InstancesLastUptoSaid: see the last text. -/
import Derived.Test.YtpeialehpoilbaaGreatAb
import Derived.Orders
set_option linter.all false
noncomputable section
set_option maxRecDepth 100000
open Array renaming getElem?_setIfInBounds_ne->wC,getElem?_eq_some_iff->zd,getD_eq_getD_getElem?->wT,mem_of_getElem?->wA,replicate->xM
open Bool renaming and_eq_true->zX,false->G,true->Y,or_eq_true->wO
open Go renaming Act->uv,Deferred->zc,Frame->yW,Item->vH,Oper->yH,Operand->zh,PanicEntry->zO,Program->zo,Steps->xE,TypeId->zQ,Value->E,World->zu,execOp->zw,invoke->uG,lone->yX,step->ub,stepGR_op->vr,step_lone_go->ym,tryRecover->wS,undef->yh,yielded->wX,Tmp->xw,getD_set_ne->uX,mem_ready->tY,Code->yG,stepG->vc,FuncId->zZ,exitTo->tk,Func->xZ,ResultVar->yR,results->sG,unwind->uz,doReturn->vd,step_leave_panicked->sv,FieldStep->w8
open Go.Am.ai renaming cells->K
open Go.CallKind renaming normal->wR
open Go.Deferred renaming ofValue->yr
open Go.Fn renaming func->za,yield->yc
open Go.Frame renaming atR->xL,raise_atR->tz,enter->wj
open Go.FrameMode renaming panicking->vM
open Go.Item renaming inRegion->yC,code->xG,inRangeFunc->wI,inBlock->vZ,inLoop->vE,inScope->uj,beginRound->uU
open Go.Op renaming defer->uN
open Go.Oper renaming semAt_eq->w6
open Go.Region renaming wanted->yw,binds->ss,ready->yQ,schedule->tj
open Go.Sem renaming runT_eq->yz,run_bind->zn,run_pure->yA
open Go.Stepped renaming next->vP
open Go.Steps renaming head->vt,one->xg,trans->wi
open Go.Value renaming func->zU,nilIface->wo,tuple->xC,bool->zP,int->yV
open Go.stepG renaming apply->xo,exec->vD
open List renaming all_eq_true->wH,length->I,mem_cons->zp,getElem?_drop->vz,range'->uH,tail_drop->sq,countP_cons->sF,countP_eq_zero->tQ,getElem?_eq_none_iff->vA,mem_of_getElem?->vW,mem_range->uO,reverse_singleton->uh,singleton_append->uw,mapM_cons->su,getElem?_eq_getElem->zm,append_nil->ye,nil_append->xB
open Option renaming none->U,some->O,getD_some->vx
open Or renaming inl->zq,inr->zt
open Nat renaming beq->zV,eq_of_testBit_eq->xd,land->tP,le_refl->zR,lor->zi,one_shiftLeft->sC,sub->sE,testBit_and->ud,lt_trichotomy->w7,strongRecOn->uL,zero_add->xF,zero_le->ya,le_trans->yd,ble->ze,ble_eq_true_of_le->zb,lt_succ_self->yL,or_eq_zero_iff->vg
open Go.Obj renaming cells->yP,loop->wh,deferred->vK
open Go.Region.Mode renaming any->x8
open Go.Code renaming rangeFunc->v7
open Go.GStep renaming bare_after->xY
open Go.Instr renaming endLoop->uT,enterLoop->wN,getLoop->wx,takeDeferred->vX,beginRound->v8,endRound->x7
open Go.LoopState renaming busy->wP,exhausted->xU,ready->wM
open Go.Target renaming collected->xV
open Go.Result renaming andThen_ok->zY
open Decidable renaming decide->yF
open Classical renaming choose->yE,choose_spec->zk
open Go
variable{n k m i j:Nat}
variable{h g:Go.Am.H}
variable{v N:Go.Value}
variable{r q:Go.Am.Tr Go.Value}
variable{V:Go.Am.zC->Go.Am.ag}
variable{u:Go.Am.M}
variable{b:Bool}
variable{t s:Go.TypeId}
variable{W:Go.World}
variable{B:Nat->Option Go.Am.ai}
variable{l p:List Go.Value}
variable{x:Go.Code}
variable{f:Go.FuncId}
variable{o:Option (List Go.PanicEntry)}
variable{X:List Go.Deferred}
variable{A:Type}
variable{R:A->List Go.Value}
variable{L:A->Prop}
namespace Go.Am
section
variable{T:au}{P:zo}
def Y9{o:yH}{r:aK}(e:Am.execOp T q o.type h o.op=.of r)(a:r≠ .f):∀c,o.op≠ uN c:=by
 let⟨dst,i,type,pos,after,guard⟩:=o;rintro c rfl;let⟨callee,b,j⟩:=c;have e:Et q callee (ei q b.toList)=.of r:=e;cases d:ei q b.toList with
 |none=>rw[d]at e;injection e with e;exact a e.symm
 |some l=>
  rw[d]at e;cases callee with
  |value f=>
   have e:Bj l (aA q f)=.of r:=e;cases g:aA q f with
   |none=>rw[g]at e;injection e with e;exact a e.symm
   |some u=>rw[g]at e;cases e
  |_=>injection e with e;exact a e.symm
section steps
variable{b:yW}{a:uv}{k:List vH}{cs:List yW}{w w':zu}{ops:Array yH}{i:Nat}{rest:List Nat}{o:yH}
def finish_at(c:ops[i]?=O o)(v:E):(b.atR a (yC ops (i::rest)::k)).finish v=b.atR (a.put o.dst v) (yC ops rest::k):=by rw[Frame.finish_atR,c];rfl
def aad(e:ops[i]?=O o)(f:yw o (wX ops a.tmps)=Y)(g:∀c,o.op≠ uN c)
 (d:(zw a.eval o).run P w=.ok (.value v) w'\/((zw a.eval o).run P w=.ok .skip w'/\v=yh)):
 ub P (yX (b.atR a (yC ops (i::rest)::k)) cs w)=vP (yX (b.atR (a.put o.dst v) (yC ops rest::k)) cs w'):=by
 refine ym ?_;rw[vr e f,<-finish_at e v,w6 _ _ _ g];rcases d with d|⟨d,rfl⟩<;>simp[xo,yz,d]
def Js(g:ops[i]?=O o)(h:yw o (wX ops a.tmps)=Y)(j:∀c,o.op≠ uN c){e:Next}{d:yW}
 (l:(zw a.eval o).run P w=.ok e w')(f:D6 P wR e=O d):
 ub P (yX (b.atR a (yC ops (i::rest)::k)) cs w)=vP (yX d (b.atR a (yC ops (i::rest)::k)::cs) w'):=by
 refine ym ?_;rw[vr g h,w6 _ _ _ j]
 cases e<;>first
  |(cases f;done)
  |(cases f;simp[xo,yz,l,xL])
def step_defer(c:ops[i]?=O o)(e:yw o (wX ops a.tmps)=Y)(f:b.roundOf=U){d:zc}(g:(zw a.eval o).run P w=.ok (.defer d) w'):
 ub P (yX (b.atR a (yC ops (i::rest)::k)) cs w)=vP (yX (b.atR ({a with defers:=d::a.defers}.put o.dst yh) (yC ops rest::k)) cs w'):=by
 refine ym ?_;rw[vr c e,f,Oper.semAt_none];have:=finish_at (b:=b) (a:={a with defers:=d::a.defers}) (k:=k) (rest:=rest) c yh;rw[<-this];simp[xo,yz,g,xL]
def ahR(d:ops[i]?=O o)(e:yw o (wX ops a.tmps)=Y)(f:∀c,o.op≠ uN c)(g:(zw a.eval o).run P w=.halt (.panic v) w'):
 ub P (yX (b.atR a (yC ops (i::rest)::k)) cs w)=vP (yX {b.atR a (yC ops (i::rest)::k)with mode:=vM [⟨v,G,G⟩]} cs w'):=by
 refine ym ?_;rw[vr d e,w6 _ _ _ f];simp[xo,yz,g,Frame.raise,xL]
def afx(d:ops[i]?=O o)(e:yw o (wX ops a.tmps)=Y)(f:∀c,o.op≠ uN c)(g:b.roundOf=U)(h:(zw a.eval o).run P w=.ok .recover w')
 (j:wS (b.atR a (yC ops (i::rest)::k)) cs=U):
 ub P (yX (b.atR a (yC ops (i::rest)::k)) cs w)=vP (yX (b.atR (a.put o.dst wo) (yC ops rest::k)) cs w'):=by
 refine ym ?_;have l:(b.atR a (yC ops (i::rest)::k)).roundOf=U:=g;rw[vr d e,<-finish_at d wo,w6 _ _ _ f];simp[xo,yz,h,j,l]
def afy(d:ops[i]?=O o)(e:yw o (wX ops a.tmps)=Y)(f:∀c,o.op≠ uN c)(g:b.roundOf=U)(h:(zw a.eval o).run P w=.ok .recover w'){Vy:List yW}
 (j:wS (b.atR a (yC ops (i::rest)::k)) cs=O (v,Vy)):
 ub P (yX (b.atR a (yC ops (i::rest)::k)) cs w)=vP (yX (b.atR (a.put o.dst v) (yC ops rest::k)) Vy w'):=by
 refine ym ?_;have l:(b.atR a (yC ops (i::rest)::k)).roundOf=U:=g;rw[vr d e,<-finish_at d v,w6 _ _ _ f];simp[xo,yz,h,j,l]
end steps
def avr(T:au)(P:zo)(j:Fr)(l:Nat)(e:Array yH)(i:Nat)(s g:S):Prop:=
 Le s.h g.h/\∀Γ m p c(b:yW) rest k a f w,Fin Γ g.h->gz T Γ m p c l s a f w->b.kind=c.kind->b.fn=j.fn->Bp m j.round b.roundOf->
  ∃n h o d w',ct m n/\gz T Γ n h c l g o d w'/\
   xE P (yX (b.atR a (yC e (i::rest)::k)) (c.cs f) w) (yX (b.atR o (yC e rest::k)) (c.cs d) w')
def avs(T:au)(P:zo)(n:Fr)(o:Nat)(g:Array yH)(i:Nat)(s:S)(q:List zO)(h:S):Prop:=
 Le s.h h.h/\∀Γ m r c(b:yW) rest k a e w,Fin Γ h.h->gz T Γ m r c o s a e w->b.kind=c.kind->b.fn=n.fn->Bp m n.round b.roundOf->
  ∃j l p d w',ct m j/\gz T Γ j l c o h p d w'/\∃todo f,CR j q f/\
   xE P (yX (b.atR a (yC g (i::rest)::k)) (c.cs e) w) (yX {b.atR p todo with mode:=vM f} (c.cs d) w')
def Ss{o:yH}(h:qU n o=Y):Uh n o.dst/\∀x∈cG o.op,qG x=Y:=by unfold qU at h;rw[zX]at h;refine⟨λd a=>?_,λx b=>(wH.1 h.2) x b⟩;have:=h.1;unfold KI at this;rw[a]at this;exact fC this
def Yr{a:uv}{b:Array yH}{o:yH}{q:Bool}
 (l:∀g want x d v,o.guard=O (g,want)->b.toList[g]?=O x->x.dst=O d->aa r d v->∃h,a.tmps[d]?=O h/\VR u v h)(e:Am.wanted b r o.guard=O q):yw o (wX b a.tmps)=q:=by
 unfold yw;cases i:o.guard with
 |none=>rw[i]at e;have e:O Y=O q:=e;injection e
 |some n=>
  let⟨g,want⟩:=n;rw[i]at e;have e:qJ want (Bd r b.toList[g]?)=O q:=e;simp only;unfold wX;cases c:b.toList[g]? with
  |none=>rw[c]at e;cases e
  |some x=>
   rw[c]at e;have j:b[g]?=O x:=by simpa using c
   have e:qJ want (match x.dst with|some d=>r.g d|none=>U)=O q:=e
   cases f:x.dst with
   |none=>simp only[f]at e;cases e
   |some d=>
    simp only[f]at e;cases k:r.g d with
    |none=>rw[k]at e;cases e
    |some v=>
     rw[k]at e;let⟨h,h1,p⟩:=l g want x d v i c f k;simp only[j,Option.bind_some,f,h1];cases p with
     |bool s=>have e:O (s==want)=O q:=e;injection e
     |_=>have e:O G=O q:=e;injection e
def Cp{a:uv}{b:Array yH}{o:yH}{q:Bool}(c:TR u r a.tmps)(e:Am.wanted b r o.guard=O q):yw o (wX b a.tmps)=q:=
 Yr (λ_ _ _ d v _ _ _ f=>c d v f) e
def gz.put{Γ:gy}{m m':M}{hD dW:Nat->Option ai}{Kk:Kt}{nt:Nat}{s:S}{a:uv}{kH:Option (List zO)}{w w':zu}(st:gz T Γ m hD Kk nt s a kH w)(hm:ct m m'){h':H}
 (Ii:Inv T Γ m' dW h' w'){o:yH}(hd:Uh nt o.dst){v v':E}(hv:VR m' v v'):gz T Γ m' dW Kk nt ⟨eG s.tm v o.dst,s.df,h',s.ab⟩ (a.put o.dst v') kH w' where
 inv:=Ii
 tm:=(st.tm.mono hm).put (by rw[st.nt];exact hd) hv
 nt:=by rw[Nx];exact st.nt
 df:=by rw[put_defers];exact st.df.mono hm
 ab:=st.ab.mono hm
 lV:=st.lV
def gz.arf{Γ:gy}{m m':M}{hD dW:Nat->Option ai}{Kk:Kt}{nt:Nat}{s:S}{a:uv}{kH:Option (List zO)}{w w':zu}(st:gz T Γ m hD Kk nt s a kH w)(hm:ct m m'){h':H}
 (Ii:Inv T Γ m' dW h' w'){o:yH}(v':E):gz T Γ m' dW Kk nt ⟨HT s.tm o.dst,s.df,h',s.ab⟩ (a.put o.dst v') kH w' where
 inv:=Ii
 tm:=by
  intro t v e;cases hd:o.dst with
  |none=>rw[hd]at e;exact st.tm.mono hm t v e
  |some d=>
   rw[hd]at e;have e:(s.tm.del d).g t=O v:=e
   have jE:t≠d:=by rintro rfl;rw[Tr.MR]at e;cases e
   rw[Tr.MQ _ jE]at e;let⟨u,h1,h2⟩:=st.tm.mono hm t v e;exact⟨u,by simp only[Act.put];rw[wC (Ne.symm jE)];exact h1,h2⟩
 nt:=by rw[Nx];exact st.nt
 df:=by rw[put_defers];exact st.df.mono hm
 ab:=st.ab.mono hm
 lV:=st.lV
def gz.mono{Γ:gy}{m m':M}{hD dW:Nat->Option ai}{Kk:Kt}{nt:Nat}{s:S}{a:uv}{kH:Option (List zO)}{w w':zu}(st:gz T Γ m hD Kk nt s a kH w)(hm:ct m m'){h':H}
 (Ii:Inv T Γ m' dW h' w'):gz T Γ m' dW Kk nt ⟨s.tm,s.df,h',s.ab⟩ a kH w' where
 inv:=Ii
 tm:=st.tm.mono hm
 nt:=st.nt
 df:=st.df.mono hm
 ab:=st.ab.mono hm
 lV:=st.lV
def GY{a:uv}(h:TR u r a.tmps){l:List zh}(b:∀x∈l,qG x=Y):qR r a.eval l u:=λx c _ d=>MU h d (b x c)
def Jt{a:zh->E}{o:yH}{c:zh}{b:Array zh}{d:Array zQ}(h:o.op=.call ⟨.value c,b,d⟩)(w:zu):(zw a o).run P w=(jT (a c) (b.toList.map a)).run P w:=by
 have e:b.map a=⟨b.toList.map a⟩:=by apply Array.ext';simp
 simp only[zw,h,resolve,e,jT]
def CT.Nf{b:Machine}{a:Option (List zO)}{w:zu}{c:yW}{cs:List yW}(h:CT P b a w (.plain (c::cs)) (.ret v)):xE P b (yX (c.finish v) cs w):=h
def CT.RT{b:Machine}{a:Option (List zO)}{w:zu}{c:yW}{cs:List yW}{d:List zO}(h:CT P b a w (.plain (c::cs)) (.aU d)):xE P b (yX (c.raise d) cs w):=h
def agr(tok:bM T P)(iq:iB T P V){fr:Fr}{C:Array yH}{i:Nat}{o:yH}(ho:C[i]?=O o)(jF:qU n o=Y){k:S->ag}{s:S}{r:ag}
 (e:Hp T V fr C o k s=r)(hr:r≠ .f):(∃s1,k s1=r/\avr T P fr n C i s s1)\/(∃ch s1,r=.c (.panic ch) s1/\avs T P fr n C i s ch s1):=by
 let⟨M,hconst⟩:=Ss jF;let⟨N,df,h,Q⟩:=s;have e:dM .f (λb=>bN (k ⟨eG N yh o.dst,df,h,Q⟩) (qQ V fr.round o.dst k N df h Q (Am.execOp T N o.type h o.op)) b) (Am.wanted C N o.guard)=r:=e;cases hw:Am.wanted C N o.guard with
 |none=>rw[hw]at e;exact absurd e.symm hr
 |some q=>
  rw[hw]at e;cases q with
  |false=>
   have e:k ⟨eG N yh o.dst,df,h,Q⟩=r:=e;refine zq ⟨_,e,.refl _,λΓ m hD d b rest kk a A w F p g1 g2 g3=>?_⟩;have PY:=Cp (o:=o) p.tm hw;refine⟨m,hD,a.put o.dst yh,A,w,.refl _,p.put (.refl _) p.inv M (.undef m),xg ?_⟩;have:=stepR_op_skip (P:=P) (b:=b) (a:=a) (k:=kk) (cs:=d.cs A) (w:=w) (ops:=C) (i:=i) (rest:=rest) (by rw[ho];simpa using PY);rw[ho]at this;exact this
  |true=>
   have e:qQ V fr.round o.dst k N df h Q (Am.execOp T N o.type h o.op)=r:=e;cases hx:Am.execOp T N o.type h o.op with
   |of r0=>
    rw[hx]at e;cases r0 with
    |f=>exact absurd e.symm hr
    |v v h1=>
     have e:k ⟨eG N v o.dst,df,h1,Q⟩=r:=e;refine zq ⟨_,e,(MT (P:=P) tok (ρ:=λ_=>yh) hx).1,λΓ m hD d b rest kk a A w F p g1 g2 g3=>?_⟩;let⟨_,hv⟩:=MT (P:=P) tok (ρ:=a.eval) hx;let⟨v',m',R,w',k1,k2,k3,k4⟩:=hv Γ m hD w F p.inv (GY p.tm hconst);exact⟨m',R,a.put o.dst v',A,w',k2,p.put k2 k4 M k3,xg (aad ho (Cp (o:=o) p.tm hw) (Y9 hx (by simp)) k1)⟩
   |aU v=>
    rw[hx]at e;have e:ag.c (.panic [{v,recovered:=G}]) ⟨N,df,h,Q⟩=r:=e;obtain⟨x,t,u,B,hxv,rfl⟩:=ahQ hx;refine zt ⟨_,_,e.symm,.refl _,λΓ m hD d b rest kk a A w F p g1 g2 g3=>?_⟩;have hv:=GY p.tm hconst x (by rw[B];simp[cG]) _ hxv;generalize hq:a.eval x=q at hv;cases hv with
    |@iface _ _ u' hu=>
     refine⟨m,hD,a,A,w,.refl _,p,_,_,.cons (.iface t hu) .nil,xg (ahR ho (Cp (o:=o) p.tm hw) (λc hc=>by rw[B]at hc;cases hc) ?_)⟩;simp[zw,B,Instr.panic,hq]
   |call f args=>
    rw[hx]at e;have e:EC o.dst k N df Q (V (.call f args h U))=r:=e;let⟨fo,as,ts,B,hf,ha⟩:=XZ hx;have rm:∀c,o.op≠ uN c:=λc hc=>by rw[B]at hc;cases hc
    have H:=iq.call f args h U;cases X:V (.call f args h U)with
    |f=>rw[X]at e;exact absurd e.symm hr
    |c x y=>rw[X]at e;exact absurd e.symm hr
    |r v h1 lY=>
     rw[X]at e H;have e:k ⟨eG N v o.dst,df,h1,Q⟩=r:=e;let⟨hle,hc⟩:=H h1 lY rfl;refine zq ⟨_,e,hle,λΓ m hD d b rest kk a A w F p g1 g2 g3=>?_⟩;have j:=GY p.tm hconst;rw[B]at j
     let⟨nx,AW,q1,q2,m',R,lH,w',cr,q3,q4,q5,q6,q7,q8⟩:=hc Γ m hD (.plain (b.atR a (yC C (i::rest)::kk)::d.cs A)) (a.eval fo) (as.toList.map a.eval) U w (zq ⟨_,_,rfl⟩) F p.inv
      (j fo (by simp[cG,pG]) f hf) (Ah ha λy hy=>j y (by simp only[cG,pG,zp];exact zt hy)) .none rfl
     cases q7 with
     |ret hv=>
      refine⟨m',R,a.put o.dst _,A,w',q3,p.put q3 q4 M hv,vt (Js ho (Cp (o:=o) p.tm hw) rm (by rw[Jt B];exact q1) q2) ?_⟩;rw[<-finish_at ho];exact q8.Nf
    |any h1 lY=>
     rw[X]at e H;have e:k ⟨HT N o.dst,df,h1,Q⟩=r:=e;let⟨hle,hc⟩:=H h1 lY rfl;refine zq ⟨_,e,hle,λΓ m hD d b rest kk a A w F p g1 g2 g3=>?_⟩;have j:=GY p.tm hconst;rw[B]at j
     let⟨nx,AW,q1,q2,m',R,lH,w',cr,q3,q4,q5,q6,q7,q8⟩:=hc Γ m hD (.plain (b.atR a (yC C (i::rest)::kk)::d.cs A)) (a.eval fo) (as.toList.map a.eval) U w (zq ⟨_,_,rfl⟩) F p.inv
      (j fo (by simp[cG,pG]) f hf) (Ah ha λy hy=>j y (by simp only[cG,pG,zp];exact zt hy)) .none rfl
     cases q7 with
     |@any v' _ _=>
      refine⟨m',R,a.put o.dst v',A,w',q3,p.arf q3 q4 v',vt (Js ho (Cp (o:=o) p.tm hw) rm (by rw[Jt B];exact q1) q2) ?_⟩;rw[<-finish_at ho];exact q8.Nf
    |p ch h1 lY=>
     rw[X]at e H;have e:ag.c (.panic ch) ⟨N,df,h1,Q⟩=r:=e;let⟨hle,hc⟩:=H h1 lY rfl;refine zt ⟨_,_,e.symm,hle,λΓ m hD d b rest kk a A w F p g1 g2 g3=>?_⟩;have j:=GY p.tm hconst;rw[B]at j
     let⟨nx,AW,q1,q2,m',R,lH,w',cr,q3,q4,q5,q6,q7,q8⟩:=hc Γ m hD (.plain (b.atR a (yC C (i::rest)::kk)::d.cs A)) (a.eval fo) (as.toList.map a.eval) U w (zq ⟨_,_,rfl⟩) F p.inv
      (j fo (by simp[cG,pG]) f hf) (Ah ha λy hy=>j y (by simp only[cG,pG,zp];exact zt hy)) .none rfl
     cases q7 with
     |aU Vz=>
      refine⟨m',R,a,A,w',q3,p.mono q3 q4,yC C (i::rest)::kk,_,Vz,vt (Js ho (Cp (o:=o) p.tm hw) rm (by rw[Jt B];exact q1) q2) ?_⟩;rw[<-tz];exact q8.RT
   |rj f args=>
    rw[hx]at e;have e:aa2 fr.round o.dst k N df h Q args f=r:=e;let⟨fo,as,ts,B,hf,ha⟩:=ahP hx
    have Uk:∃g first cap,f=zU (za g) first cap:=by
     cases f with
     |func fn first cap=>
      cases fn with
      |func g=>exact⟨g,first,cap,rfl⟩
      |_=>exact absurd e.symm hr
     |_=>exact absurd e.symm hr
    obtain⟨g,first,cap,rfl⟩:=Uk
    .have e:(match fr.round with
      |none=>k ⟨eG N yh o.dst,{target:=.fn (za g) cap,args:=⟨first.toList++args⟩}::df,h,Q⟩
      |some _=>.f)=r:=e
     split at e
     .rename_i W;refine zq ⟨_,e,.refl _,λΓ m hD d b rest kk a A w F p g1 g2 g3=>?_⟩;rw[W]at g3;have B8:b.roundOf=U:=by cases hb:b.roundOf<;>rw[hb]at g3<;>first|rfl|cases g3
      have j:=GY p.tm hconst;rw[B]at j;have qe:=j fo (by simp[cG,pG]) _ hf;have VA:=Ah ha λy hy=>j y (by simp only[cG,pG,zp];exact zt hy);let⟨fl⟩:=first;let⟨cl⟩:=cap;generalize hq:a.eval fo=q at qe;cases qe with
      |@func _ _ l' _ c' h1 h2=>
       refine⟨m,hD,{a with defers:=⟨.fn (za g) ⟨c'⟩,⟨l'++as.toList.map a.eval⟩⟩::a.defers}.put o.dst yh,A,w,.refl _,?_,xg (step_defer ho (Cp (o:=o) p.tm hw) B8 ?_)⟩
       .refine⟨p.inv,TR.put (a:={a with defers:=⟨.fn (za g) ⟨c'⟩,⟨l'++as.toList.map a.eval⟩⟩::a.defers}) p.tm (by rw[show a.tmps.size=n from p.nt];exact M) (.undef m),by rw[Nx];exact p.nt,by rw[put_defers];exact .cons (.fn g h2 (h1.append VA)) p.df,p.ab,p.lV⟩
       .have e2:as.map a.eval=⟨as.toList.map a.eval⟩:=by apply Array.ext';simp
        simp[zw,B,resolve,hq,yr,e2]
     .exact absurd e.symm hr
   |pT=>
    rw[hx]at e;have e:GO fr.round o.dst k N df h Q=r:=e;let⟨as,ts,B⟩:=agq hx;have rm:∀c,o.op≠ uN c:=λc hc=>by rw[B]at hc;cases hc
    unfold GO at e;split at e
    .rename_i W;have e:k ⟨eG N (GB Q).1 o.dst,df,h,(GB Q).2⟩=r:=e;refine zq ⟨_,e,.refl _,λΓ m hD d b rest kk a A w F p g1 g2 g3=>?_⟩;rw[W]at g3;have B8:b.roundOf=U:=by cases hb:b.roundOf<;>rw[hb]at g3<;>first|rfl|cases g3
     have qV:(zw a.eval o).run P w=.ok .recover w:=by simp[zw,B,resolve,uG,builtin]
     have L:(b.atR a (yC C (i::rest)::kk)).kind=d.kind:=g1;have PY:=Cp (o:=o) p.tm hw
     have stay:GB Q=(wo,Q)->wS (b.atR a (yC C (i::rest)::kk)) (d.cs A)=U->∃m' R a' lH w',ct m m'/\gz T Γ m' R d n ⟨eG N (GB Q).1 o.dst,df,h,(GB Q).2⟩ a' lH w'/\
      xE P (yX (b.atR a (yC C (i::rest)::kk)) (d.cs A) w) (yX (b.atR a' (yC C rest::kk)) (d.cs lH) w'):=λh1 h2=>by
      rw[h1];exact⟨m,hD,a.put o.dst wo,A,w,.refl _,p.put (.refl _) p.inv M .nilIface,xg (afx ho PY rm B8 qV h2)⟩
     cases d with
     |plain cs=>
      have hab:Q=U:=p.lV;subst hab;exact stay rfl (by unfold wS;rw[L];rfl)
     |under c rs=>
      have qf:=p.ab;cases qf with
      |none=>exact stay rfl (by unfold wS;rw[L];rfl)
      |some hcr=>
       cases hcr with
       |nil=>exact stay rfl (by unfold wS;rw[L];rfl)
       |@cons u u' rr l l' hu hl=>
        cases rr with
        |true=>exact stay rfl (by unfold wS;rw[L];rfl)
        |false=>
         refine⟨m,hD,a.put o.dst u',O (⟨u',Y,G⟩::l'),w,.refl _,?_,xg (afy ho PY rm B8 qV (Vy:=(Kt.under c rs).cs (O (⟨u',Y,G⟩::l'))) ?_)⟩
         .have:=p.put (.refl _) p.inv M hu;exact⟨this.inv,this.tm,this.nt,this.df,.some (.cons hu hl),trivial⟩
         .unfold wS;rw[L];rfl
    .exact absurd e.symm hr
end
section
variable{T:au}{P:zo}
def ahS{b:Fr}{a:Array yH}{s:S}:Ap T V b a [] s=.c .Nr s:=rfl
def agM{b:Fr}{a:Array yH}{o:yH}{l:List yH}{s:S}:Ap T V b a (o::l) s=Hp T V b a o (Ap T V b a l) s:=rfl
def XG(j:bM T P){ev:zC->ag}(n:iB T P ev){fr:Fr}{nt:Nat}{d:Array yH}:∀(l:List yH)(i:Nat)(s:S)(e:Ex)(p:S),l=d.toList.drop i->(∀o∈l,qU nt o=Y)->
 Ap T ev fr d l s=.c e p->lG T P fr nt s e p (λk=>yC d (uH i (I l))::k)
 |[],i,s,e,p,_,_,q=>by rw[ahS]at q;cases q;exact lG.refl _ (λb k a cs w=>xg stepR_region_end)
 |o::l,i,s,e,p,hl,r,q=>by
  rw[agM]at q
  have hi:d[i]?=O o:=by
   have:d.toList[i]?=O o:=by
    have h0:(d.toList.drop i)[0]?=O o:=by rw[<-hl];rfl
    rw[vz]at h0;simpa using h0
   simpa using this
  have H:l=d.toList.drop (i+1):=by have:=congrArg List.tail hl;simpa[sq]using this
  rcases agr j n hi (r o (by simp)) q (by simp)with⟨s1,L,t⟩|⟨ch,s1,L,t⟩
  .have M:=XG j n l (i+1) s1 e p H (λx hx=>r x (by simp[hx])) L;refine⟨t.1.trans M.1,λv m N c b k a g w F Q y A B=>?_⟩;let⟨m1,h,R,f,w1,C,V,W⟩:=t.2 v m N c b (uH (i+1) (I l)) k a g w (F.of_le M.1) Q y A B;let⟨m2,X,a2,u,w2,j1,j2,j3⟩:=M.2 v m1 h c b k R f w1 F V y A (B.mono C);exact⟨m2,X,a2,u,w2,C.trans j1,j2,.of_steps W j3⟩
  .cases L;refine⟨t.1,λv m N c b k a g w F Q y A B=>?_⟩;let⟨m1,h,R,f,w1,C,V,todo,PZ,W,k4⟩:=t.2 v m N c b (uH (i+1) (I l)) k a g w F Q y A B;exact⟨m1,h,R,f,w1,C,V,todo,PZ,W,k4⟩
def XH{a:Array yH}(h:Be n a b=Y):(∀o∈a.toList,qU n o=Y)/\(b=Y->Cw a.toList (bj a.toList 0 .Nl) a.toList 0=Y):=by unfold Be at h;rw[zX]at h;refine⟨wH.1 h.1,λc=>?_⟩;have:=h.2;rw[c]at this;simpa using this
def ahT(f:bM T P)(g:iB T P V){i:Fr}{c:Array yH}{s d:S}{e:Ex}(j:Be n c G=Y)(l:jN T V i c G s=.c e d):
 EN T P i n (.region m c G) s e d:=by
 have l:Ap T V i c c.toList s=.c e d:=l;have h:=XG f g c.toList 0 s e d (by simp) (XH j).1 l;refine h.head λb k a o w=>xg ?_;have:List.range c.size=uH 0 (I c.toList):=by rw[List.range_eq_range'];simp
 rw[<-this];exact stepR_region
end
section
variable{T:au}{P:zo}
def JG:aN n i=n.testBit i:=by
 unfold aN;have a:tP (Nat.shiftRight n i) 1=(n>>>i)&&&1:=rfl;rw[a,Nat.and_one_is_mod,Nat.testBit_eq_decide_div_mod_eq,Nat.shiftRight_eq_div_pow];cases e:zV (n/2^i%2) 1 with
 |true=>rw[hJ e];rfl
 |false=>simp[rE e]
def RU(h:dV n k=Y)(x:Nat):n.testBit x=Y->k.testBit x=Y->False:=by intro c d;have e:n&&&k=0:=hJ h;have:=ud n k x;rw[e,c,d]at this;simp at this
def cR(a:Nat):dV a 0=Y:=by unfold dV;have:tP a 0=a&&&0:=rfl;rw[this,Nat.and_zero];rfl
def cO(a:Nat):dV 0 a=Y:=by unfold dV;have:tP 0 a=0&&&a:=rfl;rw[this,Nat.zero_and];rfl
def xy(a b x:Nat):(dr a b).testBit x=Y<->a<=x/\x<b:=by
 unfold dr
 have c:Nat.shiftLeft (sE (bit (sE b a)) 1) a=(2^(b-a)-1)<<<a:=by
  have:bit (sE b a)=2^(b-a):=by have:bit (sE b a)=1<<<(b-a):=rfl;rw[this,sC]
  rw[this];rfl
 rw[c,Nat.testBit_shiftLeft,Nat.testBit_two_pow_sub_one];simp;omega
def afC{bs:Tr Nat}{e:Edge}{l:List Edge}:Cr bs (e::l)=cond (pJ e) (zi (Cr bs l) (zi (bit e.on) (match bs.g e.on with|some n=>n|none=>0))) (Cr bs l):=rfl
def qp{b :Nat}(h:(zi n b).testBit k=Y):n.testBit k=Y\/b.testBit k=Y:=by have:zi n b=n|||b:=rfl;rw[this,Nat.testBit_or,wO]at h;exact h
def mL(h:(bit n).testBit k=Y):k=n:=by have:bit n=1<<<n:=rfl;rw[this,sC,Nat.testBit_two_pow]at h;exact(of_decide_eq_true h).symm
def QI{bs:Tr Nat}{j:Nat}:∀{l:List Edge},(Cr bs l).testBit j=Y->∃e∈l,pJ e=Y/\(e.on=j\/(aE bs e.on).testBit j=Y)
 |[],h=>by have:(0:Nat).testBit j=Y:=h;simp at this
 |e::l,h=>by
  rw[afC]at h;cases a:pJ e with
  |false=>
   rw[a]at h;let⟨x,h1,b⟩:=QI (l:=l) h;exact⟨x,by simp[h1],b⟩
  |true=>
   rw[a,cond_true]at h;rcases qp h with h|h
   .let⟨x,h1,b⟩:=QI (l:=l) h;exact⟨x,by simp[h1],b⟩
   .rcases qp h with h|h
    .exact⟨e,by simp,a,zq (mL h).symm⟩
    .exact⟨e,by simp,a,zt h⟩
def XI{o:yH}{l:List yH}{bs:Tr Nat}:bj (o::l) i bs=bj l (i+1) (bs.s i (Cr bs o.after.toList)):=rfl
def QR:∀(l:List yH)(i:Nat)(bs:Tr Nat)(j:Nat),j<i->(bj l i bs).g j=bs.g j
 |[],_,_,_,_=>rfl
 |o::l,i,bs,j,h=>by rw[XI,QR l (i+1) _ j (by omega),Tr.Ba _ _ (by omega)]
def ahU(l:List yH):∀(i:Nat)(bs:Tr Nat)(k:Nat)(o:yH)(n:Nat),l[k]?=O o->(bj l i bs).g (i+k)=O n->(∀e∈o.after.toList,pJ e=Y->e.on<i+k)->
 ∃a,n=Cr a o.after.toList/\∀j,j<i+k->a.g j=(bj l i bs).g j:=by
 induction l with
 |nil=>intro i bs k o n c;simp at c
 |cons h l m=>
  intro i bs k o n c b g;rw[XI]at b⊢;cases k with
  |zero=>
   simp at c;subst c;replace b:(bj l (i+1) (bs.s i (Cr bs h.after.toList))).g i=O n:=b;rw[QR l (i+1) _ i (by omega)]at b;have:=Tr.D2 _ b;subst this;refine⟨bs,rfl,λj p=>?_⟩;rw[QR l (i+1) _ j (by omega),Tr.Ba _ _ (by omega)]
  |succ k=>
   have f:l[k]?=O o:=by simpa using c
   have d:i+(k+1)=i+1+k:=by omega
   rw[d]at b g;let⟨a,h1,q⟩:=m (i+1) _ k o n f b g;exact⟨a,h1,λj p=>q j (by omega)⟩
def Rq{l:List yH}{o:yH}(f:l[i]?=O o)(b:∀e∈o.after.toList,pJ e=Y->e.on<i)(h:(aE (bj l 0 .Nl) i).testBit j=Y):
 ∃e∈o.after.toList,pJ e=Y/\(e.on=j\/(aE (bj l 0 .Nl) e.on).testBit j=Y):=by
 unfold aE at h;cases a:(bj l 0 .Nl).g i with
 |none=>rw[a]at h;simp at h
 |some n=>
  rw[a]at h;let⟨g,h1,k⟩:=ahU l 0 .Nl i o n f (by simpa using a) (by simpa using b);subst h1;let⟨e,c,d,q3⟩:=QI h;refine⟨e,c,d,q3.imp id λq=>?_⟩;unfold aE at q⊢;rw[k e.on (by have:=b e c d;omega)]at q;exact q
structure Tc where
 tm:Nat->Tr E
 h:Nat->H
 v:Nat->E
 h1:Nat->H
def Ul(T:au)(P:zo)(all:Array yH)(i:Nat)(o:yH)(d:Tr E)(h:H)(v:E)(c:H):Prop:=
 (Am.wanted all d o.guard=O G/\v=yh/\c=h.f)\/
 (Am.wanted all d o.guard=O Y/\Le h.f c/\∀Γ m l w(b:yW) rest k a cs,Fin Γ c->Inv T Γ m l h.f w->qR d a.eval (cG o.op) m->yw o (wX all a.tmps)=Y->
   ∃g e f j,ct m e/\VR e v g/\Inv T Γ e f c j/\xE P (yX (b.atR a (yC all (i::rest)::k)) cs w) (yX (b.atR (a.put o.dst g) (yC all rest::k)) cs j))
def UR(T:au)(P:zo)(all:Array yH)(i:Nat)(o:yH)(g:Tr E)(h:H)(n:List zO)(d:H):Prop:=
 Am.wanted all g o.guard=O Y/\Le h.f d/\∀Γ m p w(b:yW) rest k a j,Fin Γ d->Inv T Γ m p h.f w->qR g a.eval (cG o.op) m->yw o (wX all a.tmps)=Y->
  ∃e f l c,ct m e/\CR e n c/\Inv T Γ e f d l/\xE P (yX (b.atR a (yC all (i::rest)::k)) j w) (yX {b.atR a (yC all (i::rest)::k)with mode:=vM c} j l)
def HV(bs:Tr Nat)(pc:Option (Nat×List zO))(k:Nat):Prop:=∃p a,pc=O (p,a)/\(k=p\/(aE bs k).testBit p=Y)
def Um(T:au)(P:zo)(all:Array yH)(bs:Tr Nat)(pc:Option (Nat×List zO))(k:Nat)(o:yH)(b:Tr E)(h:H)(v:E)(d:H)(a:Tr E):Prop:=
 (¬HV bs pc k/\Ul T P all k o b h v d/\a=eG b v o.dst)\/
 (HV bs pc k/\a=b/\((d=h.f/\∀p c,pc=O (p,c)->k≠p)\/∃c,pc=O (k,c)/\UR T P all k o b h c d))
def di(h h1:H):Nat:=zi h1.wr (dr h.n h1.n)
def Tc.note(c:Tc)(k:Nat):aG:=⟨k,(c.h1 k).rd,di (c.h k) (c.h1 k)⟩
structure Bw(h h1 h':H):Prop where
 get:∀b,h'.g b=h1.g b
 next:h'.n=h1.n
 base:h'.b=h.b
 rd0:∀b,h.rd.testBit b=Y->h'.rd.testBit b=Y
 wr0:∀b,h.wr.testBit b=Y->h'.wr.testBit b=Y
 rd:∀b,h1.rd.testBit b=Y->h'.b<=b\/h'.rd.testBit b=Y
 wr:∀b,h1.wr.testBit b=Y->h'.b<=b\/h'.wr.testBit b=Y
structure Bq(T:au)(P:zo)(all:Array yH)(bs:Tr Nat)(pc:Option (Nat×List zO))(i n:Nat)(notes:List aG)(tmS:Tr E)(hS:H)(Iz:Tr E)(hE:H)(c:Tc):Prop where
 gp:c.tm i=tmS
 h0:c.h i=hS
 tmn:c.tm n=Iz
 hn:c.h n=hE
 step:∀k,i<=k->k<n->∃o,all[k]?=O o/\Um T P all bs pc k o (c.tm k) (c.h k) (c.v k) (c.h1 k) (c.tm (k+1))/\Bw (c.h k) (c.h1 k) (c.h (k+1))
 apart:∀j k,i<=j->j<k->k<n->Am.apart (aE bs k) (c.note k) (c.note j)=Y
 acT:∀x∈notes,∀k,i<=k->k<n->Am.apart (aE bs k) (c.note k) x=Y
def fm(h:H):h.f=⟨h.m,h.n,h.n,0,0⟩:=by cases h;rfl
def ahV(a:Nat)(x y:aG)(b:y.rd=0)(c:y.wr=0):Am.apart a x y=Y:=by unfold Am.apart;rw[b,c,cR,cO];cases aN a y.i<;>rfl
def agN(a:Nat)(x y:aG)(b:x.rd=0)(c:x.wr=0):Am.apart a x y=Y:=by unfold Am.apart;rw[b,c,cO,cR,cO];cases aN a y.i<;>rfl
def x6{j x:aG}{l:List aG}:fe n j (x::l)=cond (Am.apart n j x) (fe n j l) G:=rfl
def XJ{b:Nat}{j:aG}:∀{l:List aG},fe b j l=Y->∀x∈l,Am.apart b j x=Y
 |[],_,x,a=>by cases a
 |y::l,h,x,a=>by
  rw[x6]at h;let⟨h1,c⟩:=iG h;rcases zp.1 a with rfl|a
  .exact h1
  .exact XJ c x a
def X1{p b:Nat}:∀{l:List aG},gh p b l=Y->∀x∈l,calm p b x=Y
 |[],_,x,a=>by cases a
 |y::l,h,x,a=>by
  have h:cond (calm p b y) (gh p b l) G=Y:=h;let⟨h1,c⟩:=iG h;rcases zp.1 a with rfl|a
  .exact h1
  .exact X1 c x a
def Za(h:H):di h h.f=0:=by
 rw[fm];show zi 0 (dr h.n h.n)=0
 have:dr h.n h.n=0:=by
  apply xd;intro x;cases a:(dr h.n h.n).testBit x with
  |false=>simp
  |true=>have:=(xy _ _ _).1 a;omega
 rw[this];rfl
def aae(h:H):h.f.rd=0:=by rw[fm]
def Bw.fresh(h:H):Bw h h.f h:=by
 have c:=fm h;refine⟨λb=>by rw[c];rfl,by rw[c],rfl,λb a=>a,λb a=>a,λb a=>?_,λb a=>?_⟩
 .rw[c]at a;simp at a
 .rw[c]at a;simp at a
def ags{all:Array yH}{bs:Tr Nat}{l:List aG}{s:S}:oo T V all bs [] i l s=.c .Nr s:=rfl
def agd{all:Array yH}{bs:Tr Nat}{o:yH}{r:List yH}{l:List aG}{s:S}:
 oo T V all bs (o::r) i l s=JB T V all bs i o (oo T V all bs r (i+1)) (λchain=>nr T V all bs i chain r (i+1)) l s:=rfl
def age{all:Array yH}{bs:Tr Nat}{a:List zO}{l:List aG}{s:S}:nr T V all bs n a [] i l s=Z5 all bs n a l s:=rfl
def QM{all:Array yH}{bs:Tr Nat}{a:List zO}{o:yH}{r:List yH}{l:List aG}{s:S}:
 nr T V all bs n a (o::r) i l s=cond (aN (aE bs i) n) (nr T V all bs n a r (i+1) l s) (JB T V all bs i o (nr T V all bs n a r (i+1)) Ug l s):=rfl
theorem alX{c:Op}(f:G7 c=Y)(b:Am.execOp T r t h.f c=.of (.v v g)):g.wr=0:=by
 cases c<;>try cases f
 rename_i e
 have b:Out.of (Bv h.f e (zero T e))=Out.of (.v v g):=b
 injection b with b
 cases d:zero T e with
 |none=>rw[d]at b;cases b
 |some a=>
  rw[d]at b
  have b:aK.v (pB h.f.n) (h.f.w (ad (ah a) e))=aK.v v g:=b
  injection b with _ b
  rw[<-b,fm];rfl
def Xj(tok:bM T P)(iq:iB T P V){all:Array yH}{bs:Tr Nat}{o:yH}(ho:all[i]?=O o){k:List aG->S->ag}{kp:List zO->List aG->S->ag}{l:List aG}{s:S}{r:ag}
 (e:JB T V all bs i o k kp l s=r)(W:r≠ .f):
 (∃v g H u,k u ⟨eG s.tm v o.dst,s.df,H,s.ab⟩=r/\Ul T P all i o s.tm s.h v g/\Bw s.h g H/\
   (∀x∈l,x∈u)/\(G7 o.op=Y->g.wr=0)/\((g.rd=0/\di s.h g=0)\/(⟨i,g.rd,di s.h g⟩∈u/\∀x∈l,Am.apart (aE bs i) ⟨i,g.rd,di s.h g⟩ x=Y)))\/
 (∃ch g H u,kp ch u ⟨s.tm,s.df,H,s.ab⟩=r/\UR T P all i o s.tm s.h ch g/\Bw s.h g H/\
   (∀x∈l,x∈u)/\(G7 o.op=Y->g.wr=0)/\((g.rd=0/\di s.h g=0)\/(⟨i,g.rd,di s.h g⟩∈u/\∀x∈l,Am.apart (aE bs i) ⟨i,g.rd,di s.h g⟩ x=Y))):=by
 let⟨R,df,h,ab⟩:=s
 have done:∀(k:List aG->S->ag) X g,JA k h.n h.b h.rd h.wr bs l i X df ab g=r->
  ∃H u,k u ⟨X,df,H,ab⟩=r/\Bw h g H/\(∀x∈l,x∈u)/\((g.rd=0/\di h g=0)\/(⟨i,g.rd,di h g⟩∈u/\∀x∈l,Am.apart (aE bs i) ⟨i,g.rd,di h g⟩ x=Y)):=by
  intro k X g e;let⟨m,n,b0,rd,wr⟩:=g;have e:kw (λw'=>mf k h.b h.rd h.wr bs l i X df ab m n rd wr w') (zi wr (dr h.n n))=r:=e;rw[kr]at e;have hw:zi wr (dr h.n n)=di h ⟨m,n,b0,rd,wr⟩:=rfl;rw[hw]at e;unfold mf at e;cases hz:cond (zV rd 0) (zV (di h ⟨m,n,b0,rd,wr⟩) 0) G with
  |true=>
   rw[hz,cond_true]at e;let⟨z1,z2⟩:=iG hz;have z1:=hJ z1;have z2:=hJ z2;refine⟨_,l,e,⟨λb=>rfl,rfl,rfl,λb p=>p,λb p=>p,λb p=>?_,λb p=>?_⟩,λx C=>C,zq ⟨z1,z2⟩⟩
   .have:rd.testBit b=Y:=p;rw[z1]at this;simp at this
   .have p:wr.testBit b=Y:=p;have:(di h ⟨m,n,b0,rd,wr⟩).testBit b=Y:=rA p;rw[z2]at this;simp at this
  |false=>
   rw[hz,cond_false]at e;cases L:fe (aE bs i) ⟨i,rd,di h ⟨m,n,b0,rd,wr⟩⟩ l with
   |false=>rw[L]at e;exact absurd e.symm W
   |true=>
    rw[L,cond_true]at e;refine⟨_,_,e,?_,λx C=>List.mem_cons_of_mem _ C,zt ⟨List.mem_cons_self,XJ L⟩⟩;unfold Bo;cases Dx:zV h.b 0 with
    |true=>
     have Dx:h.b=0:=hJ Dx;exact⟨λb=>rfl,rfl,rfl,λb p=>p,λb p=>p,λb p=>zq (by show h.b<=b;omega),λb p=>zq (by show h.b<=b;omega)⟩
    |false=>
     rw[cond_false,kr,kr];exact⟨λb=>rfl,rfl,rfl,λb p=>rA p,λb p=>rA p,λb p=>zt (DT p),λb p=>zt (DT p)⟩
 have e:dM .f (λb=>bN (k l ⟨eG R yh o.dst,df,h,ab⟩)
  (Nv V k kp h.n h.b h.rd h.wr bs l i o.dst R df h.f ab (Am.execOp T R o.type h.f o.op)) b) (Am.wanted all R o.guard)=r:=e
 cases hw:Am.wanted all R o.guard with
 |none=>rw[hw]at e;exact absurd e.symm W
 |some q=>
  rw[hw]at e;cases q with
  |false=>
   have e:k l ⟨eG R yh o.dst,df,h,ab⟩=r:=e;exact zq ⟨yh,h.f,h,l,e,zq ⟨hw,rfl,rfl⟩,.fresh h,λx C=>C,λ_=>by rw[fm],zq ⟨aae h,Za h⟩⟩
  |true=>
   have e:Nv V k kp h.n h.b h.rd h.wr bs l i o.dst R df h.f ab (Am.execOp T R o.type h.f o.op)=r:=e;cases C:Am.execOp T R o.type h.f o.op with
   |of r0=>
    rw[C]at e;cases r0 with
    |f=>exact absurd e.symm W
    |v v g=>
     let⟨H,u,q1,q2,q3,q4⟩:=done k _ g e;refine zq ⟨v,g,H,u,q1,zt ⟨hw,(MT (P:=P) tok (ρ:=λ_=>yh) C).1,λΓ m hD w b rest kk a cs F d j M=>?_⟩,q2,q3,λL=>alX L C,q4⟩;let⟨_,hv⟩:=MT (P:=P) tok (ρ:=a.eval) C;let⟨v',m',N,w',k1,k2,k3,k4⟩:=hv Γ m hD w F d j;exact⟨v',m',N,w',k2,k3,k4,xg (aad ho M (Y9 C (by simp)) k1)⟩
   |call f args=>
    rw[C]at e;have e:RI k kp h.n h.b h.rd h.wr bs l i o.dst R df ab (V (.call f args h.f U))=r:=e;let⟨fo,as,ts,A,hf,L⟩:=XZ C;have t:=iq.call f args h.f U;cases B:V (.call f args h.f U)with
    |r v g lY=>
     rw[B]at e t;let⟨H,u,q1,q2,q3,q4⟩:=done k _ g e;let⟨hle,Q⟩:=t g lY rfl;refine zq ⟨v,g,H,u,q1,zt ⟨hw,hle,λΓ m hD w b rest kk a cs F d j M=>?_⟩,q2,q3,λL=>(by rw[A]at L;cases L),q4⟩;rw[A]at j
     let⟨nx,AW,p1,p2,m',N,lH,w',cr,p3,p4,p5,p6,p7,p8⟩:=Q Γ m hD (.plain (b.atR a (yC all (i::rest)::kk)::cs)) (a.eval fo) (as.toList.map a.eval) U w (zq ⟨_,_,rfl⟩) F d
      (j fo (by simp[cG,pG]) f hf) (Ah L λy hy=>j y (by simp only[cG,pG,zp];exact zt hy)) .none rfl
     cases p7 with
     |ret hv=>
      refine⟨_,m',N,w',p3,hv,p4,vt (Js ho M (λc Q=>by rw[A]at Q;cases Q) (by rw[Jt A];exact p1) p2) ?_⟩;rw[<-finish_at ho];exact p8.Nf
    |f=>rw[B]at e;exact absurd e.symm W
    |c x y=>rw[B]at e;exact absurd e.symm W
    |any x y=>rw[B]at e;exact absurd e.symm W
    |p ch g lY=>
     rw[B]at e t;let⟨H,u,q1,q2,q3,q4⟩:=done (kp ch) _ g e;let⟨hle,Q⟩:=t g lY rfl;refine zt ⟨ch,g,H,u,q1,⟨hw,hle,λΓ m hD w b rest kk a cs F d j M=>?_⟩,q2,q3,λL=>(by rw[A]at L;cases L),q4⟩;rw[A]at j
     let⟨nx,AW,p1,p2,m',N,lH,w',cr,p3,p4,p5,p6,p7,p8⟩:=Q Γ m hD (.plain (b.atR a (yC all (i::rest)::kk)::cs)) (a.eval fo) (as.toList.map a.eval) U w (zq ⟨_,_,rfl⟩) F d
      (j fo (by simp[cG,pG]) f hf) (Ah L λy hy=>j y (by simp only[cG,pG,zp];exact zt hy)) .none rfl
     cases p7 with
     |aU Q=>
      refine⟨m',N,w',_,p3,Q,p4,vt (Js ho M (λc Q=>by rw[A]at Q;cases Q) (by rw[Jt A];exact p1) p2) ?_⟩;exact p8.RT
   |aU v=>rw[C]at e;exact absurd e.symm W
   |rj f args=>rw[C]at e;exact absurd e.symm W
   |pT=>rw[C]at e;exact absurd e.symm W
section trace
variable{all:Array yH}{bs:Tr Nat}{pc:Option (Nat×List zO)}
def Zb{o:yH}{l:List yH}(b:o::l=all.toList.drop i):all[i]?=O o/\i<all.size/\l=all.toList.drop (i+1):=by
 have a:all[i]?=O o:=by
  have:all.toList[i]?=O o:=by
   have c:(all.toList.drop i)[0]?=O o:=by rw[<-b];rfl
   rw[vz]at c;simpa using c
  simpa using this
 refine⟨a,(zd.1 a).1,?_⟩;have:=congrArg List.tail b;simpa[sq]using this
def drop_nil(a:[]=all.toList.drop i)(b:i<=all.size):i=all.size:=by have:=congrArg I a;simp at this;omega
def Tc.cons(i:Nat)(a:Tr E)(h:H)(v:E)(h1:H)(c:Tc):Tc:=⟨λk=>if k=i then a else c.tm k,λk=>if k=i then h else c.h k,λk=>if k=i then v else c.v k,λk=>if k=i then h1 else c.h1 k⟩
def Tc.Ng{c:Tc}(a:k≠i):(c.cons i r h v g).note k=c.note k:=by simp[Tc.note,Tc.cons,a]
def Tc.QN{c:Tc}:(c.cons i r h v g).note i=⟨i,g.rd,di h g⟩:=by simp[Tc.note,Tc.cons]
def Bq.cons{i:Nat}{o:yH}(f:all[i]?=O o){notes m:List aG}{n g l:Tr E}{h h' u h1:H}{v:E}{c:Tc}(b:Bq T P all bs pc (i+1) all.size m g h' l u c)
 (B:Um T P all bs pc i o n h v h1 g)(p:Bw h h1 h')(C:∀x∈notes,x∈m)(w:(h1.rd=0/\di h h1=0)\/(⟨i,h1.rd,di h h1⟩∈m/\∀x∈notes,Am.apart (aE bs i) ⟨i,h1.rd,di h h1⟩ x=Y)):
 Bq T P all bs pc i all.size notes n h l u (c.cons i n h v h1):=by
 have F:i<all.size:=(zd.1 f).1;refine⟨by simp[Tc.cons],by simp[Tc.cons],?_,?_,λk q d=>?_,λj k Q r y=>?_,λx A k q d=>?_⟩
 .simp only[Tc.cons];rw[if_neg (by omega)];exact b.tmn
 .simp only[Tc.cons];rw[if_neg (by omega)];exact b.hn
 .by_cases e:k=i
  .subst e;refine⟨o,f,?_,?_⟩
   .simp only[Tc.cons,if_true];rw[if_neg (by omega),b.gp];exact B
   .simp only[Tc.cons,if_true];rw[if_neg (by omega),b.h0];exact p
  .let⟨L,M,N,p4⟩:=b.step k (by omega) d;refine⟨L,M,?_,?_⟩
   .simp only[Tc.cons,if_neg e];rw[if_neg (by omega)];exact N
   .simp only[Tc.cons,if_neg e];rw[if_neg (by omega)];exact p4
 .rw[Tc.Ng (k:=k) (by omega)];by_cases e:j=i
  .subst e;rw[Tc.QN];rcases w with⟨s,t⟩|⟨a,_⟩
   .exact ahV _ _ _ s t
   .exact b.acT _ a k (by omega) y
  .rw[Tc.Ng e];exact b.apart j k (by omega) r y
 .by_cases e:k=i
  .subst e;rw[Tc.QN];rcases w with⟨s,t⟩|⟨_,a⟩
   .exact agN _ _ _ s t
   .exact a x A
  .rw[Tc.Ng e];exact b.acT x (C x A) k (by omega) d
def Bq.none{notes:List aG}(a:Tr E)(h:H):Bq T P all bs pc all.size all.size notes a h a h ⟨λ_=>a,λ_=>h,λ_=>yh,λ_=>h⟩:=
 ⟨rfl,rfl,rfl,rfl,λk b c=>by omega,λj k b c d=>by omega,λx e k b c=>by omega⟩
def KJ(all:Array yH)(bs:Tr Nat)(p i:Nat)(c:Tc)(notes:List aG):Prop:=
 (∀k,i<=k->k<all.size->k=p\/(aE bs p).testBit k=Y\/∀x,(c.note k).wr.testBit x=Y->(c.h k).n<=x/\x<(c.h1 k).n)/\∀x∈notes,calm p (aE bs p) x=Y\/GP all x=Y
def ajo{x:aG}(h:calm n k x=Y):x.i=n\/k.testBit x.i=Y\/x.wr=0:=by
 unfold calm at h;cases b:zV x.i n with
 |true=>exact zq (hJ b)
 |false=>
  rw[b,cond_false]at h;cases a:aN k x.i with
  |true=>rw[JG]at a;exact zt (zq a)
  |false=>rw[a,cond_false]at h;exact zt (zt (hJ h))
def agf{l:List aG}(h:gh n k (qu all l)=Y):∀x∈l,calm n k x=Y\/GP all x=Y:=by
 intro x a;cases b:GP all x with
 |true=>exact zt rfl
 |false=>exact zq (X1 h x (List.mem_filter.2 ⟨a,by rw[b];rfl⟩))
def KJ.cons{p i:Nat}{o:yH}{c:Tc}{notes d:List aG}{g:Tr E}{h h1:H}{v:E}(f:all[i]?=O o)(j:G7 o.op=Y->h1.wr=0)(C:KJ all bs p (i+1) c d)(l:∀x∈notes,x∈d)
 (m:(h1.rd=0/\di h h1=0)\/(⟨i,h1.rd,di h h1⟩∈d/\∀x∈notes,Am.apart (aE bs i) ⟨i,h1.rd,di h h1⟩ x=Y)):KJ all bs p i (c.cons i g h v h1) notes:=by
 refine⟨λk s n=>?_,λx b=>C.2 x (l x b)⟩;by_cases e:k=i
 .subst e;rw[Tc.QN];rcases m with⟨_,a⟩|⟨a,_⟩
  .refine zt (zt λx b=>?_);have b:(di h h1).testBit x=Y:=b;rw[a]at b;simp at b
  .rcases C.2 _ a with q|q
   .rcases ajo q with q|q|q
    .exact zq q
    .exact zt (zq q)
    .refine zt (zt λx b=>?_);have q:di h h1=0:=q;have b:(di h h1).testBit x=Y:=b;rw[q]at b;simp at b
   .refine zt (zt λx b=>?_)
    have r:G7 o.op=Y:=by
     unfold GP at q;have:all.toList[k]?=O o:=by simpa using f
     rw[this]at q;exact q
    have b:(zi h1.wr (dr h.n h1.n)).testBit x=Y:=b;rw[j r]at b;rcases qp b with b|b
    .simp at b
    .simpa[Tc.cons]using(xy _ _ _).1 b
 .rw[Tc.Ng e];have:=C.1 k (by omega) n;simpa[Tc.cons,e]using this
def QJ(g:bM T P){Q:zC->ag}(j:iB T P Q){p:Nat}{m:List zO}:∀(l:List yH)(i:Nat)(notes:List aG)(s:S)(e:Ex)(f:S),l=all.toList.drop i->i<=all.size->p<i->
 nr T Q all bs p m l i notes s=.c e f->e=.panic m/\f.df=s.df/\f.ab=s.ab/\∃c a,Bq T P all bs (O (p,m)) i all.size notes s.tm s.h a f.h c/\f.tm=jS all.toList a/\KJ all bs p i c notes
 |[],i,notes,s,e,f,u,R,hp,b=>by
  rw[age]at b;let⟨tm,df,h,ab⟩:=s;have b:cond (gh p (aE bs p) (qu all notes)) (.c (.panic m) ⟨jS all.toList tm,df,h,ab⟩) .f=ag.c e f:=b;have hn:=drop_nil u R;subst hn;cases w:gh p (aE bs p) (qu all notes)with
  |false=>rw[w]at b;cases b
  |true=>
   rw[w,cond_true]at b;cases b;exact⟨rfl,rfl,rfl,_,tm,.none tm h,rfl,λk h1 h2=>by omega,agf w⟩
 |o::l,i,notes,s,e,f,u,R,hp,b=>by
  rw[QM]at b;let⟨d,q,r⟩:=Zb u;cases t:aN (aE bs i) p with
  |true=>
   rw[t,cond_true]at b;rw[JG]at t;obtain⟨rfl,y,A,c,a,B,F,C⟩:=QJ g j l (i+1) notes s e f r q (by omega) b;have V:(s.h.f.rd=0/\di s.h s.h.f=0)\/(⟨i,s.h.f.rd,di s.h s.h.f⟩∈notes/\∀x∈notes,Am.apart (aE bs i) ⟨i,s.h.f.rd,di s.h s.h.f⟩ x=Y):=zq ⟨aae _,Za _⟩;exact⟨rfl,y,A,_,a,B.cons (v:=yh) (h1:=s.h.f) d (zt ⟨⟨p,m,rfl,zt t⟩,rfl,zq ⟨rfl,λp' H h=>by injection h with h;injection h with h _;omega⟩⟩) (.fresh s.h) (λx L=>L) V,F,C.cons d (λ_=>by rw[fm]) (λx L=>L) V⟩
  |false=>
   rw[t,cond_false]at b
   have M:¬HV bs (O (p,m)) i:=by
    rintro⟨p',H,h,n⟩;injection h with h;cases h;rcases n with n|n
    .omega
    .rw[<-JG,t]at n;cases n
   rcases Xj g j d b (by simp)with⟨v,h1,n,l',N,q2,q3,W,q7,X⟩|⟨_,_,_,_,N,_⟩
   .obtain⟨rfl,y,A,c,a,B,F,C⟩:=QJ g j l (i+1) l' _ e f r q (by omega) N;exact⟨rfl,y,A,_,a,B.cons d (zq ⟨M,q2,rfl⟩) q3 W X,F,C.cons d q7 W X⟩
   .cases N
def Xn(n:bM T P){X:zC->ag}(q:iB T P X)(m:∀k j,(aE bs k).testBit j=Y->k<all.size->j<k):∀(l:List yH)(i:Nat)(notes:List aG)(s:S)(e:Ex)(d:S),l=all.toList.drop i->i<=all.size->
 oo T X all bs l i notes s=.c e d->d.df=s.df/\d.ab=s.ab/\∃c pc a,Bq T P all bs pc i all.size notes s.tm s.h a d.h c/\
  ((pc=U/\e=.Nr/\d.tm=a)\/∃p f,pc=O (p,f)/\i<=p/\p<all.size/\e=.panic f/\d.tm=jS all.toList a/\KJ all bs p i c notes)
 |[],i,notes,s,e,d,B,hi,u=>by rw[ags]at u;cases u;have hn:=drop_nil B hi;subst hn;exact⟨rfl,rfl,_,U,_,.none s.tm s.h,zq ⟨rfl,rfl,rfl⟩⟩
 |o::l,i,notes,s,e,d,B,hi,u=>by
  rw[agd]at u;let⟨b,g,w⟩:=Zb B;rcases Xj n q b u (by simp)with⟨v,h1,r,F,H,L,M,x,N,y⟩|⟨f,h1,r,F,H,L,M,x,N,y⟩
  .let⟨Q,R,c,pc,a,V,t⟩:=Xn n q m l (i+1) F _ e d w g H
   have W:¬HV bs pc i:=by
    rintro⟨p',PZ,h,r⟩;rcases t with⟨A,_⟩|⟨p,f,A,h3,_⟩
    .rw[A]at h;cases h
    .rw[A]at h;injection h with h;cases h;rcases r with r|r
     .omega
     .have:=m _ _ r g;omega
   refine⟨Q,R,_,pc,a,V.cons b (zq ⟨W,L,rfl⟩) M x y,?_⟩;rcases t with t|⟨p,f,A,h3,h4,h5,h6,C⟩
   .exact zq t
   .exact zt ⟨p,f,A,by omega,h4,h5,h6,C.cons b N x y⟩
  .obtain⟨rfl,Q,R,c,a,V,t,C⟩:=QJ n q l (i+1) F _ e d w g (by omega) H;exact⟨Q,R,_,O (i,f),a,V.cons (v:=yh) b (zt ⟨⟨i,f,rfl,zq rfl⟩,rfl,zt ⟨f,rfl,L⟩⟩) M x y,zt ⟨i,f,rfl,zR _,g,rfl,t,C.cons b N x y⟩⟩
end trace
end
section
variable{T:au}{P:zo}
theorem XK{all:List yH}{a:Nat}{b:yH}:∀{l:List yH}{i j:Nat},G9 all a b l i j=Y->∀k o,l[k]?=O o->i+k<j->TB all a (i+k) o b=Y
 |[],_,_,_,k,o,h,_=>by simp at h
 |x::l,i,j,e,0,o,h,c=>by
  simp at h;subst h;unfold G9 at e;rw[zX,wO]at e;rcases e.1 with q|q
  .have:=fC q;omega
  .exact q
 |x::l,i,j,e,k+1,o,h,c=>by unfold G9 at e;rw[zX]at e;have:=XK e.2 k o (by simpa using h) (by omega);rw[show i+(k+1)=i+1+k from by omega];exact this
theorem Mw{all:List yH}{a:Tr Nat}:∀{l:List yH}{j:Nat},Cw all a l j=Y->∀k o,l[k]?=O o->
 (∀e∈o.after.toList,Oe (j+k) e=Y)/\G9 all (aE a (j+k)) o all 0 (j+k)=Y
 |[],_,_,k,o,h=>by simp at h
 |x::l,j,e,0,o,h=>by simp at h;subst h;unfold Cw at e;rw[zX,zX,zX]at e;exact⟨wH.1 e.1,e.2.2.1⟩
 |x::l,j,e,k+1,o,h=>by unfold Cw at e;rw[zX,zX,zX]at e;have:=Mw e.2.2.2 k o (by simpa using h);rw[show j+(k+1)=j+1+k from by omega];exact this
theorem aa9{i:Nat}{e:Edge}(h:Oe i e=Y)(hb:pJ e=Y):e.on<i:=by unfold Oe at h;rw[hb]at h;exact fC h
theorem ahW{all:List yH}{o:yH}{t:xw}(h:Operand.tmp t∈cG o.op):looks all o t=Y:=by unfold looks;rw[wO];left;rw[List.any_eq_true];exact⟨_,h,by unfold acO;exact ek rfl⟩
theorem agO{all:List yH}{o x:yH}{want:Bool}{t:xw}(a:o.guard=O (n,want))(b:all[n]?=O x)(c:x.dst=O t):looks all o t=Y:=by unfold looks;rw[wO];right;simp only[a,b,c];exact ek rfl
theorem Nh{e:Edge}:ss x8 e=pJ e:=by unfold ss pJ;cases e.ground<;>rfl
structure Mx(T:au)(P:zo) where
 all:Array yH
 c:Tc
 Γ:gy
 m0:M
 hD0:Nat->Option ai
 pc:Option (Nat×List zO):=U
def Mx.Dy(X:Mx T P)(i:Nat):Nat:=aE (bj X.all.toList 0 .Nl) i
def Mx.wn(X:Mx T P)(j b:Nat):Prop:=(di (X.c.h j) (X.c.h1 j)).testBit b=Y
structure iW(X:Mx T P):Prop where
 tr:∃Iz hE,Bq T P X.all (bj X.all.toList 0 .Nl) X.pc 0 X.all.size [] (X.c.tm 0) (X.c.h 0) Iz hE X.c
 ok:Cw X.all.toList (bj X.all.toList 0 .Nl) X.all.toList 0=Y
 fin:Fin X.Γ (X.c.h X.all.size)
structure FN(X:Mx T P):Prop where
 avt:∀b o,(X.c.h 0).g b=O o->b<(X.c.h 0).n
 fY:(X.c.h 0).b<=(X.c.h 0).n
section facts
variable{X:Mx T P}(H:iW X)
include H
theorem iW.step{k:Nat}(b:k<X.all.size):∃o,X.all[k]?=O o/\Um T P X.all (bj X.all.toList 0 .Nl) X.pc k o (X.c.tm k) (X.c.h k) (X.c.v k) (X.c.h1 k) (X.c.tm (k+1))/\(X.c.tm (k+1)=eG (X.c.tm k) (X.c.v k) o.dst\/X.c.tm (k+1)=X.c.tm k)/\Bw (X.c.h k) (X.c.h1 k) (X.c.h (k+1)):=by
 let⟨_,_,t⟩:=H.tr;let⟨o,h1,a,c⟩:=t.step k (ya _) b;refine⟨o,h1,a,?_,c⟩;rcases a with⟨_,_,q⟩|⟨_,q,_⟩
 .exact zq q
 .exact zt q
theorem iW.TG(c:k<X.all.size){t:xw}(b:∀o,X.all[k]?=O o->o.dst≠O t):(X.c.tm (k+1)).g t=(X.c.tm k).g t:=by
 let⟨o,h1,_,a,_⟩:=H.step c;rcases a with a|a
 .rw[a];cases hd:o.dst with
  |none=>rfl
  |some d=>
   rw[Y2,Tr.Ba];rintro rfl;exact b o h1 hd
 .rw[a]
theorem iW.le(a:k<X.all.size):Le (X.c.h k).f (X.c.h1 k):=by
 let⟨o,_,b,_⟩:=H.step a;rcases b with⟨_,⟨_,_,e⟩|⟨_,l,_⟩,_⟩|⟨_,_,⟨e,_⟩|⟨_,_,_,l,_⟩⟩
 .rw[e];exact .refl _
 .exact l
 .rw[e];exact .refl _
 .exact l
theorem iW.Uo(a:k<X.all.size):(X.c.h k).n<=(X.c.h1 k).n:=by have:=(H.le a).next;rw[fm]at this;exact this
theorem iW.EO(a:k<X.all.size):(X.c.h (k+1)).n=(X.c.h1 k).n:=by let⟨_,_,_,_,b⟩:=H.step a;exact b.next
theorem iW.mono{i j:Nat}(a:i<=j)(c:j<=X.all.size):(X.c.h i).n<=(X.c.h j).n:=by
 induction j with
 |zero=>have:i=0:=by omega
        subst this;exact zR _
 |succ j b=>
  by_cases e:i=j+1
  .subst e;exact zR _
  .have d:=b (by omega) (by omega);have f:=H.Uo (k:=j) (by omega);have g:=H.EO (k:=j) (by omega);omega
theorem iW.acU{i b:Nat}:∀{j:Nat},i<=j->j<=X.all.size->(X.c.h i).n<=b->b<(X.c.h j).n->∃k,i<=k/\k<j/\(X.c.h k).n<=b/\b<(X.c.h1 k).n:=by
 intro j;induction j with
 |zero=>
  intro a _ c d;have:i=0:=by omega
  subst this;omega
 |succ j f=>
  intro a l c d;by_cases g:i=j+1
  .subst g;omega
  .by_cases e:b<(X.c.h j).n
   .let⟨k,h,m,q3⟩:=f (by omega) (by omega) c e;exact⟨k,h,by omega,q3⟩
   .have n:=H.EO (k:=j) (by omega);exact⟨j,by omega,by omega,by omega,by omega⟩
theorem iW.gl{i b:Nat}(hb:b<(X.c.h i).n):∀{j:Nat},i<=j->j<=X.all.size->(∀k,i<=k->k<j->¬X.wn k b)->(X.c.h j).g b=(X.c.h i).g b:=by
 intro j;induction j with
 |zero=>intro d _ _;have:i=0:=by omega
        subst this;rfl
 |succ j f=>
  intro d n a;by_cases g:i=j+1
  .subst g;rfl
  .rw[<-f (by omega) (by omega) (λk h o=>a k h (by omega))];let⟨_,_,_,_,l⟩:=H.step (k:=j) (by omega);have e:=H.le (k:=j) (by omega);have c:b<(X.c.h j).n:=Nat.lt_of_lt_of_le hb (H.mono (by omega) (by omega));rw[l.get];have m:=e.gl b (by rw[fm];exact c) (by rw[e.base,fm];exact c) (λq=>a j (by omega) (by omega) (rA q));rw[m,fm];rfl
theorem iW.ats{i j :Nat}(d:i<j)(e:j<=X.all.size)(hb:n<(X.c.h1 i).n)(a:∀k,i<k->k<j->¬X.wn k n):(X.c.h j).g n=(X.c.h1 i).g n:=by let⟨_,_,_,_,c⟩:=H.step (k:=i) (by omega);rw[<-c.get];exact H.gl (i:=i+1) (by rw[c.next];exact hb) (by omega) e (λk g f=>a k (by omega) f)
theorem iW.dy(Jj:FN X):∀{k:Nat},k<=X.all.size->∀b o,(X.c.h k).g b=O o->b<(X.c.h k).n:=by
 intro k;induction k with
 |zero=>exact λ_=>Jj.avt
 |succ k c=>
  intro d b o hb;let⟨_,_,_,_,a⟩:=H.step (k:=k) (by omega);rw[a.get]at hb;rw[a.next];refine(H.le (k:=k) (by omega)).dy ?_ b o hb;intro b o hb;rw[fm]at hb⊢;exact c (by omega) b o hb
theorem iW.base:∀{k:Nat},k<=X.all.size->(X.c.h k).b=(X.c.h 0).b:=by
 intro k;induction k with
 |zero=>exact λ_=>rfl
 |succ k a=>
  intro c;let⟨_,_,_,_,b⟩:=H.step (k:=k) (by omega);rw[b.base,a (by omega)]
theorem iW.adC{i :Nat}:∀{j:Nat},i<=j->j<=X.all.size->(X.c.h i).rd.testBit n=Y->(X.c.h j).rd.testBit n=Y:=by
 intro j;induction j with
 |zero=>intro a _ h;have:i=0:=by omega
        subst this;exact h
 |succ j c=>
  intro a f h;by_cases d:i=j+1
  .subst d;exact h
  .let⟨_,_,_,_,e⟩:=H.step (k:=j) (by omega);exact e.rd0 n (c (by omega) (by omega) h)
theorem iW.Pm{i :Nat}:∀{j:Nat},i<=j->j<=X.all.size->(X.c.h i).wr.testBit n=Y->(X.c.h j).wr.testBit n=Y:=by
 intro j;induction j with
 |zero=>intro a _ h;have:i=0:=by omega
        subst this;exact h
 |succ j c=>
  intro a f h;by_cases d:i=j+1
  .subst d;exact h
  .let⟨_,_,_,_,e⟩:=H.step (k:=j) (by omega);exact e.wr0 n (c (by omega) (by omega) h)
theorem iW.hi(Jj:FN X){b:Nat}(hb:(X.c.h 0).n<=b):X.Γ.cX b/\X.Γ.s8 b:=
 H.fin.hi b (by rw[H.base (zR _)];have:=Jj.fY;omega)
theorem iW.cX{i :Nat}(hi:i<X.all.size)(h:(X.c.h1 i).rd.testBit n=Y):X.Γ.cX n:=by
 let⟨_,_,_,_,a⟩:=H.step hi;rcases a.rd n h with q|q
 .exact(H.fin.hi n (by rw[H.base (k:=X.all.size) (zR _),<-H.base (k:=i+1) (by omega)];exact q)).1
 .exact H.fin.rd n (H.adC (i:=i+1) (by omega) (zR _) q)
omit H in
theorem NA{j :Nat}(h:X.wn j n):(X.c.h1 j).wr.testBit n=Y\/((X.c.h j).n<=n/\n<(X.c.h1 j).n):=by
 rcases qp h with h|h
 .exact zq h
 .exact zt ((xy _ _ _).1 h)
omit H in
theorem NB{j :Nat}(a:(X.c.h j).n<=n)(c:n<(X.c.h1 j).n):X.wn j n:=by exact DT ((xy _ _ _).2 ⟨a,c⟩)
theorem iW.s8(Jj:FN X){i :Nat}(hi:i<X.all.size)(h:X.wn i n):X.Γ.s8 n:=by
 rcases NA h with h|⟨c,_⟩
 .let⟨_,_,_,_,a⟩:=H.step hi;rcases a.wr n h with q|q
  .exact(H.fin.hi n (by rw[H.base (k:=X.all.size) (zR _),<-H.base (k:=i+1) (by omega)];exact q)).2
  .exact H.fin.wr n (H.Pm (i:=i+1) (by omega) (zR _) q)
 .exact(H.hi Jj (by have:=H.mono (i:=0) (j:=i) (by omega) (by omega);omega)).2
theorem iW.ord{j i :Nat}(e:j<i)(hi:i<X.all.size)(h:(X.wn j n/\((X.c.h1 i).rd.testBit n=Y\/X.wn i n))\/(X.wn i n/\(X.c.h1 j).rd.testBit n=Y)):(X.Dy i).testBit j=Y:=by
 let⟨_,_,t⟩:=H.tr;have a:=t.apart j i (ya _) e hi;unfold Am.apart at a;cases hb:aN (aE (bj X.all.toList 0 .Nl) i) (X.c.note j).i with
 |true=>rw[JG]at hb;exact hb
 |false=>
  rw[hb,cond_false]at a;let⟨f,a⟩:=iG a;let⟨g,k⟩:=iG a;exfalso;rcases h with⟨d,c|c⟩|⟨d,c⟩
  .exact RU g n d c
  .exact RU k n c d
  .exact RU f n d c
theorem iW.pair{j i:Nat}(c:j<i){a b:yH}(d:X.all[j]?=O a)(hi:X.all[i]?=O b):(X.Dy i).testBit j=Y\/
 (Oc X.all.toList b a.dst=G/\Oc X.all.toList a b.dst=G/\aa3 a.dst b.dst=G):=by
 have h:=(Mw H.ok i b (by simpa using hi)).2;rw[xF]at h;have:=XK h j a (by simpa using d) (by omega);rw[xF]at this;unfold TB at this;rw[wO]at this;rcases this with h|h
 .rw[JG]at h;exact zq h
 .rw[zX,zX]at h;exact zt ⟨by simpa using h.1,by simpa using h.2.1,by simpa using h.2.2⟩
theorem iW.OP{i:Nat}{o:yH}(hi:X.all[i]?=O o):∀e∈o.after.toList,pJ e=Y->e.on<i:=by intro e a hb;have:=(Mw H.ok i o (by simpa using hi)).1 e a;rw[xF]at this;exact aa9 this hb
end facts
structure Fg(X:Mx T P)(Dd:Nat->Prop)(m:M)(hD:Nat->Option ai)(w:zu):Prop where
 obj:∀b o,hD b=O o->∃pl o',m b=O pl/\w.heap[pl.aH]?=O o'/\OR T m pl o o'
 inj:∀b b' pl Dt,hD b≠U->hD b'≠U->m b=O pl->m b'=O Dt->pl.aH=Dt.aH->b=b'
 cD:∀c,X.Γ.gl c->w.heap[c]?=X.Γ.w0.heap[c]?
 ez:∀c,X.Γ.gl c->c<X.Γ.w0.heap.size
 size:X.Γ.w0.heap.size<=w.heap.size
 eC:∀b pl,hD b≠U->m b=O pl->¬X.Γ.gl pl.aH
 same:jZ X.Γ.w0 w
 dm:∀b,(X.c.h 0).n<=b->b<(X.c.h X.all.size).n->m b≠U->∃j,j<X.all.size/\Dd j/\(X.c.h j).n<=b/\b<(X.c.h1 j).n
 gj:ct X.m0 m
 gm:∀b,(b<(X.c.h 0).n\/(X.c.h X.all.size).n<=b)->m b=X.m0 b
 A:∀i,i<=X.all.size->∀b,b<(X.c.h i).n->X.Γ.cX b->m b≠U->(∀j,j<X.all.size->X.wn j b->(Dd j<->j<i))->hD b=(X.c.h i).g b
 A2:∀b,(∀j,j<X.all.size->¬X.wn j b)->hD b=X.hD0 b
 A3:∀b,(X.c.h X.all.size).n<=b->hD b=X.hD0 b
 closed:∀i,Dd i->∀j,(X.Dy i).testBit j=Y->Dd j
 de:(∀c l,m.im c=O l->(∃e f,w.heap[c]?=O (yP ⟨l⟩ e f))/\∀b pl,hD b≠U->m b=O pl->pl.aH≠c)
 fD:∀c,X.Γ.gl c->m.im c=X.m0.im c
structure mE(X:Mx T P)(Dd:Nat->Prop)(nt:Nat)(a:uv)(m:M)(hD:Nat->Option ai)(w:zu):Prop extends Fg X Dd m hD w where
 B:∀i,i<=X.all.size->∀t v,(X.c.tm i).g t=O v->(∀j o,X.all[j]?=O o->o.dst=O t->(Dd j<->j<i))->∃v',a.tmps[t]?=O v'/\VR m v v'
 nt:a.tmps.size=nt
theorem Fg.live{X:Mx T P}{Dd:Nat->Prop}{m:M}{hD:Nat->Option ai}{w:zu}(Q:Fg X Dd m hD w)(h:m n=U):hD n=U:=by
 cases e:hD n with
 |none=>rfl
 |some o=>let⟨c,d,a,_⟩:=Q.obj n o e;rw[h]at a;cases a
structure Core(X:Mx T P)(i:Nat)(m m':M)(hD dW:Nat->Option ai)(w':zu):Prop where
 c1:ct m m'
 c3:∀x,((X.c.h i).n<=x/\x<(X.c.h1 i).n)\/m' x=m x
 c4:∀x,¬X.wn i x->dW x=hD x
 c4b:∀x,(X.c.h1 i).n<=x->dW x=hD x
 c5:∀x,X.wn i x->x<(X.c.h1 i).n->m' x≠U->dW x=(X.c.h1 i).g x
 c6:∀x o,dW x=O o->∃pl o',m' x=O pl/\w'.heap[pl.aH]?=O o'/\OR T m' pl o o'
 c7:∀x x' pl Dt,dW x≠U->dW x'≠U->m' x=O pl->m' x'=O Dt->pl.aH=Dt.aH->x=x'
 c8:∀c,X.Γ.gl c->w'.heap[c]?=X.Γ.w0.heap[c]?
 c9:X.Γ.w0.heap.size<=w'.heap.size
 P0:∀x pl,dW x≠U->m' x=O pl->¬X.Γ.gl pl.aH
 P2:jZ X.Γ.w0 w'
 c13:∀c l,m'.im c=O l->(∃e f,w'.heap[c]?=O (yP ⟨l⟩ e f))/\∀b pl,dW b≠U->m' b=O pl->pl.aH≠c
 c14:∀c,X.Γ.gl c->m'.im c=m.im c
section aoQ
variable{X:Mx T P}(H:iW X)(Jj:FN X){Dd:Nat->Prop}{nt:Nat}{a:uv}{m:M}{hD:Nat->Option ai}{w:zu}(Q:mE X Dd nt a m hD w)(oC:∀o∈X.all.toList,qU nt o=Y)
 {i:Nat}(hi:i<X.all.size)(ja:¬Dd i)(hb:∀j,(X.Dy i).testBit j=Y->Dd j)
include H Q hi ja hb
theorem mE.slot{o:yH}(d:X.all[i]?=O o):∀t v,looks X.all.toList o t=Y->(X.c.tm i).g t=O v->∃e,a.tmps[t]?=O e/\VR m v e:=by
 intro t v f k;refine Q.B i (by omega) t v k λj n b g=>?_;rcases w7 j i with h|h|h
 .refine⟨λ_=>h,λ_=>?_⟩;rcases H.pair h b d with q|⟨q,_⟩
  .exact hb j q
  .rw[g]at q;have q:looks X.all.toList o t=G:=q;rw[f]at q;cases q
 .subst h;exact⟨λh=>absurd h ja,λh=>by omega⟩
 .refine⟨λc=>?_,λp=>by omega⟩;have l:j<X.all.size:=(zd.1 b).1;rcases H.pair h d b with q|⟨_,q,_⟩
  .exact absurd (Q.closed j c i q) ja
  .rw[g]at q;have q:looks X.all.toList o t=G:=q;rw[f]at q;cases q
include oC in
theorem mE.rel{o:yH}(c:X.all[i]?=O o):qR (X.c.tm i) a.eval (cG o.op) m:=by
 let⟨d,hconst⟩:=Ss (oC o (by have:=wA c;simpa using this));intro x e u b;cases x with
 |tmp t=>
  let⟨j,h1,h⟩:=Q.slot H hi ja hb c t u (ahW e) b;show VR m u (a.tmps.getD t yh);rw[wT,h1];exact h
 |const v=>have b:O v=O u:=b;cases b;exact VR.Ac m (hconst _ e)
 |global g=>cases b
 |func f=>have b:O (zU (za f) #[] #[])=O u:=b;cases b;exact .func f .Nl .Nl
theorem mE.want{o:yH}(b:X.all[i]?=O o):∀q,Am.wanted X.all (X.c.tm i) o.guard=O q->yw o (wX X.all a.tmps)=q:=by intro q e;exact Yr (λg want x d v c f h j=>Q.slot H hi ja hb b d v (agO c f h) j) e
include Jj in
theorem mE.fy:∀x,x<(X.c.h i).n->((X.c.h1 i).rd.testBit x=Y\/X.wn i x)->m x≠U->hD x=(X.c.h i).g x:=by
 let⟨_,_,_,_,c⟩:=H.step hi;have g:(X.c.h 0).n<=(X.c.h i).n:=H.mono (by omega) (by omega);intro x l a n
 have d:X.Γ.cX x:=by
  rcases a with a|a
  .exact H.cX hi a
  .rcases NA a with q|⟨q,_⟩
   .rcases c.wr x q with q|q
    .exact(H.fin.hi x (by rw[H.base (k:=X.all.size) (zR _),<-H.base (k:=i+1) (by omega)];exact q)).1
    .exact H.fin.wt x (H.Pm (i:=i+1) (by omega) (zR _) q)
   .exact(H.hi Jj (by omega)).1
 refine Q.A i (by omega) x l d n λj f b=>?_;rcases w7 j i with h|h|h
 .refine⟨λ_=>h,λ_=>hb j (H.ord h hi (zq ⟨b,a⟩))⟩
 .subst h;exact⟨λh=>absurd h ja,λh=>by omega⟩
 .refine⟨λe=>?_,λp=>by omega⟩
  have o:(X.Dy j).testBit i=Y:=by
   rcases a with a|a
   .exact H.ord h f (zt ⟨b,a⟩)
   .exact H.ord h f (zq ⟨a,zt b⟩)
  exact absurd (Q.closed j e i o) ja
omit hb in
theorem mE.alY(d:X.c.h1 i=(X.c.h i).f):Core X i m m hD hD w:=by
 have a:∀x,¬X.wn i x:=λx b=>by
  rcases NA b with q|⟨e,c⟩
  .rw[d,fm]at q;simp at q
  .rw[d,fm]at c;have c:x<(X.c.h i).n:=c;omega
 exact⟨.refl _,λ_=>zt rfl,λ_ _=>rfl,λ_ _=>rfl,λx b=>absurd b (a x),Q.obj,Q.inj,Q.cD,Q.size,Q.eC,Q.same,Q.de,λ_ _=>rfl⟩
include Jj in
theorem mE.enter(t:Le (X.c.h i).f (X.c.h1 i)):∃c:gy,Fin c (X.c.h1 i)/\Inv T c m hD (X.c.h i).f w/\∀r g u,ct m r->Inv T c r g (X.c.h1 i) u->Core X i m r hD g u:=by
 have C:=H.Uo hi;have v:=H.EO hi;have L:(X.c.h 0).n<=(X.c.h i).n:=H.mono (by omega) (by omega);have M:(X.c.h1 i).n<=(X.c.h X.all.size).n:=by rw[<-v];exact H.mono (by omega) (zR _)
 have d:=Q.fy H Jj hi ja hb;let c:gy:=⟨X.Γ.w0,m,hD,(X.c.h i).n,(X.c.h1 i).n,λx=>(X.c.h1 i).rd.testBit x=Y\/X.wn i x\/(X.c.h i).n<=x,λx=>X.wn i x\/(X.c.h i).n<=x,X.Γ.gl⟩;have k:(X.c.h1 i).b=(X.c.h i).n:=by rw[t.base,fm]
 have F:Fin c (X.c.h1 i):=⟨zR _,λx b=>by rw[k]at b;exact⟨zt (zt b),zt b⟩,λx b=>zq b,λx b=>zq (rA b),λx b=>zt (zq (rA b))⟩;have l:=fm (X.c.h i);have q:∀x,(X.c.h i).f.g x=(X.c.h i).g x:=λx=>by rw[l];rfl
 have f:(X.c.h i).f.n=(X.c.h i).n:=by rw[l]
 have a:Inv T c m hD (X.c.h i).f w:=by
  refine{obj:=Q.obj,inj:=Q.inj,cD:=Q.cD,ez:=Q.ez,size:=Q.size,eC:=Q.eC,same:=Q.same,fy:=λx b p n=>?_,dy:=λx o b=>?_,fresh:=λx N y=>?_,fY:=(by rw[l];exact zR _),gj:=.refl _,gm:=λ_ _=>rfl,gv:=(by rw[f];exact zR _),ie:=λ_ _=>rfl,de:=Q.de,fD:=λ_ _=>rfl}
  .rw[f]at b;rw[q];rcases p with p|p|p
   .exact d x b (zq p) n
   .exact d x b (zt p) n
   .omega
  .rw[f];rw[q]at b;exact H.dy Jj (by omega) x o b
  .rw[f]at N
   have n:m x=U:=by
    cases s:m x with
    |none=>rfl
    |some V=>
     let⟨j,P,R,W,j4⟩:=Q.dm x (by omega) (by show x<_;have:x<(X.c.h1 i).n:=y;omega) (by rw[s];simp);exfalso;have y:x<(X.c.h1 i).n:=y;rcases w7 j i with h|h|h
     .have:=H.EO P;have:=H.mono (i:=j+1) (j:=i) (by omega) (by omega);omega
     .subst h;exact ja R
     .have:=H.mono (i:=i+1) (j:=j) (by omega) (by omega);omega
   exact⟨n,Q.live n⟩
 refine⟨c,F,a,λr g u S e=>⟨S,λx=>?_,λx b=>?_,λx b=>e.ie x (zt b),λx b A n=>?_,e.obj,e.inj,e.cD,e.size,e.eC,e.same,e.de,e.fD⟩⟩
 .by_cases s:(X.c.h i).n<=x/\x<(X.c.h1 i).n
  .exact zq s
  .exact zt (e.gm x (by show x<(X.c.h i).n\/(X.c.h1 i).n<=x;omega))
 .refine e.ie x ?_;by_cases s:x<(X.c.h i).n
  .left;rintro(h|h)
   .exact b h
   .omega
  .right;show(X.c.h1 i).n<=x;by_cases B:(X.c.h1 i).n<=x
   .exact B
   .exact absurd (NB (by omega) (by omega)) b
 .exact e.fy x A (zt (zq b)) n
theorem mE.mem(C:Core X i m u hD B W):Fg X (λj=>Dd j\/j=i) u B W:=by
 have hn1:=H.Uo hi;have p:=H.EO hi;have jE:(X.c.h1 i).n<=(X.c.h X.all.size).n:=by rw[<-p];exact H.mono (by omega) (zR _)
 have hni:(X.c.h 0).n<=(X.c.h i).n:=H.mono (by omega) (by omega);let⟨c1,w,c4,c4b,c5,c6,c7,c8,c9,P0,P2,y,F⟩:=C;refine{obj:=c6,inj:=c7,cD:=c8,ez:=Q.ez,size:=c9,eC:=P0,same:=P2,dm:=λx L N l=>?_,gj:=Q.gj.trans c1,gm:=λx d=>?_,A:=λv g x d ht l a=>?_,A2:=λx d=>?_,A3:=λx d=>?_,closed:=λj k x d=>?_,de:=y,fD:=λc V=>(F c V).trans (Q.fD c V)}
 .rcases w x with⟨r,n⟩|q
  .exact⟨i,hi,zt rfl,r,n⟩
  .rw[q]at l;let⟨j,j1,j2,j3⟩:=Q.dm x L N l;exact⟨j,j1,zq j2,j3⟩
 .rcases w x with⟨r,n⟩|q
  .omega
  .rw[q];exact Q.gm x d
 .by_cases o:X.wn i x
  .have P:i<v:=(a i hi o).1 (zt rfl)
   have s:∀j,i<j->j<v->¬X.wn j x:=λj L N f=>by
    have R:Dd j:=by
     rcases(a j (by omega) f).2 N with q|q
     .exact q
     .omega
    exact ja (Q.closed j R i (H.ord L (by omega) (zq ⟨o,zt f⟩)))
   have t:x<(X.c.h1 i).n:=by
    by_cases hq:x<(X.c.h1 i).n
    .exact hq
    .exfalso;let⟨j,r,n,q3,q4⟩:=H.acU (i:=i+1) (j:=v) (b:=x) (by omega) g (by rw[p];omega) d;exact s j (by omega) n (NB q3 q4)
   rw[c5 x o t l,H.ats P g t s]
  .rw[c4 x o]
   have S:m x≠U:=by
    rcases w x with⟨r,n⟩|q
    .exact absurd (NB r n) o
    .rw[q]at l;exact l
   refine Q.A v g x d ht S λj k f=>?_;have T:j≠i:=λe=>o (e▸f);rw[<-a j k f];exact⟨zq,λh=>h.resolve_right T⟩
 .rw[c4 x (d i hi)];exact Q.A2 x d
 .rw[c4b x (by omega)];exact Q.A3 x d
 .rcases k with k|k
  .exact zq (Q.closed j k x d)
  .subst k;exact zq (hb x d)
include Jj oC in
theorem mE.step(VB:¬HV (bj X.all.toList 0 .Nl) X.pc i)(b:yW)(rest:List Nat)(k:List vH)(cs:List yW):
 ∃a' r g s,ct m r/\a'.defers=a.defers/\mE X (λj=>Dd j\/j=i) nt a' r g s/\
  xE P (yX (b.atR a (yC X.all (i::rest)::k)) cs w) (yX (b.atR a' (yC X.all rest::k)) cs s):=by
 let⟨o,x,f,_,hou⟩:=H.step hi;let⟨S,hconst⟩:=Ss (oC o (by have:=wA x;simpa using this));have n:=Q.want H hi ja hb x
 have f:Ul T P X.all i o (X.c.tm i) (X.c.h i) (X.c.v i) (X.c.h1 i)/\X.c.tm (i+1)=eG (X.c.tm i) (X.c.v i) o.dst:=by
  rcases f with⟨_,q1,q2⟩|⟨q,_⟩
  .exact⟨q1,q2⟩
  .exact absurd q VB
 let⟨f,htm⟩:=f
 have core:∃(A:E)(r:M)(g:Nat->Option ai)(s:zu),Core X i m r hD g s/\VR r (X.c.v i) A/\
  xE P (yX (b.atR a (yC X.all (i::rest)::k)) cs w) (yX (b.atR (a.put o.dst A) (yC X.all rest::k)) cs s):=by
  rcases f with⟨hw,V,hh⟩|⟨hw,hle,W⟩
  .refine⟨yh,m,hD,w,Q.alY H hi ja hh,by rw[V];exact .undef m,xg ?_⟩;have:=stepR_op_skip (P:=P) (b:=b) (a:=a) (k:=k) (cs:=cs) (w:=w) (ops:=X.all) (i:=i) (rest:=rest) (by rw[x];simpa using n G hw);rw[x]at this;exact this
  .let⟨Γi,F,c,L⟩:=Q.enter H Jj hi ja hb hle;let⟨A,r,g,s,k1,k2,k3,k4⟩:=W Γi m hD w b rest k a cs F c (Q.rel H oC hi ja hb x) (n Y hw);exact⟨A,r,g,s,L r g s k1 k3,k2,k4⟩
 let⟨A,r,g,s,C,c2,VC⟩:=core;refine⟨a.put o.dst A,r,g,s,C.c1,put_defers _ _ _,?_,VC⟩;refine{toFg:=Q.mem H hi ja hb C,B:=λi' Iy t v V l=>?_,nt:=(by rw[Nx];exact Q.nt)};by_cases N:o.dst=O t
 .have hii:i<i':=(l i o x N).1 (zt rfl)
  have oJ:∀j y,i<j->j<i'->X.all[j]?=O y->y.dst≠O t:=λj y h1 h2 R p=>by
   have hjD:Dd j:=by
    rcases(l j y R p).2 h2 with q|q
    .exact q
    .omega
   rcases H.pair h1 x R with q|⟨_,_,q⟩
   .exact ja (Q.closed j hjD i q)
   .rw[N,p]at q;have q:zV t t=G:=q;exact rE q rfl
  have key:∀j,i+1<=j->j<=i'->(X.c.tm j).g t=(X.c.tm (i+1)).g t:=by
   intro j;induction j with
   |zero=>intro h _;omega
   |succ j ih=>
    intro h1 h2;by_cases e:i+1=j+1
    .rw[e]
    .rw[<-ih (by omega) (by omega)];exact H.TG (k:=j) (by omega) λy q1=>oJ j y (by omega) (by omega) q1
  rw[key i' (by omega) (zR _),htm,N,Y2]at V;have:=Tr.D2 _ V;subst this;rw[N];have eU:t<a.tmps.size:=by rw[Q.nt];exact S t N
  exact⟨A,by simp[Act.put,eU],c2⟩
 .let⟨u,h1,h2⟩:=Q.B i' Iy t v V λj y R p=>by
   have hji:j≠i:=λe=>by subst e;rw[x]at R;cases R;exact N p
   rw[<-l j y R p];exact⟨zq,λh=>h.resolve_right hji⟩
  refine⟨u,?_,h2.mono C.c1⟩;cases hdo:o.dst with
  |none=>exact h1
  |some d=>
   have jE:d≠t:=λe=>N (e▸hdo);simp only[Act.put];rw[wC jE];exact h1
include Jj oC in
theorem mE.aU{n:List zO}(g:X.pc=O (i,n))(b:yW)(rest:List Nat)(k:List vH)(s:List yW):
 ∃l e p f,ct m l/\CR l n f/\Fg X (λj=>Dd j\/j=i) l e p/\
  xE P (yX (b.atR a (yC X.all (i::rest)::k)) s w) (yX {b.atR a (yC X.all (i::rest)::k)with mode:=vM f} s p):=by
 let⟨o,u,d,_,x⟩:=H.step hi
 have d:UR T P X.all i o (X.c.tm i) (X.c.h i) n (X.c.h1 i):=by
  rcases d with⟨q,_⟩|⟨_,_,⟨_,q⟩|⟨y,q,A⟩⟩
  .exact absurd ⟨i,n,g,zq rfl⟩ q
  .exact absurd rfl (q i n g)
  .rw[g]at q;injection q with q;cases q;exact A
 let⟨B,hle,r⟩:=d;let⟨t,F,c,h⟩:=Q.enter H Jj hi ja hb hle;let⟨l,e,p,f,v,C,L,M⟩:=r t m hD w b rest k a s F c (Q.rel H oC hi ja hb u) (Q.want H hi ja hb u Y B);exact⟨l,e,p,f,v,C,Q.mem H hi ja hb (h l e p v L),M⟩
end aoQ
theorem Zc{p q:Nat->Bool}:∀{l:List Nat},(∀j∈l,q j=Y->p j=Y)->∀{x:Nat},x∈l->p x=Y->q x=G->l.countP q<l.countP p
 |[],_,x,a,_,_=>by cases a
 |y::l,h,x,a,g,i=>by
  have k:l.countP q<=l.countP p:=List.countP_mono_left λj b=>h j (by simp[b]);rw[sF,sF];by_cases e:x=y
  .subst e;rw[g,i];simp;omega
  .have c:x∈l:=by rcases zp.1 a with d|d;exact absurd d e;exact d
   have m:=Zc (λj b=>h j (by simp[b])) c g i;by_cases f:q y=Y
   .rw[f,h y (by simp) f];simp;omega
   .simp only[f];simp;split<;>omega
def AX(n:Nat)(a:Array Bool):Nat:=(List.range n).countP λi=> !a.getD i Y
theorem aba{i:Nat}{a:Array Bool}(c:a.size=n)(hi:i<n)(h:a.getD i Y=G):AX n (a.setIfInBounds i Y)<AX n a:=by
 refine Zc (λj _ b=>?_) (uO.2 hi) (by simp[h]) ?_
 .by_cases e:i=j
  .subst e;simp[c,hi]at b
  .rw[uX Y e]at b;exact b
 .simp[c,hi]
theorem Eb{a:Array Bool}{i:Nat}(hi:i<a.size):a.getD i Y=a.getD i G:=by simp[hi]
theorem aoR{X:Mx T P}(H:iW X)(Jj:FN X)(R:X.pc=U){nt:Nat}(oC:∀o∈X.all.toList,qU nt o=Y)(b:yW)(k:List vH)(u:List yW):∀(d t:Nat)(c:Array Bool)(a:uv)(m:M)(hD:Nat->Option ai)(w:zu),mE X (λj=>c.getD j G=Y) nt a m hD w->c.size=X.all.size->AX X.all.size c<=d->
 ∃q v f y,ct m v/\q.defers=a.defers/\mE X (λj=>j<X.all.size) nt q v f y/\xE P (yX (b.atR a (yC X.all (Region.linearise.go x8 X.all d t c [])::k)) u w) (yX (b.atR q k) u y):=by
 have finish:∀(c:Array Bool)(a:uv)(m:M)(hD:Nat->Option ai)(w:zu),mE X (λj=>c.getD j G=Y) nt a m hD w->c.size=X.all.size->(∀j,j<X.all.size->c.getD j Y=Y)->
  ∃q v f y,ct m v/\q.defers=a.defers/\mE X (λj=>j<X.all.size) nt q v f y/\xE P (yX (b.atR a (yC X.all []::k)) u w) (yX (b.atR q k) u y):=by
  intro c a m hD w Q r g
  have f:(λj=>c.getD j G=Y)=λj=>j<X.all.size:=by
   funext j;apply propext;constructor
   .intro h;by_cases n:j<c.size
    .omega
    .simp[Array.getElem?_eq_none (by omega:c.size<=j)]at h
   .intro n;rw[<-Eb (by omega)];exact g j n
  rw[f]at Q;exact⟨a,m,hD,w,.refl _,rfl,Q,xg stepR_region_end⟩
 intro d;induction d with
 |zero=>
  intro t c a m hD w Q r hu;have:Region.linearise.go x8 X.all 0 t c []=[]:=rfl;rw[this];refine finish c a m hD w Q r λj n=>?_;cases S:c.getD j Y with
  |true=>rfl
  |false=>
   exfalso;have V:AX X.all.size c=0:=by omega
   unfold AX at V;rw[tQ]at V;exact V j (uO.2 n) (by rw[S];rfl)
 |succ d ih=>
  intro t c a m hD w Q r hu
  have W:Region.linearise.go x8 X.all (d+1) t c []=match(yQ x8 X.all c)[t%I (yQ x8 X.all c)]? with
   |some i=>Region.linearise.go x8 X.all d (t/I (yQ x8 X.all c)) (c.setIfInBounds i Y) [i]
   |none=>[].reverse:=rfl
  rw[W];cases hi:(yQ x8 X.all c)[t%I (yQ x8 X.all c)]? with
  |none=>
   simp only[List.reverse_nil]
   have A:yQ x8 X.all c=[]:=by
    cases hr:yQ x8 X.all c with
    |nil=>rfl
    |cons x xs=>
     rw[hr]at hi;have B:t%I (x::xs)<I (x::xs):=Nat.mod_lt _ (by simp);rw[vA]at hi;omega
   refine finish c a m hD w Q r λj n=>?_;induction j using uL with
   |_ j VD=>
    cases S:c.getD j Y with
    |true=>rfl
    |false=>
     exfalso;have p:∃o,X.all[j]?=O o:=⟨X.all[j],by simp[n]⟩;let⟨o,p⟩:=p
     have:j∈yQ x8 X.all c:=by refine tY.2 ⟨S,o,p,λe he hb=>?_⟩;rw[Nh]at hb;have B:=H.OP p e (by simpa using he) hb;rw[<-Eb (by omega)];exact VD e.on B (by omega)
     rw[A]at this;cases this
  |some i=>
   simp only;rw[linearise_go_acc,uh,uw];let⟨C,o,p,g⟩:=tY.1 (vW hi);have s:i<X.all.size:=(zd.1 p).1;have ja:¬(c.getD i G=Y):=by rw[<-Eb (by omega),C];simp
   have F:∀j,(X.Dy i).testBit j=Y->c.getD j G=Y:=λj n=>by
    let⟨e,q1,q2,L⟩:=Rq (l:=X.all.toList) (by simpa using p) (H.OP p) n;have N:=g e (by simpa using q1) (by rw[Nh];exact q2);rcases L with L|L
    .rw[<-L];exact N
    .exact Q.closed e.on N j L
   let⟨a1,m1,Dw,w1,k1,k2,k3,k4⟩:=Q.step H Jj oC s ja F (λ⟨_,_,h,_⟩=>by rw[R]at h;cases h) b (Region.linearise.go x8 X.all d (t/I (yQ x8 X.all c)) (c.setIfInBounds i Y) []) k u
   have VE:(λj=>c.getD j G=Y\/j=i)=λj=>(c.setIfInBounds i Y).getD j G=Y:=by
    funext j;apply propext;by_cases e:i=j
    .subst e;simp[r,s]
    .rw[uX G e];exact⟨λh=>h.resolve_right (Ne.symm e),zq⟩
   rw[VE]at k3;let⟨a2,m2,qg,w2,j1,j2,j3,j4⟩:=ih (t/I (yQ x8 X.all c)) _ a1 m1 Dw w1 k3 (by simp[r]) (by have:=aba r s C;omega);exact⟨a2,m2,qg,w2,k1.trans j1,by rw[j2,k2],j3,k4.trans j4⟩
theorem agP{X:Mx T P}(H:iW X)(Jj:FN X){ch:List zO}(F:X.pc=O (n,ch))(hp:n<X.all.size){nt:Nat}(oC:∀o∈X.all.toList,qU nt o=Y)(b:yW)(k:List vH)(cs:List yW):∀(d t:Nat)(c:Array Bool)(a:uv)(m:M)(hD:Nat->Option ai)(w:zu),mE X (λj=>c.getD j G=Y) nt a m hD w->c.size=X.all.size->AX X.all.size c<=d->c.getD n G=G->
 ∃Dd a' m1 y w1 A q C f todo,ct m m1/\ct m1 A/\a'.defers=a.defers/\mE X Dd nt a' m1 y w1/\(∀j,(X.Dy n).testBit j=Y->Dd j)/\CR A ch f/\Fg X (λj=>Dd j\/j=n) A q C/\
  xE P (yX (b.atR a (yC X.all (Region.linearise.go x8 X.all d t c [])::k)) cs w) (yX {b.atR a' todo with mode:=vM f} cs C):=by
 intro d;induction d with
 |zero=>
  intro t c a m hD w Q hs hu r;exfalso;have h0:AX X.all.size c=0:=by omega
  unfold AX at h0;rw[tQ]at h0;have:=h0 n (uO.2 hp);rw[Eb (by omega),r]at this;exact this rfl
 |succ d ih=>
  intro t c a m hD w Q hs hu r
  have VF:Region.linearise.go x8 X.all (d+1) t c []=match(yQ x8 X.all c)[t%I (yQ x8 X.all c)]? with
   |some i=>Region.linearise.go x8 X.all d (t/I (yQ x8 X.all c)) (c.setIfInBounds i Y) [i]
   |none=>[].reverse:=rfl
  rw[VF];cases hi:(yQ x8 X.all c)[t%I (yQ x8 X.all c)]? with
  |none=>
   exfalso
   have L:yQ x8 X.all c=[]:=by
    cases hr:yQ x8 X.all c with
    |nil=>rfl
    |cons x xs=>
     rw[hr]at hi;have N:t%I (x::xs)<I (x::xs):=Nat.mod_lt _ (by simp);rw[vA]at hi;omega
   have s:∀j,j<X.all.size->c.getD j Y=Y:=λj hj=>by
    induction j using uL with
    |_ j VD=>
     cases hq:c.getD j Y with
     |true=>rfl
     |false=>
      exfalso;have v:∃o,X.all[j]?=O o:=⟨X.all[j],by simp[hj]⟩;let⟨o,v⟩:=v
      have:j∈yQ x8 X.all c:=by refine tY.2 ⟨hq,o,v,λe he hb=>?_⟩;rw[Nh]at hb;have N:=H.OP v e (by simpa using he) hb;rw[<-Eb (by omega)];exact VD e.on N (by omega)
      rw[L]at this;cases this
   have:=s n hp;rw[Eb (by omega),r]at this;cases this
  |some i=>
   simp only;rw[linearise_go_acc,uh,uw];let⟨R,o,v,s⟩:=tY.1 (vW hi);have u:i<X.all.size:=(zd.1 v).1;have ja:¬(c.getD i G=Y):=by rw[<-Eb (by omega),R];simp
   have g:∀j,(X.Dy i).testBit j=Y->c.getD j G=Y:=λj hj=>by
    let⟨e,q1,q2,S⟩:=Rq (l:=X.all.toList) (by simpa using v) (H.OP v) hj;have V:=s e (by simpa using q1) (by rw[Nh];exact q2);rcases S with S|S
    .rw[<-S];exact V
    .exact Q.closed e.on V j S
   by_cases B:i=n
   .subst B;let⟨A,q,C,f,k1,k2,k3,k4⟩:=Q.aU H Jj oC u ja g F b (Region.linearise.go x8 X.all d (t/I (yQ x8 X.all c)) (c.setIfInBounds i Y) []) k cs;exact⟨_,a,m,hD,w,A,q,C,f,_,.refl _,k1,rfl,Q,g,k2,k3,k4⟩
   .have VB:¬HV (bj X.all.toList 0 .Nl) X.pc i:=by
     rintro⟨p',f,h1,W⟩;rw[F]at h1;injection h1 with h1;cases h1;rcases W with W|W
     .exact B W
     .have:=g n W;rw[r]at this;cases this
    let⟨a1,m1,y,w1,k1,k2,k3,k4⟩:=Q.step H Jj oC u ja g VB b (Region.linearise.go x8 X.all d (t/I (yQ x8 X.all c)) (c.setIfInBounds i Y) []) k cs
    have VE:(λj=>c.getD j G=Y\/j=i)=λj=>(c.setIfInBounds i Y).getD j G=Y:=by
     funext j;apply propext;by_cases e:i=j
     .subst e;simp[hs,u]
     .rw[uX G e];exact⟨λh=>h.resolve_right (Ne.symm e),zq⟩
    rw[VE]at k3;let⟨Dd,a2,m2,qg,w2,A,q,C,f,todo,j1,j2,j3,j4,j5,j6,j7,j8⟩:=ih (t/I (yQ x8 X.all c)) _ a1 m1 y w1 k3 (by simp[hs]) (by have:=aba hs u R;omega) (by rw[uX G B];exact r);exact⟨Dd,a2,m2,qg,w2,A,q,C,f,todo,k1.trans j1,j2,by rw[j3,k2],j4,j5,j6,j7,k4.trans j8⟩
end
section
variable{T:au}{P:zo}
def Xc(n j:Nat):(xM n G).getD j G=G:=by by_cases h:j<n<;>simp[h]
def Q8{t:xw}{v:E}:∀{l:List yH}{a:Tr E},(jS l a).g t=O v->a.g t=O v/\∀o∈l,o.dst≠O t
 |[],a,h=>⟨h,λo g=>by cases g⟩
 |o::l,a,h=>by
  cases hd:o.dst with
  |none=>
   have h:(jS l a).g t=O v:=by
    have:jS (o::l) a=jS l a:=by show dM (jS l a) (λd=>jS l (a.del d)) o.dst=_;rw[hd];rfl
    rw[<-this];exact h
   let⟨h1,f⟩:=Q8 h;refine⟨h1,λx b=>?_⟩;rcases zp.1 b with rfl|b
   .rw[hd];simp
   .exact f x b
  |some d=>
   have h:(jS l (a.del d)).g t=O v:=by
    have:jS (o::l) a=jS l (a.del d):=by show dM (jS l a) (λd=>jS l (a.del d)) o.dst=_;rw[hd];rfl
    rw[<-this];exact h
   let⟨h1,f⟩:=Q8 h
   have c:t≠d:=by rintro rfl;rw[Tr.MR]at h1;cases h1
   rw[Tr.MQ _ c]at h1;refine⟨h1,λx b=>?_⟩;rcases zp.1 b with rfl|b
   .rw[hd];intro e;injection e with e;exact c e.symm
   .exact f x b
def arh{a:Array yH}(d:Cw a.toList (bj a.toList 0 .Nl) a.toList 0=Y):∀(k j:Nat),(aE (bj a.toList 0 .Nl) k).testBit j=Y->k<a.size->j<k:=by
 intro k;induction k using uL with
 |_ k i=>
  intro j h l;have g:a.toList[k]?=O a[k]:=by simp[l]
  have b:∀e∈(a[k]).after.toList,pJ e=Y->e.on<k:=λe m n=>by have:=(Mw d k _ g).1 e m;rw[xF]at this;exact aa9 this n
  let⟨e,o,p,c⟩:=Rq g b h;have f:=b e o p;rcases c with c|c
  .omega
  .have:=i e.on f j c (by omega);omega
def agt(tok:bM T P)(iq:iB T P V){fr:Fr}{nt :Nat}{r:Array yH}{s s':S}{e:Ex}(jF:Be nt r Y=Y)(he:jN T V fr r Y s=.c e s'):
 EN T P fr nt (.region n r Y) s e s':=by
 let⟨oC,IA⟩:=XH jF;have IA:=IA rfl;have he:oo T V r (bj r.toList 0 .Nl) r.toList 0 [] s=.c e s':=he;have avu:∀k j,(aE (bj r.toList 0 .Nl) k).testBit j=Y->k<r.size->j<k:=λk=>arh IA k;let⟨r1,r2,c,pc,Iz,tr,Dz⟩:=Xn tok iq avu r.toList 0 [] s e s' (by simp) (ya _) he;have tr0:=tr;let⟨t1,t2,t3,t4,_,_,_⟩:=tr0;have trX:∃Iz hE,Bq T P r (bj r.toList 0 .Nl) pc 0 r.size [] (c.tm 0) (c.h 0) Iz hE c:=⟨_,_,by rw[t1,t2];exact tr⟩;let X0:Mx T P:=⟨r,c,⟨default,M.empty,λ_=>U,0,(c.h r.size).n,λ_=>True,λ_=>True,λ_=>False⟩,M.empty,λ_=>U,pc⟩;have H0:iW X0:=⟨trX,IA,⟨zR _,λ_ _=>⟨trivial,trivial⟩,λ_ _=>trivial,λ_ _=>trivial,λ_ _=>trivial⟩⟩
 have hle:Le s.h s'.h:=by
  rw[<-t2,<-t4];refine⟨H0.mono (i:=0) (j:=r.size) (ya _) (zR _),H0.base (k:=r.size) (zR _),λb hb=>H0.adC (i:=0) (ya _) (zR _) hb,λb hb=>H0.Pm (i:=0) (ya _) (zR _) hb,λb h1 h2 h3=>?_,λd=>?_⟩
  .refine H0.gl (i:=0) (j:=r.size) h1 (ya _) (zR _) λk _ hk hw=>?_;rcases NA hw with q|⟨q,_⟩
   .let⟨_,_,_,_,ou⟩:=H0.step hk;rcases ou.wr b q with q|q
    .have e1:=H0.base (k:=k+1) (by show k+1<=r.size;have:k<r.size:=hk;omega);have e2:=H0.base (k:=r.size) (zR _);have h2:b<(X0.c.h r.size).b:=h2;omega
    .exact h3 (H0.Pm (i:=k+1) (by omega) (zR _) q)
   .have:=H0.mono (i:=0) (j:=k) (ya _) (by show k<=r.size;omega);have h1:b<(X0.c.h 0).n:=h1;omega
  .intro b o hb
   have key:∀k,k<=r.size->∀b o,(c.h k).g b=O o->b<(c.h k).n:=by
    intro k;induction k with
    |zero=>exact λ_=>d
    |succ k ih=>
     intro hk b o hb;let⟨_,_,_,_,ou⟩:=H0.step (k:=k) (by show k<r.size;omega);have ou:Bw (c.h k) (c.h1 k) (c.h (k+1)):=ou;rw[ou.get]at hb;rw[ou.next];refine(H0.le (k:=k) (by show k<r.size;omega)).dy ?_ b o hb;intro b o hb;rw[fm]at hb⊢;exact ih (by omega) b o hb
   exact key r.size (zR _) b o hb
 refine⟨hle,λΓ m hD l b k a kH w F st g1 g2 g3=>?_⟩;let X:Mx T P:=⟨r,c,Γ,m,hD,pc⟩;have H:iW X:=⟨trX,IA,by rw[<-t4]at F;exact F⟩;have f:=st.inv;rw[<-t2]at f;have g:FN X:=⟨f.dy,f.fY⟩;have Fn:Fin Γ (c.h r.size):=H.fin;have aHy:(c.h 0).n<=(c.h r.size).n:=H.mono (i:=0) (j:=r.size) (ya _) (zR _);have hNe:=Fn.next
 have Q0:mE X (λj=>(xM r.size G).getD j G=Y) nt a m hD {w with drawn:=w.drawn+1}:=by
  have oJ:∀j,¬((xM r.size G).getD j G=Y):=λj=>by rw[Xc];simp
  refine{obj:=f.obj,inj:=f.inj,cD:=f.cD,ez:=f.ez,size:=f.size,eC:=f.eC,same:=f.same.trans ⟨λ_=>rfl,rfl,rfl,rfl⟩,dm:=λx h1 h2 hm=>?_,gj:=.refl _,gm:=λ_ _=>rfl,A:=λi hi x N ht hm Q=>?_,A2:=λ_ _=>rfl,A3:=λ_ _=>rfl,B:=λi hi t v hv Q=>?_,closed:=λi hi=>absurd hi (oJ i),nt:=st.nt,de:=f.de,fD:=λ_ _=>rfl}
  .exfalso;have h2:x<(c.h r.size).n:=h2;exact hm (f.fresh x h1 (by omega)).1
  .have rk:∀j,0<=j->j<i->¬X.wn j x:=λj _ L hw=>oJ j ((Q j (by show j<r.size;have:i<=r.size:=hi;omega) hw).2 L)
   have DA:x<(c.h 0).n:=by
    by_cases hq:x<(c.h 0).n
    .exact hq
    .exfalso;let⟨j,_,q2,q3,q4⟩:=H.acU (i:=0) (j:=i) (b:=x) (ya _) hi (by show(c.h 0).n<=x;omega) N;exact rk j (ya _) q2 (NB q3 q4)
   rw[H.gl (i:=0) (j:=i) DA (ya _) hi rk];exact f.fy x DA ht hm
  .have key:∀j,j<=i->(c.tm j).g t=(c.tm 0).g t:=by
    intro j;induction j with
    |zero=>exact λ_=>rfl
    |succ j ih=>
     intro L;rw[<-ih (by omega)];exact H.TG (k:=j) (by show j<r.size;have:i<=r.size:=hi;omega) λoj q1 FO=>oJ j ((Q j oj q1 FO).2 (by omega))
   have hv:(c.tm i).g t=O v:=hv;rw[key i (zR _),t1]at hv;exact st.tm t v hv
 have R:AX r.size (xM r.size G)<=r.size:=by unfold AX;refine yd (List.countP_le_length) ?_;simp
 have W:∀(h:Nat->Prop) m' u w',Fg X h m' u w'->(∀j,j<r.size->∀x,X.wn j x->h j\/((c.h j).n<=x/\x<(c.h1 j).n))->Inv T Γ m' u s'.h w':=by
  intro h m' u w' y US;rw[<-t4]
  refine{obj:=y.obj,inj:=y.inj,cD:=y.cD,ez:=y.ez,size:=y.size,eC:=y.eC,same:=y.same,fy:=λx N ht hm=>y.A r.size (zR _) x N ht hm λj L hw=>⟨λ_=>L,λ_=>by
   rcases US j L x hw with q|⟨q1,q2⟩
   .exact q
   .have n1:(c.h 0).n<=(c.h j).n:=H.mono (i:=0) (j:=j) (ya _) (by show j<=r.size;omega);let⟨j',p1,p2,p3,p4⟩:=y.dm x (yd n1 q1) N hm;have p1:j'<r.size:=p1;have p3:(c.h j').n<=x:=p3;have p4:x<(c.h1 j').n:=p4
    have e:j'=j:=by
     rcases w7 j' j with q|q|q
     .have a1:(c.h (j'+1)).n=(c.h1 j').n:=H.EO (k:=j') p1;have a2:(c.h (j'+1)).n<=(c.h j).n:=H.mono (i:=j'+1) (j:=j) q (by show j<=r.size;omega);omega
     .exact q
     .have a1:(c.h (j+1)).n=(c.h1 j).n:=H.EO (k:=j) L;have a2:(c.h (j+1)).n<=(c.h j').n:=H.mono (i:=j+1) (j:=j') q (by show j'<=r.size;omega);omega
    rw[<-e];exact p2⟩,dy:=H.dy g (zR _),fresh:=λx h1 h2=>?_,fY:=?_,gj:=f.gj.trans y.gj,gm:=λx N=>?_,gv:=?_,ie:=λx N=>?_,de:=y.de,fD:=λc hc=>(y.fD c hc).trans (f.fD c hc)}
  .have hm:m' x=m x:=y.gm x (zt h1);have hd:u x=hD x:=y.A3 x h1;rw[hm,hd];exact f.fresh x (by omega) h2
  .have:(c.h r.size).b=(c.h 0).b:=H.base (k:=r.size) (zR _);have:=f.fY;omega
  .have hm:m' x=m x:=y.gm x (by
    rcases N with N|N
    .left;have:=f.gv;show x<(c.h 0).n;omega
    .right;show(c.h r.size).n<=x;omega)
   rw[hm];exact f.gm x N
  .have:=f.gv;omega
  .have hd:u x=hD x:=by
    rcases N with N|N
    .exact y.A2 x λj L hw=>N (H.s8 g L hw)
    .exact y.A3 x (by show(c.h r.size).n<=x;omega)
   rw[hd];exact f.ie x N
 have adD:tj (P.follows .mixedOrders) r (w.tape w.drawn (.order b.fn n))=Region.linearise.go x8 r r.size (w.tape w.drawn (.order b.fn n)) (xM r.size G) []:=by unfold tj;rw[tok.mixed];rfl
 rcases Dz with⟨Dz,rfl,VG⟩|⟨p,ch,Dz,_,hp,rfl,VG,C⟩
 .let⟨a',m',u,w',k1,k2,y,k4⟩:=aoR H g Dz oC b k (l.cs kH) r.size (w.tape w.drawn (.order b.fn n)) _ a m hD {w with drawn:=w.drawn+1} Q0 (by simp;rfl) R;have hinv:=W _ m' u w' y.toFg λj L _ _=>zq L;refine⟨m',u,a',kH,w',k1,⟨hinv,?_,y.nt,by rw[r1,k2];exact st.df.mono k1,by rw[r2];exact st.ab.mono k1,by rw[r2];exact st.lV⟩,?_⟩
  .intro t v hv;rw[VG,<-t3]at hv;exact y.B r.size (zR _) t v hv λj o L _=>Iff.rfl
  .refine vt stepR_region_draw ?_;rw[adD];exact k4
 .let⟨h,a',m1,Dw,w1,m',u,w',PZ,todo,j1,j2,j3,j4,j5,j6,j7,j8⟩:=agP H g Dz hp oC b k (l.cs kH) r.size (w.tape w.drawn (.order b.fn n)) _ a m hD {w with drawn:=w.drawn+1} Q0 (by simp;rfl) R (Xc _ _)
  have hinv:=W _ m' u w' j7 λj L x hw=>by
   rcases C.1 j (ya _) L with q|q|q
   .exact zq (zt q)
   .exact zq (zq (j5 j q))
   .exact zt (q x hw)
  refine⟨m',u,a',kH,w',j1.trans j2,⟨hinv,?_,j4.nt,by rw[r1,j3];exact st.df.mono (j1.trans j2),by rw[r2];exact st.ab.mono (j1.trans j2),by rw[r2];exact st.lV⟩,todo,PZ,j6,?_⟩
  .intro t v hv;rw[VG]at hv;let⟨hv,oJ⟩:=Q8 hv
   have key:∀j,j<=r.size->(c.tm j).g t=(c.tm 0).g t:=by
    intro j;induction j with
    |zero=>exact λ_=>rfl
    |succ j ih=>
     intro L;rw[<-ih (by omega)];exact H.TG (k:=j) (by show j<r.size;omega) λoj q1 FO=>oJ oj (by have:=wA q1;simpa using this) FO
   rw[<-t3,key r.size (zR _)]at hv;let⟨v',q1,q2⟩:=j4.B 0 (ya _) t v hv λj o L hd=>absurd hd (oJ o (by have:=wA L;simpa using this));exact⟨v',q1,q2.mono j2⟩
  .refine vt stepR_region_draw ?_;rw[adD];exact j8
def agu(c:bM T P)(d:iB T P V){g:Fr}{a:Array yH}{s h:S}{e:Ex}(f:Be n a b=Y)(i:jN T V g a b s=.c e h):
 EN T P g n (.region k a b) s e h:=by
 cases b with
 |false=>exact ahT c d f i
 |true=>exact agt c d f i
end
section
variable{T:au}{P:zo}
def Xh{b:yW}{a:uv}{k:List vH}{cs:List yW}{g:zh}{o:Array xw}{assign body:yG}{mark:List zc}{h i:zu}{f:Next}{c:yW}
 (q:(wN b.fn a.tmps o assign body b.roundOf).run P W=.ok (n,mark) h)
 (r:(jT (a.eval g) [zU (yc n) #[] #[]]).run P h=.ok f i)(p:D6 P wR f=O c):
 ub P (yX (b.atR a (xG (v7 g o assign body)::k)) cs W)=vP (yX c (b.atR {a with defers:=mark++a.defers} (wI n::k)::cs) i):=by
 refine ym ?_;have e:=Frame.eval_atR b {a with defers:=mark++a.defers} (wI n::k);simp only[xL]at e;have j:({tmps:=a.tmps,defers:=mark++a.defers}:uv).eval g=a.eval g:=by cases g<;>rfl
 have m:((yr (({tmps:=a.tmps,defers:=mark++a.defers}:uv).eval g) #[zU (yc n) #[] #[]]).run P h).andThen (λd W=>(uG d.target d.args).run P W)=.ok f i:=by rw[j,<-r];simp[jT]
 have s:({tmps:=a.tmps,defers:=mark++a.defers}:uv).eval (.const (zU (yc n) #[] #[]))=zU (yc n) #[] #[]:=rfl
 cases f<;>first
  |(cases p;done)
  |(cases p
    simp[vc,vD,xL,yz,q,xY,xo,e,zn,resolve,s,m])
def afS{b:yW}{a:uv}{k:List vH}{cs:List yW}{jump:Option yG}{c:zu}(h:(uT n).run P W=.ok jump c):
 ub P (yX (b.atR a (.endRangeFunc n::k)) cs W)=vP (yX (b.atR a ((jump.map xG).toList++k)) cs c):=
 ym (by simp[vc,vD,xL,yz,h,xY])
def afT{b:yW}{a:uv}{k:List vH}:(b.atR a (wI n::k)).finish v=b.atR a (.endRangeFunc n::k):=by simp[Frame.finish,xL]
def agQ{r:Loop}(a:W.heap[n]?=O (wh r))(b:r.state≠ wP):
 (uT n).run P W=.ok r.pending {W with heap:=W.heap.setIfInBounds n (wh {r with state:=xU})}:=by
 have c:=kL (P:=P) a rfl;simp[uT,wx,c,Cx (P:=P) a rfl];exact λd=>absurd d b
def Xw(iq:iB T P V){R:Fr}{params:Array xw}{assign body:yG}{s:S}{e:Ex}{s':S}
 (hP:rL n params.toList=Y)(hA:ck n assign=Y)(hB:ck n body=Y)
 (p:G8 V R params assign body s i N=.c e s'):
 Le s.h s'.h/\∀q m H f(b:yW) k a j w L t,Fin q s'.h->gz T q m H f n s a j w->b.kind=f.kind->b.fn=R.fn->Bp m R.round b.roundOf->VR m N L->m i=O t->
  ∃M l Q,Q={w with heap:=w.heap.push (wh ⟨wM,U,b.fn,a.tmps,params,assign,body,t.aH⟩)}/\(jT L [zU (yc w.heap.size) #[] #[]]).run P Q=.ok M Q/\D6 P wR M=O l/\
  ∃W A a' lH w',ct m W/\gz T q W A f n s' a' lH w'/\tg P (yX l (b.atR a (wI w.heap.size::k)::f.cs j) Q) b k (f.cs lH) W a' w' e:=by
 have p:NP V R s s.h.n (V (.call N [zU (yc s.h.n) #[] #[]] (s.h.w (.Lo {state:=wM,pending:=U,fn:=R.fn,tmps:=s.tm,params,assign,body,defers:=i})) U))=.c e s':=p;generalize DB:(ai.Lo {state:=wM,pending:=U,fn:=R.fn,tmps:=s.tm,params,assign,body,defers:=i})=lp at p;have B:=iq.call N [zU (yc s.h.n) #[] #[]] (s.h.w lp) U;generalize avv:V (.call N [zU (yc s.h.n) #[] #[]] (s.h.w lp) U)=bi at p B
 have laid:∀q m H f(b:yW) a j w t,Fin q (s.h.w lp)->gz T q m H f n s a j w->b.fn=R.fn->m i=O t->∃m1 X,ct m m1/\m1 s.h.n=O ⟨w.heap.size,0,0,0,1⟩/\
  Inv T q m1 X (s.h.w lp) {w with heap:=w.heap.push (wh ⟨wM,U,b.fn,a.tmps,params,assign,body,t.aH⟩)}:=by
  intro q m H f b a j w t F x g2 hd;refine DY x.inv (pl:=⟨w.heap.size,0,0,0,1⟩) F rfl (λW hm _=>?_) (λ_ _ _ h=>by cases h);rw[<-DB];refine .loop ⟨rfl,rfl,g2,x.tm.mono hm,rfl,rfl,rfl,⟨t,hm.to _ _ hd,rfl⟩,?_,?_,?_⟩
  .rw[show a.tmps.size=n from x.nt];exact hP
  .rw[show a.tmps.size=n from x.nt];exact hA
  .rw[show a.tmps.size=n from x.nt];exact hB
 cases bi with
 |f=>cases p
 |c g y=>cases p
 |any g y=>cases p
 |r v C lY=>
  have p:Sn V R s s.h.n C (C.g s.h.n)=.c e s':=p;let⟨hle,hc⟩:=B C lY rfl;cases hg:C.g s.h.n with
  |none=>rw[hg]at p;cases p
  |some o=>
   rw[hg]at p;cases o with
   |Lo r=>
    have p:JQ V R s s.h.n C r=.c e s':=p;unfold JQ at p;have P3:r.state≠ wP:=λhb=>by rw[hb]at p;cases p
    have u:(match r.pending with
     |none=>ag.c .Nr {s with h:=C.p s.h.n (.Lo {r with state:=xU})}
     |some c=>cond (Ob c) (V (.run R c {s with h:=C.p s.h.n (.Lo {r with state:=xU})})) .f)=.c e s':=by
     cases hr:r.state<;>rw[hr]at p<;>first|exact p|exact absurd hr P3
    clear p;generalize avw:ai.Lo {r with state:=xU}=L6 at u;have HW:Le C (C.p s.h.n L6):=oU _ _ _ hg
    have acV:∀q m H f(b:yW) k a j w L t,Fin q (C.p s.h.n L6)->gz T q m H f n s a j w->b.kind=f.kind->b.fn=R.fn->VR m N L->m i=O t->
     ∃M l Q,Q={w with heap:=w.heap.push (wh ⟨wM,U,b.fn,a.tmps,params,assign,body,t.aH⟩)}/\(jT L [zU (yc w.heap.size) #[] #[]]).run P Q=.ok M Q/\D6 P wR M=O l/\
     ∃W A w',ct m W/\Inv T q W A (C.p s.h.n L6) w'/\
      xE P (yX l (b.atR a (wI w.heap.size::k)::f.cs j) Q) (yX (b.atR a ((r.pending.map xG).toList++k)) (f.cs j) w'):=by
     intro q m H f b k a j w L t F x g1 g2 hf hd;have F1:=F.of_le HW;let⟨m1,X,q1,q2,q3⟩:=laid q m H f b a j w t (F1.of_le hle) x g2 hd
     let⟨M,l,p1,p2,m2,qg,Lb,w2,cr,p3,p4,p5,p6,p7,p8⟩:=hc q m1 X (.plain (b.atR a (wI w.heap.size::k)::f.cs j)) L [zU (yc w.heap.size) #[] #[]] U _ (zq ⟨_,_,rfl⟩) F1 q3
      (hf.mono q1) (.Cs (VR.yield (pl:=⟨w.heap.size,0,0,0,1⟩) q2) .Nl) .none rfl
     refine⟨M,l,_,rfl,p1,p2,?_⟩;cases p7 with
     |ret hv=>
      have p8:=p8.Nf;rw[afT]at p8;have hm2:=p3.to _ _ q2;have hn:=qw C s.h.n L6;have ht:q.cX s.h.n:=hn.elim (λg=>(F.hi _ g).1) (λg=>F.rd _ g.1);let⟨_,o',ho,hO⟩:=p4.get hm2 hg ht;cases hO with
      |@loop _ r' hL=>
       have rl:OR T m2 ⟨w.heap.size,0,0,0,1⟩ L6 (wh {r' with state:=xU}):=by rw[<-avw];exact .loop {hL with state:=rfl}
       let⟨s1,s2,s3,s4⟩:=Cu w2 ho (λ_ _ _ h=>by cases h) rl.calm;refine⟨m2,_,_,q1.trans p3,p4.put hm2 hg F rl s1 s2 s3 s4,p8.trans (xg ?_)⟩;have:=afS (b:=b) (a:=a) (k:=k) (cs:=f.cs j) (agQ (P:=P) ho (by rw[hL.state];exact P3));rw[show r.pending.map xG=r'.pending.map xG from by rw[hL.pending]];exact this
    cases hp:r.pending with
    |none=>
     rw[hp]at u;cases u;refine⟨(lr s.h lp).trans (hle.trans HW),λq m H f b k a j w L t F x g1 g2 g3 hf hd=>?_⟩;let⟨M,l,Q,z1,z2,z3,W,A,w',z4,z5,z6⟩:=acV q m H f b k a j w L t F x g1 g2 hf hd;rw[hp]at z6;exact⟨M,l,Q,z1,z2,z3,W,A,a,j,w',z4,x.mono z4 z5,z6⟩
    |some c=>
     rw[hp]at u
     have hj:Ob c=Y:=by
      cases hq:Ob c with
      |true=>rfl
      |false=>simp only[hq]at u;cases u
     simp only[hj,cond_true]at u
     have avx:ck n c=Y:=by cases c<;>first|rfl|(cases hj;done)
     have qV:=iq.run R c _ e s' n u avx;refine⟨(lr s.h lp).trans (hle.trans (HW.trans qV.1)),λq m H f b k a j w L t F x g1 g2 g3 hf hd=>?_⟩;let⟨M,l,Q,z1,z2,z3,W,A,w',z4,z5,z6⟩:=acV q m H f b k a j w L t (F.of_le qV.1) x g1 g2 hf hd;rw[hp]at z6;let⟨m2,qg,a2,Lb,w2,j1,j2,j3⟩:=qV.2 q W A f b k a j w' F (x.mono z4 z5) g1 g2 (g3.mono z4);exact⟨M,l,Q,z1,z2,z3,m2,qg,a2,Lb,w2,z4.trans j1,j2,.of_steps z6 j3⟩
   |_=>cases p
 |p ch C lY=>
  have p:ag.c (.panic ch) {s with h:=C}=.c e s':=p;cases p;let⟨hle,hc⟩:=B C lY rfl;refine⟨(lr s.h lp).trans hle,λq m H f b k a j w L t F x g1 g2 g3 hf hd=>?_⟩;let⟨m1,X,q1,q2,q3⟩:=laid q m H f b a j w t (F.of_le hle) x g2 hd
  let⟨M,l,p1,p2,m2,qg,Lb,w2,cr,p3,p4,p5,p6,p7,p8⟩:=hc q m1 X (.plain (b.atR a (wI w.heap.size::k)::f.cs j)) L [zU (yc w.heap.size) #[] #[]] U _ (zq ⟨_,_,rfl⟩) F q3
   (hf.mono q1) (.Cs (VR.yield (pl:=⟨w.heap.size,0,0,0,1⟩) q2) .Nl) .none rfl
  refine⟨M,l,_,rfl,p1,p2,?_⟩;cases p7 with
  |aU Vz=>
   have p8:=p8.RT;rw[tz]at p8;exact⟨m2,qg,a,j,w2,q1.trans p3,x.mono (q1.trans p3) p4,_,_,Vz,p8⟩
end
section
variable{T:au}{P:zo}
def afr(w:zu)(a:zZ)(tmps:Array E)(b:Array xw)(c d:yG):
 (wN a tmps b c d U).run P w=.ok (w.heap.size+1,[{target:=xV w.heap.size,args:= #[]}])
   {w with heap:=(w.heap.push (vK (O []))).push (wh ⟨wM,U,a,tmps,b,c,d,w.heap.size⟩)}:=by
 simp[wN];rfl
def afs{r:Loop}(e:W.heap[n]?=O (wh r))(a:zZ)(tmps:Array E)(b:Array xw)(c d:yG):
 (wN a tmps b c d (O n)).run P W=.ok (W.heap.size,[]) {W with heap:=W.heap.push (wh ⟨wM,U,a,tmps,b,c,d,r.defers⟩)}:=by
 simp[wN,wx,kL (P:=P) e rfl]
def afJ(H:iB T P V){u:Fr}{f:zh}{params:Array xw}{assign body:yG}{s:S}{e:Ex}{L:S}
 (t:ck n (v7 f params assign body)=Y)(g:Jo V u params assign body s (aA s.tm f)=.c e L):EN T P u n (v7 f params assign body) s e L:=by
 have t:(qG f&&(rL n params.toList&&(ck n assign&&ck n body)))=Y:=t;rw[zX,zX,zX]at t;let⟨M,hP,hA,hB⟩:=t;cases Q:aA s.tm f with
 |none=>rw[Q]at g;cases g
 |some R=>
  rw[Q]at g
  have g:(match u.round with
   |some l=>adw V u params assign body s l R (s.h.g l)
   |none=>G8 V u params assign body {s with h:=s.h.w (.Df (O [])),df:={target:=xV s.h.n,args:= #[]}::s.df} s.h.n R)=.c e L:=g
  cases W:u.round with
  |some l=>
   rw[W]at g;cases hg:s.h.g l with
   |none=>simp only[hg]at g;cases g
   |some o=>
    simp only[hg]at g;cases o with
    |Lo r=>
     have g:G8 V u params assign body {s with h:=s.h.az l} r.defers R=.c e L:=g;let⟨hle,hx⟩:=Xw H hP hA hB g;refine⟨(jP s.h l).trans hle,λB m hD c b k a j w F i g1 g2 v=>?_⟩;have X:=F.of_le hle;have ht:B.cX l:=(ma s.h l).elim (λd=>(X.hi l d).1) (X.rd l);have x:=v;rw[W]at x;generalize kI:b.roundOf=br at x;cases x with
     |@some _ pl hm=>
      let⟨_,o',ho,hO⟩:=i.inv.get hm hg ht;cases hO with
      |@loop _ r' hL=>
       let⟨pd,d1,d2⟩:=hL.defers;have y:gz T B m hD c n {s with h:=s.h.az l} a j w:=⟨i.inv.az l,i.tm,i.nt,i.df,i.ab,i.lV⟩;let⟨nx,AW,w1,z1,z2,z3,m',A,a',p,w',z4,z5,z6⟩:=hx B m hD c b k a j w (a.eval f) pd F y g1 g2 v (MU i.tm Q M) d1;refine⟨m',A,a',p,w',z4,z5,.of_steps (xg ?_) z6⟩;subst z1;have q:=afs (P:=P) ho b.fn a.tmps params assign body;rw[<-kI,d2]at q;have:=Xh (b:=b) (a:=a) (k:=k) (cs:=c.cs j) q z2 z3;simpa using this
    |_=>cases g
  |none=>
   rw[W]at g;have g:G8 V u params assign body {s with h:=s.h.w (.Df (O [])),df:={target:=xV s.h.n,args:= #[]}::s.df} s.h.n R=.c e L:=g;let⟨hle,hx⟩:=Xw H hP hA hB g;refine⟨(lr s.h _).trans hle,λB m hD c b k a j w F i g1 g2 v=>?_⟩;have X:=F.of_le hle;have B8:b.roundOf=U:=by rw[W]at v;cases hb:b.roundOf<;>rw[hb]at v<;>first|rfl|cases v
   let⟨m1,N,C,q2,q3⟩:=DY i.inv (o':=vK (O [])) (pl:=⟨w.heap.size,0,0,0,1⟩) X rfl (λm' _ _=>.deferred .nil) (λ_ _ _ h=>by cases h)
   have y:gz T B m1 N c n {s with h:=s.h.w (.Df (O [])),df:={target:=xV s.h.n,args:= #[]}::s.df} {a with defers:={target:=xV w.heap.size,args:= #[]}::a.defers} j
    {w with heap:=w.heap.push (vK (O []))}:=⟨q3,i.tm.mono C,i.nt,.cons (.collected (pl:=⟨w.heap.size,0,0,0,1⟩) q2) (i.df.mono C),i.ab.mono C,i.lV⟩
   have P4:({a with defers:={target:=xV w.heap.size,args:= #[]}::a.defers}:uv).eval f=a.eval f:=by cases f<;>rfl
   let⟨nx,AW,w1,z1,z2,z3,m',A,a',p,w',z4,z5,z6⟩:=hx B m1 N c b k _ j _ (a.eval f) ⟨w.heap.size,0,0,0,1⟩ F y g1 g2 (v.mono C) ((MU i.tm Q M).mono C) q2;refine⟨m',A,a',p,w',C.trans z4,z5,.of_steps (xg ?_) z6⟩;subst z1;have q:=afr (P:=P) w b.fn a.tmps params assign body;rw[<-B8]at q;have eU:({w with heap:=w.heap.push (vK (O []))}:zu).heap.size=w.heap.size+1:=by simp
   rw[eU]at z2⊢;exact Xh (b:=b) (a:=a) (k:=k) (cs:=c.cs j) q z2 z3
def A6(tok:bM T P)(iq:iB T P V){fr:Fr}{nt:Nat}:∀(c:yG)(s:S)(e:Ex)(r:S),ck nt c=Y->aw T V fr c s=.c e r->EN T P fr nt c s e r:=by
 intro c;induction c with
 |skip=>
  intro s e r _ g;cases g;exact lG.refl _ (λb k a C w=>xg stepR_skip)
 |region id ops draw=>intro s e r n g;exact agu tok iq n g
 |seq x y ihx ihy=>
  intro s e r n g;have n:(ck nt x&&ck nt y)=Y:=n;rw[zX]at n;have g:jm (aw T V fr y) (aw T V fr x s)=.c e r:=g;have j:∀(b:yW) k a C w,xE P (yX (b.atR a (xG (.seq x y)::k)) C w) (yX (b.atR a (xG x::xG y::k)) C w):=λb k a C w=>xg stepR_seq;cases A:aw T V fr x s with
  |c ex s1=>
   rw[A]at g;have B:=ihx s ex s1 n.1 A;cases ex with
   |Nr=>exact(B.seq (ihy s1 e r n.2 g)).head j
   |exit id=>injection g with Q L;subst Q;subst L;exact(B.pass (λk=>xG y::k) (by simp) (λid k=>rfl)).head j
   |ret=>injection g with Q L;subst Q;subst L;exact(B.pass (λk=>xG y::k) (by simp) (λid k=>rfl)).head j
   |panic ch=>injection g with Q L;subst Q;subst L;exact(B.pass (λk=>xG y::k) (by simp) (λid k=>rfl)).head j
  |f=>rw[A]at g;cases g
  |r a b c=>rw[A]at g;cases g
  |p a b c=>rw[A]at g;cases g
  |any a b=>rw[A]at g;cases g
 |cond x a b iha ihb=>
  intro s e r n g;have n:(qG x&&(ck nt a&&ck nt b))=Y:=n;rw[zX,zX]at n;have g:CP (aw T V fr a) (aw T V fr b) s (aA s.tm x)=.c e r:=g;cases A:aA s.tm x with
  |none=>rw[A]at g;cases g
  |some v=>
   rw[A]at g;cases v with
   |bool q=>
    have key:∃c,(c=if q then a else b)/\EN T P fr nt c s e r:=by
     cases q with
     |true=>exact⟨a,rfl,iha s e r n.2.1 g⟩
     |false=>exact⟨b,rfl,ihb s e r n.2.2 g⟩
    let⟨c,hc,hS⟩:=key;refine⟨hS.1,λN m M d bb k act p w F H R W X=>?_⟩;let⟨m',t,a',o,w',k1,k2,k3⟩:=hS.2 N m M d bb k act p w F H R W X;have hv:=MU H.tm A n.1;generalize hq:act.eval x=u at hv;cases hv;refine⟨m',t,a',o,w',k1,k2,.of_steps (xg ?_) k3⟩;rw[hc];exact stepR_cond hq
   |_=>cases g
 |block id x ih=>
  intro s e r n g;have g:lq id (aw T V fr x s)=.c e r:=g;cases A:aw T V fr x s with
  |c ex s1=>
   rw[A]at g;have B:=ih s ex s1 n A;have j:∀(b:yW) k a C w,xE P (yX (b.atR a (xG (.block id x)::k)) C w) (yX (b.atR a (xG x::vZ id::k)) C w):=λb k a C w=>xg stepR_block;cases ex with
   |Nr=>
    cases g;refine⟨B.1,λN m M d b k a p w F H R W X=>?_⟩;let⟨m',t,a',o,w',k1,k2,k3⟩:=B.2 N m M d b (vZ id::k) a p w F H R W X;exact⟨m',t,a',o,w',k1,k2,(j b k a _ w).trans (wi k3 (xg stepR_inBlock))⟩
   |exit i=>
    have g:cond (zV i id) (.c .Nr s1) (.c (.exit i) s1)=ag.c e r:=g;refine⟨?_,λN m M d b k a p w F H R W X=>?_⟩
    .cases hb:zV i id<;>rw[hb]at g<;>(injection g with Q L;subst L;exact B.1)
    .have F':Fin N s1.h:=by cases hb:zV i id<;>rw[hb]at g<;>(injection g with Q L;subst L;exact F)
     let⟨m',t,a',o,w',k1,k2,kk,q1,q2⟩:=B.2 N m M d b (vZ id::k) a p w F' H R W X;cases hb:zV i id with
     |true=>
      rw[hb]at g;cases g;have:=hJ hb;subst this;have hex:tk i (vZ i::k)=O k:=by simp[tk]
      rw[hex]at q1;exact⟨m',t,a',o,w',k1,k2,(j b k a _ w).trans (q2.trans (xg (stepR_exit q1)))⟩
     |false=>
      rw[hb]at g;cases g;have jE:=rE hb
      have hex:tk i (vZ id::k)=tk i k:=by
       have:(id==i)=G:=by simp;exact λh=>jE h.symm
       simp[tk,this]
      rw[hex]at q1;exact⟨m',t,a',o,w',k1,k2,kk,q1,(j b k a _ w).trans q2⟩
   |ret=>
    cases g;refine⟨B.1,λN m M d b k a p w F H R W X=>?_⟩;let⟨m',t,a',o,w',k1,k2,k3⟩:=B.2 N m M d b (vZ id::k) a p w F H R W X;exact⟨m',t,a',o,w',k1,k2,tg.of_steps (e:=.ret) (j b k a _ w) k3⟩
   |panic ch=>
    cases g;refine⟨B.1,λN m M d b k a p w F H R W X=>?_⟩;let⟨m',t,a',o,w',k1,k2,k3⟩:=B.2 N m M d b (vZ id::k) a p w F H R W X;exact⟨m',t,a',o,w',k1,k2,tg.of_steps (e:=.panic ch) (j b k a _ w) k3⟩
  |f=>rw[A]at g;cases g
  |r a b c=>rw[A]at g;cases g
  |p a b c=>rw[A]at g;cases g
  |any a b=>rw[A]at g;cases g
 |loop x ih=>
  intro s e r n g;have g:CQ V fr x (aw T V fr x s)=.c e r:=g;have j:∀(b:yW) k a C w,xE P (yX (b.atR a (xG (.loop x)::k)) C w) (yX (b.atR a (xG x::vE x::k)) C w):=λb k a C w=>xg stepR_loop;cases A:aw T V fr x s with
  |c ex s1=>
   rw[A]at g;have B:=ih s ex s1 n A;cases ex with
   |Nr=>exact(B.seq (iq.loop fr x s1 e r nt g n)).head j
   |exit id=>injection g with Q L;subst Q;subst L;exact(B.pass (λk=>vE x::k) (by simp) (λid k=>rfl)).head j
   |ret=>injection g with Q L;subst Q;subst L;exact(B.pass (λk=>vE x::k) (by simp) (λid k=>rfl)).head j
   |panic ch=>injection g with Q L;subst Q;subst L;exact(B.pass (λk=>vE x::k) (by simp) (λid k=>rfl)).head j
  |f=>rw[A]at g;cases g
  |r a b c=>rw[A]at g;cases g
  |p a b c=>rw[A]at g;cases g
  |any a b=>rw[A]at g;cases g
 |rangeFunc f ps as bd _ _=>intro s e r n g;exact afJ iq n g
 |exit id=>
  intro s e r _ g;cases g;exact⟨.refl _,λN m M d b k a p w F H R W X=>⟨m,M,a,p,w,.refl _,H,k,rfl,.refl _ _⟩⟩
 |scope x ih=>
  intro s e r n g;have g:aw T V fr x s=.c e r:=g;have B:=ih s e r n g;have j:∀(b:yW) k a C w,xE P (yX (b.atR a (xG (.scope x)::k)) C w) (yX (b.atR a (xG x::uj x::k)) C w):=λb k a C w=>xg agL;cases e with
  |Nr=>
   refine⟨B.1,λN m M d b k a p w F H R W X=>?_⟩;let⟨m',t,a',o,w',k1,k2,k3⟩:=B.2 N m M d b (uj x::k) a p w F H R W X;exact⟨m',t,a',o,w',k1,k2,(j b k a _ w).trans (wi k3 (xg agc))⟩
  |exit id=>exact(B.pass (λk=>uj x::k) (by simp) (λid k=>rfl)).head j
  |ret=>exact(B.pass (λk=>uj x::k) (by simp) (λid k=>rfl)).head j
  |panic ch=>exact(B.pass (λk=>uj x::k) (by simp) (λid k=>rfl)).head j
 |label l=>
  intro s e r _ g;cases g;exact lG.refl _ (λb k a C w=>xg stepR_label)
 |goto l=>intro s e r _ g;cases g
 |ret=>
  intro s e r _ g;cases g;exact⟨.refl _,λN m M d b k a p w F H R W X=>⟨m,M,a,p,w,.refl _,H,k,.refl _ _⟩⟩
 |refuse why=>intro s e r _ g;cases g
end
section
variable{T:au}{P:zo}
def Ys(q:bM T P)(i:iB T P V){g:Fr}{s:S}{e:Ex}{o:S}(j:ck n x=Y)(f:aw T V g (.loop x) s=.c e o):
 lG T P g n s e o (λk=>vE x::k):=by
 have f:CQ V g x (aw T V g x s)=.c e o:=f;have d:∀(b:yW) k a r w,xE P (yX (b.atR a (vE x::k)) r w) (yX (b.atR a (xG x::vE x::k)) r w):=λb k a r w=>xg stepR_inLoop;cases h:aw T V g x s with
 |c t u=>
  rw[h]at f;have p:=A6 q i x s t u j h;cases t with
  |Nr=>exact(p.seq (i.loop g x u e o n f j)).head d
  |exit id=>injection f with l m;subst l;subst m;exact(p.pass (λk=>vE x::k) (by simp) (λid k=>rfl)).head d
  |ret=>injection f with l m;subst l;subst m;exact(p.pass (λk=>vE x::k) (by simp) (λid k=>rfl)).head d
  |panic v=>injection f with l m;subst l;subst m;exact(p.pass (λk=>vE x::k) (by simp) (λid k=>rfl)).head d
 |f=>rw[h]at f;cases f
 |r a b c=>rw[h]at f;cases f
 |p a b c=>rw[h]at f;cases f
 |any a b=>rw[h]at f;cases f
def agv(r:yR){l:List yR}:Am.zJ T q (r::l) h=Z7 T q (Am.zJ T q l) h r:=rfl
def Hq(tmps:Array E):yR->Sem E
 |.tmp t=>pure (tmps.getD t yh)
 |.cell a t=>do loadVar t (<-Go.asAddr (tmps.getD a yh))
def QS(o:bM T P){f:Tr E}:∀{l:List yR}{h:H}{k:List E}{j:H},Am.zJ T f l h=.ok k j->Le h j/\∀n m p w tmps,Fin n j->Inv T n m p h w->TR m f tmps->
 ∃i,LR m k i/\(l.mapM (Hq tmps)).run P w=.ok i w/\Inv T n m p j w
 |[],h,k,j,e=>by have e:r9.ok [] h=.ok k j:=e;cases e;exact⟨.refl _,λn m p w tmps F d _=>⟨[],.Nl,by simp,d⟩⟩
 |r::l,h,k,j,e=>by
  rw[agv]at e;cases r with
  |tmp t=>
   have e:CG (Am.zJ T f l) (gk h (f.g t))=.ok k j:=e;cases A:f.g t with
   |none=>rw[A]at e;cases e
   |some v=>
    rw[A]at e;have e:Kf v (Am.zJ T f l h)=.ok k j:=e;cases q:Am.zJ T f l h with
    |fail=>rw[q]at e;cases e
    |ok L h1=>
     rw[q]at e;cases e;let⟨C,M⟩:=QS o q;refine⟨C,λn m p w tmps F d B=>?_⟩;let⟨i,N,Q,S⟩:=M n m p w tmps F d B;let⟨V,W,X⟩:=B t v A;refine⟨V::i,.Cs X N,?_,S⟩;simp only[su,zn,Hq,yA,zY,Q,wT,W,vx]
  |cell a t=>
   have e:CG (Am.zJ T f l) (M7 T h t (f.g a))=.ok k j:=e;cases ha:f.g a with
   |none=>rw[ha]at e;cases e
   |some av=>
    rw[ha]at e;have e:CG (Am.zJ T f l) (Er T h t av)=.ok k j:=e;cases s:Er T h t av with
    |f=>rw[s]at e;cases e
    |v v h0=>
     rw[s]at e;have e:Kf v (Am.zJ T f l h0)=.ok k j:=e;cases q:Am.zJ T f l h0 with
     |fail=>rw[q]at e;cases e
     |ok L h1=>
      rw[q]at e;cases e;let⟨C,M⟩:=QS o q;have u:=XT s;obtain⟨b,off,c,e0,g,rfl,hg,y,rfl⟩:=u;refine⟨(jP h b).trans C,λn m p w tmps F d B=>?_⟩;have F0:=F.of_le C;have A:n.cX b:=(ma h b).elim (λx=>(F0.hi b x).1) (F0.rd b);let⟨i,N,Q,S⟩:=M n m p w tmps F (d.az b) B;let⟨av',W,X⟩:=B a _ ha;cases X with
      |ptr hm=>
       let⟨c',pre,post,e',R⟩:=d.row hm hg A;let⟨V,j1,j2⟩:=Xp o R y;refine⟨V::i,.Cs j1 N,?_,S⟩;simp only[su,zn,Hq,yA,zY,Q,wT,W,vx,Go.asAddr,j2]
def HX:List E->E
 |[v]=>v
 |a=>aTu a
def agR{a:xZ}{tmps:Array E}(h:(a.results.toList.mapM (Hq tmps)).run P W=.ok l W):
 (sG a tmps).run P W=.ok (HX l) W:=by
 have b:sG a tmps=(a.results.mapM (Hq tmps)>>=λl=>pure (if h:l.size=1 then l[0]else xC l)):=by unfold sG;exact congrArg (λf=>(a.results.mapM f>>=λl=>pure (if h:l.size=1 then l[0]else xC l):Sem E)) (funext λx=>by cases x<;>rfl)
 have c:(a.results.mapM (Hq tmps)).run P W=.ok ⟨l⟩ W:=by rw[Array.mapM_eq_mapM_toList];simp only[Sem.run_map,h,zY]
 rw[b];simp only[zn,c,zY,yA];clear h c;rcases l with _|⟨v,_|⟨d,r⟩⟩
 .rfl
 .rfl
 .simp[HX]
end
section
variable{T:au}{P:zo}
section
variable{b:yW}{a:uv}{todo:List vH}{cs:List yW}{w w':zu}{cm:Option (List zO)}
def step_take{calls:List zc}{args:Array E}(c:a.defers={target:=xV n,args}::X)(d:(vX n).run P w=.ok calls w'):
 ub P (yX {b.atR a todo with mode:=mm cm} cs w)=vP (yX {b.atR {a with defers:=calls++X} todo with mode:=mm cm} cs w'):=by
 refine ym ?_;cases cm<;>simp[vc,uz,mm,xL,c,yz,d]
def afz{c:Array E}{args:Array E}{e:Next}{d:yW}(i:a.defers={target:=.fn (za f) c,args}::X)
 (j:(uG (.fn (za f) c) args).run P w=.ok e w')(h:D6 P .deferred e=O d):
 ub P (yX {b.atR a todo with mode:=mm cm} cs w)=vP (yX d ({b.atR {a with defers:=X} todo with mode:=mm cm}::cs) w'):=by
 refine ym ?_
 cases e<;>first
  |(cases h;done)
  |(cases h;cases cm<;>simp[vc,uz,callDeferred,mm,xL,i,yz,j])
end
def afD{w:zu}(a:w.heap[n]?=O (vK (O X))):
 (vX n).run P w=.ok X {w with heap:=w.heap.setIfInBounds n (vK U)}:=by
 simp[vX,kL (P:=P) a rfl,Cx (P:=P) a rfl]
def DR.append{m:M}:∀{l b r c:List zc},DR m l b->DR m r c->DR m (l++r) (b++c)
 |_,_,_,_,.nil,a=>a
 |_,_,_,_,.cons h d,a=>.cons h (d.append a)
def PR.settled{y:Option (List zO)}(h:PR u o y):PR u (settled o) (settled y):=by
 cases h with
 |none=>exact .none
 |some h=>
  cases h with
  |nil=>exact .some .nil
  |@cons v c r l d a b=>
   cases r with
   |true=>exact .none
   |false=>exact .some (.cons a b)
def PR.getD{x :Option (List zO)}(h:PR u x o):CR u (x.getD []) (o.getD []):=by
 cases h with
 |none=>exact .nil
 |some h=>exact h
def XL(tok:bM T P)(iq:iB T P V)(fn:xZ)(s:S)(mode:Option (List zO)):adB T P fn s mode (JY T V fn mode s):=by
 let⟨u,df,h,p⟩:=s;intro h' pj i;cases df with
 |nil=>
  have hr:JY T V fn mode ⟨u,[],h,p⟩=Of T fn u h p mode:=rfl;rw[hr]at i⊢;cases mode with
  |some chain=>
   have C:Of T fn u h p (O chain)=.p chain h p:=rfl;rw[C]at i⊢;injection i with i;cases i;refine⟨.refl _,λL m hD e b todo a n k w H hk hb F t hp=>?_⟩;cases hp with
   |@some _ c' hc=>
    have R:a.defers=[]:=by have:=t.df;generalize hq:a.defers=q at this;cases this;rfl
    exact⟨m,hD,n,w,.aU c',_,.refl _,t.inv,t.ab,t.lV,.aU hc,.refl _ _,rfl,rfl,R,hk,fn,H⟩
  |none=>
   have C:Of T fn u h p U=fw p (Am.zJ T u fn.results.toList h):=rfl;rw[C]at i⊢;cases o0:Am.zJ T u fn.results.toList h with
   |fail=>rw[o0]at i;cases i
   |ok vs M=>
    have adE:fw p (.ok vs M)=.r (HX vs) M p:=by rcases vs with _|⟨v,_|⟨v2,r⟩⟩<;>rfl
    rw[o0,adE]at i;rw[adE];injection i with i;cases i;let⟨hle,hx⟩:=QS (P:=P) tok o0;refine⟨hle,λL m hD e b todo a n k w H hk hb F t hp=>?_⟩;cases hp;let⟨vs',k1,k2,k3⟩:=hx L m hD w a.tmps F t.inv t.tm
    have R:a.defers=[]:=by have:=t.df;generalize hq:a.defers=q at this;cases this;rfl
    have hv:VR m (HX vs) (HX vs'):=by
     cases k1 with
     |Nl=>exact .tuple .Nl
     |Cs hv hl=>
      cases hl with
      |Nl=>exact hv
      |Cs hv2 hl2=>exact .tuple (.Cs hv (.Cs hv2 hl2))
    exact⟨m,hD,n,w,.ret (HX vs'),_,.refl _,k3,t.ab,t.lV,.ret hv,.refl _ _,rfl,rfl,R,hk,fn,H,agR k2⟩
 |cons d B=>
  let⟨target,args⟩:=d;have hr:JY T V fn mode ⟨u,⟨target,args⟩::B,h,p⟩=Nw V fn B u h p mode args target:=rfl;rw[hr]at i⊢;cases target with
  |collected A=>
   have C:Nw V fn B u h p mode args (xV A)=Jq V fn B u h p mode A (h.g A):=rfl;rw[C]at i⊢;cases hg:h.g A with
   |none=>rw[hg]at i;cases i
   |some o=>
    rw[hg]at i;cases o with
    |Df q=>
     cases q with
     |none=>cases i
     |some l=>
      have hr3:Jq V fn B u h p mode A (O (.Df (O l)))=V (.unwind fn ⟨u,l++B,h.p A (.Df U),p⟩ mode):=rfl;rw[hr3]at i⊢;let⟨hle,hx⟩:=iq.Vx fn ⟨u,l++B,h.p A (.Df U),p⟩ mode h' pj i;refine⟨(oU _ _ _ hg).trans hle,λL m hD e b todo a n k w H hk hb F t hp=>?_⟩;have F1:=F.of_le hle;have W:=t.df;generalize hq:a.defers=q at W;cases W with
      |@cons _ d' _ N PW L7=>
       cases PW with
       |@collected _ pl hm=>
        have hn:=qw h A (.Df U);have ht:L.cX A:=hn.elim (λx=>(F1.hi _ x).1) (λx=>F1.rd _ x.1);let⟨_,o',ho,hO⟩:=t.inv.get hm hg ht;cases hO with
        |@deferred _ l' hl=>
         have rl:OR T m pl (.Df U) (vK U):=.RO;let⟨s1,s2,s3,s4⟩:=Cu w ho (λ_ _ _ h=>by cases h) rl.calm;have I2:=t.inv.put hm hg F1 rl s1 s2 s3 s4;have qh:gz T L m _ e a.tmps.size ⟨u,l++B,h.p A (.Df U),p⟩ {a with defers:=l'++N} n _:=⟨I2,t.tm,rfl,hl.append L7,t.ab,t.lV⟩;let⟨m',X,j,w',cr,Q,k1,k2,k3,k4,k5,k6,k7⟩:=hx L m _ e b todo {a with defers:=l'++N} n k _ H hk hb F qh hp;exact⟨m',X,j,w',cr,Q,k1,k2,k3,k4,k5,vt (step_take hq (afD ho)) k6,k7⟩
    |_=>cases i
  |fn f cap=>
   have C:Nw V fn B u h p mode args (.fn f cap)=GQ V fn B u p (V (.call (zU f #[] cap) args.toList h mode)):=rfl;rw[C]at i⊢;have acW:=iq.call (zU f #[] cap) args.toList h mode;generalize avv:V (.call (zU f #[] cap) args.toList h mode)=bi at i acW
   have go:∀M m1 nm,bi.fin=O (M,m1)->GQ V fn B u p bi=V (.unwind fn ⟨u,B,M,p⟩ nm)->
    (∀m j cr(c:yW) rest w M0,RR m bi cr->PR m m1 j->CT P M0 j w (.under c rest) cr->∃P5,PR m nm P5/\xE P M0 (yX {c with mode:=mm P5} rest w))->
    Le h h'/\∀L m hD e(b:yW) todo a n k w,P.funcs[b.fn]?=O fn->b.kind=e.kind->b.roundOf=U->Fin L h'->gz T L m hD e a.tmps.size ⟨u,⟨.fn f cap,args⟩::B,h,p⟩ a n w->PR m mode k->
    ∃m' X j w' cr Q,ct m m'/\Inv T L m' X h' w'/\PR m' pj j/\e.ok pj/\RR m' (GQ V fn B u p bi) cr/\
     xE P (yX {b.atR a todo with mode:=mm k} (e.cs n) w) (yX Q (e.cs j) w')/\La P e.kind b.fn Q w' cr:=by
    intro M m1 nm hf hd ari;rw[hd]at i;let⟨UT,hc⟩:=acW M m1 hf;let⟨K9,hx⟩:=iq.Vx fn ⟨u,B,M,p⟩ nm h' pj i;refine⟨UT.trans K9,λL m hD e b todo a n k w H hk hb F t hp=>?_⟩;have W:=t.df;generalize hq:a.defers=q at W;cases W with
    |@cons _ d' _ N PW L7=>
     cases PW with
     |@fn g c c' l l' nO Up=>
      have F1:=F.of_le K9
      let⟨nx,AW,p1,p2,m2,qg,Lb,w2,cr2,p3,p4,p5,p6,p7,p8⟩:=hc L m hD (.under (b.atR {a with defers:=N} todo) (e.cs n)) (zU (za g) #[] ⟨c'⟩) l' k w (zt ⟨⟨_,_,rfl⟩,g,_,_,rfl⟩) F1 t.inv
       (.func g .Nl nO) Up hp trivial
      let⟨P5,z1,z2⟩:=ari m2 Lb cr2 _ _ w2 _ p7 p5 p8
      have hinv:(uG (.fn (za g) ⟨c'⟩) ⟨l'⟩).run P w=.ok nx w:=by
       have:(jT (zU (za g) #[] ⟨c'⟩) l').run P w=(uG (.fn (za g) ⟨c'⟩) ⟨l'⟩).run P w:=by simp[jT,yr]
       rw[<-this];exact p1
      have qh:gz T L m2 qg e a.tmps.size ⟨u,B,M,p⟩ {a with defers:=N} n w2:=⟨p4,t.tm.mono p3,rfl,L7.mono p3,t.ab.mono p3,t.lV⟩;let⟨m',X,j,w',cr,Q,k1,k2,k3,k4,k5,k6,k7⟩:=hx L m2 qg e b todo {a with defers:=N} n P5 w2 H hk hb F qh z1;refine⟨m',X,j,w',cr,Q,p3.trans k1,k2,k3,k4,by rw[hd];exact k5,vt (afz hq hinv p2) (z2.trans k6),k7⟩
   cases bi with
   |f=>cases i
   |c x y=>cases i
   |any x y=>cases i
   |r v M m1=>
    exact go M m1 (settled m1) rfl rfl (λm j cr c rest w M0 VH qf P4=>by
     cases VH with
     |ret hv=>exact⟨settled j,qf.settled,P4⟩)
   |p ch M m1=>
    exact go M m1 (O (ch++m1.getD [])) rfl rfl (λm j cr c rest w M0 VH qf P4=>by
     cases VH with
     |@aU _ c' _ _ hc=>exact⟨O (c'++j.getD []),.some (hc.append qf.getD),P4⟩)
  |_=>cases i
end
section
variable{T:au}{P:zo}
def aaf(h:ze k n=Y)(b:n<=m):ze k m=Y:=zb (yd (fC h) b)
def ahX(a:n<=k){o:yH}(h:KI n o=Y):KI k o=Y:=by
 unfold KI at*;cases b:o.dst with
 |none=>rfl
 |some d=>rw[b]at h;exact aaf h a
def ajp(a:n<=k){o:yH}(h:qU n o=Y):qU k o=Y:=by unfold qU at*;rw[zX]at*;exact⟨ahX a h.1,h.2⟩
def agh(c:n<=k){a:Array yH}(h:Be n a b=Y):Be k a b=Y:=by unfold Be at*;rw[zX]at*;refine⟨?_,h.2⟩;have e:=h.1;rw[wH]at*;exact λo f=>ajp c (e o f)
def agi(b:n<=k){a:List xw}(h:rL n a=Y):rL k a=Y:=by unfold rL at*;rw[wH]at*;exact λo c=>aaf (h o c) b
def agS{nt :Nat}(j:nt<=n):∀{c:yG},ck nt c=Y->ck n c=Y:=by
 intro c;induction c with
 |region id l d=>exact agh j
 |seq a b e g=>intro h;have h:(ck nt a&&ck nt b)=Y:=h;rw[zX]at h;show(ck n a&&ck n b)=Y;rw[zX];exact⟨e h.1,g h.2⟩
 |cond x a b e g=>
  intro h;have h:(qG x&&(ck nt a&&ck nt b))=Y:=h;rw[zX,zX]at h;show(qG x&&(ck n a&&ck n b))=Y;rw[zX,zX];exact⟨h.1,e h.2.1,g h.2.2⟩
 |block id b i=>exact i
 |loop b i=>exact i
 |rangeFunc f k a b e g=>
  intro h;have h:(qG f&&(rL nt k.toList&&(ck nt a&&ck nt b)))=Y:=h;rw[zX,zX,zX]at h;show(qG f&&(rL n k.toList&&(ck n a&&ck n b)))=Y;rw[zX,zX,zX];exact⟨h.1,agi j h.2.1,e h.2.2.1,g h.2.2.2⟩
 |scope b i=>exact i
 |_=>intro _;rfl
def ahY:bF (v::l) k r=bF l (k+1) (r.s k v):=rfl
def Zd:∀(l:List E)(k:Nat)(t:Tr E)(j:Nat)(v:E),(bF l k t).g j=O v->(k<=j/\l[j-k]?=O v)\/t.g j=O v
 |[],_,_,_,_,h=>zt h
 |x::l,k,t,j,v,h=>by
  rw[ahY]at h;rcases Zd l (k+1) _ j v h with⟨a,b⟩|a
  .refine zq ⟨by omega,?_⟩;rw[show j-k=(j-(k+1))+1 from by omega];simpa using b
  .by_cases e:j=k
   .subst e;have:=Tr.D2 t a;subst this;exact zq ⟨zR _,by simp⟩
   .rw[Tr.Ba t x e]at a;exact zt a
def agT(h:LR u l p)(n:Nat):TR u (bF l 0 .Nl) ((⟨p⟩:Array E)++xM n yh):=by
 intro t v e;rcases Zd l 0 .Nl t v e with⟨_,b⟩|c
 .obtain⟨d,a,f⟩:=h.get (by simpa using b);refine⟨d,?_,f⟩;rw[Array.getElem?_append]
  have:t<I p:=by
   rcases Nat.lt_or_ge t (I p) with q|q
   .exact q
   .rw[List.getElem?_eq_none q]at a;cases a
  rw[if_pos (by simpa using this)];simpa using a
 .cases c
def ahZ:oT [] l r=match l with|[]=>O r|_::_=>U:=rfl
def agU{d:xw}{a:List xw}:oT (d::a) l r=match l with|[]=>U|v::l=>oT a l (r.s d v):=rfl
def XM{m:M}:∀{b:List xw}{g a:List E}{t h:Tr E}{tmps:Array E},LR m g a->TR m t tmps->rL tmps.size b=Y->oT b g t=O h->
 (I a)=I b/\TR m h ((b.zip a).foldl (λtmps x=>tmps.setIfInBounds x.1 x.2) tmps)/\((b.zip a).foldl (λtmps x=>tmps.setIfInBounds x.1 x.2) tmps).size=tmps.size
 |[],g,a,t,h,tmps,f,i,c,e=>by
  rw[ahZ]at e;cases f with
  |Nl=>injection e with e;subst e;exact⟨rfl,i,rfl⟩
  |Cs _ _=>cases e
 |d::b,g,a,t,h,tmps,f,i,c,e=>by
  rw[agU]at e;cases f with
  |Nl=>cases e
  |@Cs v k l s n f=>
   have c:(ze (Nat.succ d) tmps.size&&rL tmps.size b)=Y:=c;rw[zX]at c;have o:d<tmps.size:=fC c.1;have j:(tmps.setIfInBounds d k).size=tmps.size:=by simp
   let⟨p,q,r⟩:=XM f (i.set o n) (by rw[j];exact c.2) e;refine⟨by simp[p],by simpa using q,?_⟩;simp only[List.zip_cons_cons,List.foldl_cons];rw[r,j]
def alZ{a:xZ}(b:P.funcs[f]?=O a)(d:a.body=O x)(args:List E)(kind:CallKind):
 wj P f ⟨args⟩ kind=(wj P f ⟨args⟩ kind).atR ⟨(⟨args⟩:Array E)++xM (a.ntmps-I args) yh,[]⟩ [xG x]:=by
 simp[wj,xL,b,d]
def D7(X:bM T P)(iq:iB T P V){p:xZ}{args:List E}{ab:Option (List zO)}(hT:T.f f=O p)(hc:p.body=O x):
 ∀L r,(pK T V f args h ab p (O x)).fin=O (L,r)->Le h L/\∀y m hD(d:Kt) j q w,Fin y L->Inv T y m hD h w->LR m args j->PR m ab q->d.ok ab->
  ∃A B l N cr t,ct m A/\Inv T y A B L N/\PR A r l/\d.ok r/\RR A (pK T V f args h ab p (O x)) cr/\
   xE P (yX (wj P f ⟨j⟩ d.kind) (d.cs q) w) (yX t (d.cs l) N)/\La P d.kind f t N cr:=by
 let⟨hf,u⟩:=X.func f p hT
 have C:ck p.ntmps x=Y:=by unfold rQ at u;rw[hc]at u;have u:(!(p.name== "runtime.NumGoroutine")&&ck p.ntmps x)=Y:=u;rw[zX]at u;exact u.2
 intro L r k;have hb:pK T V f args h ab p (O x)=CD V p (aw T V ⟨f,U⟩ x ⟨bF args 0 .Nl,[],h,ab⟩):=rfl;rw[hb]at k⊢;cases hx:aw T V ⟨f,U⟩ x ⟨bF args 0 .Nl,[],h,ab⟩with
 |f=>rw[hx]at k;cases k
 |r v h1 lY=>rw[hx]at k;cases k
 |p v h1 lY=>rw[hx]at k;cases k
 |any v h1=>rw[hx]at k;cases k
 |c e s=>
  rw[hx]at k
  have go:∀mode,CD V p (.c e s)=V (.unwind p s mode)->
   (∀(b:yW)(a:uv)(m:M)(cs:List yW)(w:zu) M0,b.roundOf=U->tg P M0 b [] cs m a w e->∃o todo,PR m mode o/\xE P M0 (yX {b.atR a todo with mode:=mm o} cs w))->
   Le h L/\∀y m hD(d:Kt) j q w,Fin y L->Inv T y m hD h w->LR m args j->PR m ab q->d.ok ab->
    ∃A B l N cr t,ct m A/\Inv T y A B L N/\PR A r l/\d.ok r/\RR A (CD V p (.c e s)) cr/\
     xE P (yX (wj P f ⟨j⟩ d.kind) (d.cs q) w) (yX t (d.cs l) N)/\La P d.kind f t N cr:=by
   intro mode hd n;rw[hd]at k;let⟨W,hu⟩:=iq.Vx p s mode L r k;have UT:Le h s.h:=(A6 (nt:=p.ntmps) X iq x _ e s C hx).1;refine⟨UT.trans W,λy m hD d j q w F i hl hp hk=>?_⟩;have hlen:=hl.length;generalize Q:(⟨(⟨j⟩:Array E)++xM (p.ntmps-I j) yh,[]⟩:uv)=a0;have eU:p.ntmps<=a0.tmps.size:=by rw[<-Q];simp;omega
   have hS:=A6 (nt:=a0.tmps.size) X iq (fr:=⟨f,U⟩) x _ e s (agS eU C) hx
   have st:gz T y m hD d a0.tmps.size ⟨bF args 0 .Nl,[],h,ab⟩ a0 q w:=
    ⟨i,by rw[<-Q];exact agT hl _,rfl,by rw[<-Q];exact .nil,hp,hk⟩
   generalize R:wj P f ⟨j⟩ d.kind=b;have VI:b=b.atR a0 [xG x]:=by rw[<-R,<-Q];exact alZ hf hc j d.kind
   have hbk:b.kind=d.kind:=by rw[<-R];rfl
   have L8:b.fn=f:=by rw[<-R];rfl
   have kI:b.roundOf=U:=by rw[<-R];rfl
   let⟨m1,Dw,a1,avy,w1,q1,q2,q3⟩:=hS.2 y m hD d b [] a0 q w (F.of_le W) st hbk L8 (by rw[kI];exact .none);let⟨o,todo,r1,r2⟩:=n b a1 m1 _ w1 _ kI q3;let⟨A,B,l,N,cr,t,k1,k2,k3,k4,k5,k6,k7⟩:=hu y m1 Dw d b todo a1 avy o w1 (by rw[L8];exact hf) hbk kI F ⟨q2.inv,q2.tm,rfl,q2.df,q2.ab,q2.lV⟩ r1;refine⟨A,B,l,N,cr,t,q1.trans k1,k2,k3,k4,by rw[hd];exact k5,?_,by rw[<-L8];exact k7⟩;rw[VI];exact r2.trans k6
  cases e with
  |Nr=>
   exact go U rfl λb a m cs w M0 hb n=>⟨U,[],.none,wi n (xg (stepR_end hb))⟩
  |ret=>
   exact go U rfl λb a m cs w M0 hb n=>by let⟨k1,h1⟩:=n;exact⟨U,xG .ret::k1,.none,h1.trans (xg (stepR_ret hb))⟩
  |panic chain=>
   exact go (O chain) rfl λb a m cs w M0 hb n=>by let⟨todo,S,h1,h2⟩:=n;exact⟨O S,todo,.some h1,h2⟩
  |exit id=>cases k
def CR.abX{m:M}:∀{l a:List zO},CR m l a->a.dropWhile (!·.goexit)=[]
 |_,_,.nil=>rfl
 |_,_,.cons _ b=>by simpa using b.abX
def GC{t:Machine}{y:Option (List zO)}{a:Kt}{k:yW}{n:Pk}(A:(∃c x,a=.plain (c::x))\/∃c r,a=.under c r)(B:PR u y o)
 (p:La P a.kind f k W n)(q:xE P t (yX k (a.cs o) W)):CT P t o W a n:=by
 rcases A with⟨c,x,rfl⟩|⟨c,rest,rfl⟩
 .cases n with
  |ret v=>
   let⟨_,e,h,i,fn,d,j⟩:=p;exact q.trans (xg (step_leave_returned ⟨e,h,i,fn,by rw[‹k.fn=f›];exact d,j⟩))
  |aU C=>
   let⟨_,e,h,i,fn,d⟩:=p;exact q.trans (xg (sv ⟨e,h,fn,by rw[‹k.fn=f›];exact d⟩))
 .cases n with
  |ret v=>
   let⟨s,e,h,i,fn,d,j⟩:=p;have i:k.kind=.deferred:=i;refine q.trans (xg (ym ?_));rw[<-s]at d;cases B with
   |none=>simp[vc,uz,vd,Kt.cs,mm,settled,e,h,i,d,j]
   |some F=>
    cases F with
    |nil=>simp[vc,uz,vd,Kt.cs,mm,settled,e,h,i,d,j]
    |@cons b L r l N Q H=>
     cases r with
     |true=>simp[vc,uz,vd,Kt.cs,mm,settled,e,h,i,d,j,H.abX]
     |false=>simp[vc,uz,vd,Kt.cs,mm,settled,e,h,i,d,j]
  |aU C=>
   let⟨s,e,h,i,fn,d⟩:=p;refine q.trans (xg (ym ?_));rw[<-s]at d;cases o<;>simp[vc,uz,Frame.catches,Kt.cs,mm,Frame.raise,e,h,d]
def Gy{a:xZ}(b:P.funcs[f]?=O a)(d:(a.name== "runtime.NumGoroutine")=G)(e:a.body=O x)(args:Array E)(w:zu):(callFunc f args).run P w=.ok (.enter f args) w:=by simp[callFunc,b,e];simpa using d
def agw(k:bM T P)(s:iB T P V){args:List E}{h:H}:
 bP T P (zU (za f) ⟨l⟩ ⟨p⟩) args h o (cB T V f (l++args++p) h o (T.f f)):=by
 intro B t d;cases r:T.f f with
 |none=>rw[r]at d;cases d
 |some j=>
  let⟨C,e⟩:=k.func f j r;rw[r]at d;have L:cB T V f (l++args++p) h o (O j)=pK T V f (l++args++p) h o j j.body:=rfl;rw[L]at d⊢;cases n:j.body with
  |none=>rw[n]at d;cases d
  |some c=>
   rw[n]at d
   have M:(j.name== "runtime.NumGoroutine")=G:=by unfold rQ at e;rw[n]at e;have e:(!(j.name== "runtime.NumGoroutine")&&ck j.ntmps c)=Y:=e;rw[zX]at e;simpa using e.1
   let⟨hle,N⟩:=D7 k s r n B t d;refine⟨hle,λQ m R b f' i u w S F a W X hp hk=>?_⟩;cases W with
   |@func _ _ x _ y h1 h2=>
    let⟨m',v,q,w',cr,L9,k1,k2,A,k4,k5,k6,k7⟩:=N Q m R b (x++i++y) u w F a ((h1.append X).append h2) hp hk;refine⟨.enter f ⟨x++i++y⟩,_,?_,rfl,m',v,q,w',cr,k1,k2,A,k4,k5,GC ?_ A k7 k6⟩
    .simp[jT,yr,uG,Gy C M n]
    .rcases S with h|h
     .exact zq h
     .exact zt h.1
end
section
variable{T:au}{P:zo}
def stepR_beginRound{b:yW}{a:uv}{k:List vH}{cs:List yW}{w w':zu}{l:Nat}(c:b.roundOf=O l)(h:(v8 l).run P w=.ok () w'):
 ub P (yX (b.atR a (uU::k)) cs w)=vP (yX (b.atR a k) cs w'):=
 ym (by simp[vc,vD,xo,xL,c,yz,h,xY,Frame.finish])
def afU{w:zu}{l:Nat}{r:Loop}(a:w.heap[l]?=O (wh r))(b:r.state=wM):
 (v8 l).run P w=.ok () {w with heap:=w.heap.setIfInBounds l (wh {r with state:=wP})}:=by
 have c:=kL (P:=P) a rfl;simp[v8,wx,c,Cx (P:=P) a rfl,b]
def agx{w:zu}{l:Nat}{r:Loop}(a:w.heap[l]?=O (wh r))(jump:Option yG):
 (x7 l jump).run P w=.ok (zP jump.isNone) {w with heap:=w.heap.setIfInBounds l (wh {r with state:=if jump.isNone then wM else .done,pending:=jump})}:=by
 have b:=kL (P:=P) a rfl;simp[x7,wx,b,Cx (P:=P) a rfl]
section leave
variable{b c:yW}{a:uv}{cs:List yW}{w w':zu}{l:Nat}{v:E}
def afV(d:b.roundOf=O l)(e:b.kind=wR)(h:(x7 l U).run P w=.ok v w'):
 ub P (yX (b.atR a []) (c::cs) w)=vP (yX (c.finish v) cs w'):=
 ym (by simp[vc,vD,xL,d,e,yz,h,xY,vd])
def afW{k:List vH}(d:b.roundOf=O l)(e:b.kind=wR)(h:(x7 l (O .ret)).run P w=.ok v w'):
 ub P (yX (b.atR a (xG .ret::k)) (c::cs) w)=vP (yX (c.finish v) cs w'):=
 ym (by simp[vc,vD,xL,d,e,yz,h,xY,vd])
def afK{k:List vH}(d:tk n k=U)(e:b.roundOf=O l)(f:b.kind=wR)(h:(x7 l (O (.exit n))).run P w=.ok v w'):
 ub P (yX (b.atR a (xG (.exit n)::k)) (c::cs) w)=vP (yX (c.finish v) cs w'):=
 ym (by simp[vc,vD,xL,e,f,d,yz,h,xY,vd])
end leave
def ajq{w:zu}{l:Nat}{r:Loop}(b:w.heap[l]?=O (wh r)){args:List E}(c:I args=I r.params.toList):
 (jT (zU (yc l) #[] #[]) args).run P w=.ok (.round l r.fn ((r.params.toList.zip args).foldl (λtmps x=>tmps.setIfInBounds x.1 x.2) r.tmps) r.assign r.body) w:=by
 have d:=kL (P:=P) b rfl;have a:I args=r.params.size:=by simpa using c
 have f:(r.params.zip args.toArray).size=r.params.size:=by simp[a]
 have e:Array.foldl (λtmps(x:xw×E)=>tmps.setIfInBounds x.1 x.2) r.tmps (r.params.zip args.toArray) 0 r.params.size=(r.params.toList.zip args).foldl (λtmps x=>tmps.setIfInBounds x.1 x.2) r.tmps:=by rw[<-f,<-Array.foldl_toList,Array.toList_zip]
 simp[jT,yr,uG,Instr.yield,wx,d,a,e]
def agV(j:bM T P)(k:iB T P V){l:Nat}{args:List E}{h:H}{a q:kz}{fn:xZ}{i L:S}{e2:Ex}(hg:ae h l (.Lo a))(xa:oT a.params.toList args a.tmps=O r)
 (M:aw T V ⟨a.fn,O l⟩ a.assign ⟨r,[],h.az l,U⟩=.c .Nr i)(u:i.h.g l=O (.Lo q))(Ma:q.state=wM)
 (N:aw T V ⟨a.fn,O l⟩ a.body {i with h:=i.h.p l (.Lo {q with state:=wP})}=.c e2 L)(hA:ck fn.ntmps a.assign=Y)(hB:ck fn.ntmps a.body=Y):
 Le h L.h/\∀g m hD c cs f' f w(first Q:Array E),Fin g L.h->Inv T g m hD h w->VR m (zU (yc l) first Q) f'->LR m args f->
  ∃n e,m l=O n/\(jT f' f).run P w=.ok (.round n.aH a.fn e a.assign a.body) w/\
   ∃m' dW,∃b:yW,∃nt a' w',b.roundOf=O n.aH/\b.kind=wR/\b.fn=a.fn/\ct m m'/\gz T g m' dW (.plain (c::cs)) nt L a' U w'/\
    tg P (yX (Frame.round n.aH a.fn e a.assign a.body wR) (c::cs) w) b [] (c::cs) m' a' w' e2:=by
 have l1:=(A6 j k (fr:=⟨a.fn,O l⟩) _ _ _ _ hA M).1;have l2:=(A6 j k (fr:=⟨a.fn,O l⟩) _ _ _ _ hB N).1;have s:Le i.h (i.h.p l (.Lo {q with state:=wP})):=oU _ _ _ u;refine⟨((jP h l).trans l1).trans (s.trans l2),λg m hD c cs f' f w first Q F d hv hl=>?_⟩;cases hv with
 |@yield _ n hm=>
  have F2:Fin g (i.h.p l (.Lo {q with state:=wP})):=F.of_le l2;have F1:Fin g i.h:=F2.of_le s;have ht:g.cX l:=(ma h l).elim (λx=>((F1.of_le l1).hi _ x).1) (λx=>(F1.of_le l1).rd _ x);let⟨_,o',ho,hO⟩:=d.get hm hg ht;cases hO with
  |@loop _ C o=>
   let⟨z1,z2,z3⟩:=XM hl o.tmps o.okP xa;have hy:=ajq (P:=P) ho (args:=f) (by rw[o.params];exact z1);rw[o.params,o.fn,o.assign,o.body]at hy;generalize htm:(a.params.toList.zip f).foldl (λtmps x=>tmps.setIfInBounds x.1 x.2) C.tmps=e at*;refine⟨n,e,hm,hy,?_⟩;have hnt:e.size=C.tmps.size:=z3;generalize hb:Frame.round n.aH a.fn e a.assign a.body wR=b;have VI:b=b.atR ⟨e,[]⟩ [xG a.assign,uU,xG a.body]:=by rw[<-hb];rfl
   have p:b.roundOf=O n.aH:=by rw[<-hb];rfl
   have v:b.kind=wR:=by rw[<-hb];rfl
   have y:b.fn=a.fn:=by rw[<-hb];rfl
   have st:gz T g m hD (.plain (c::cs)) C.tmps.size ⟨r,[],h.az l,U⟩ ⟨e,[]⟩ U w:=⟨d.az l,z2,z3,.nil,.none,rfl⟩;have hSA:=A6 (nt:=C.tmps.size) j k (fr:=⟨a.fn,O l⟩) _ _ _ _ o.okA M;let⟨m1,Dw,a1,t,w1,q1,A,q3⟩:=hSA.2 g m hD (.plain (c::cs)) b [uU,xG a.body] ⟨e,[]⟩ U w F1 st v y (by rw[p];exact .some hm);have B:=q1.to _ _ hm;let⟨_,o1,R,B4⟩:=A.inv.get B u ht;cases B4 with
   |@loop _ q' hQ=>
    have W:OR T m1 n (.Lo {q with state:=wP}) (wh {q' with state:=wP}):=.loop {hQ with state:=rfl};let⟨VJ,VK,VL,VM⟩:=Cu w1 R (λ_ _ _ h=>by cases h) W.calm;have I2:=A.inv.put B u F2 W VJ VK VL VM;have hSB:=A6 (nt:=C.tmps.size) j k (fr:=⟨a.fn,O l⟩) _ _ _ _ o.okB N;have qh:gz T g m1 _ (.plain (c::cs)) C.tmps.size {i with h:=i.h.p l (.Lo {q with state:=wP})} a1 t _:=⟨I2,A.tm,A.nt,A.df,A.ab,A.lV⟩;let⟨m2,qg,a2,X,w2,p1,p2,p3⟩:=hSB.2 g m1 _ (.plain (c::cs)) b [] a1 t _ F qh v y (by rw[p];exact .some B)
    have avz:X=U:=by have h1:L.ab=U:=p2.lV;have h2:=p2.ab;rw[h1]at h2;cases h2;rfl
    subst avz;refine⟨m2,qg,b,_,a2,w2,p,v,y,q1.trans p1,p2,?_⟩;refine tg.of_steps ?_ p3
    have key:xE P (yX (b.atR ⟨e,[]⟩ [xG a.assign,uU,xG a.body]) (c::cs) w) (yX (b.atR a1 [xG a.body]) (c::cs) _):=
     wi q3 (xg (stepR_beginRound p (afU R (by rw[hQ.state];exact Ma))))
    rw[<-VI]at key;exact key
def afL(tok:bM T P)(iq:iB T P V){l:Nat}{first B:Array E}{args:List E}{h:H}:
 bP T P (zU (yc l) first B) args h o (Nb T V l args h (h.g l)):=by
 intro h' pj n;cases hg:h.g l with
 |none=>rw[hg]at n;cases n
 |some j=>
  rw[hg]at n;cases j with
  |Lo r=>
   have u:Nb T V l args h (O (.Lo r))=JT T V l h r (oT r.params.toList args r.tmps) (T.f r.fn):=rfl;rw[u]at n⊢;cases xa:oT r.params.toList args r.tmps with
   |none=>rw[xa]at n;cases n
   |some tm=>
    rw[xa]at n;cases xb:T.f r.fn with
    |none=>rw[xb]at n;cases n
    |some fn=>
     rw[xb]at n;have u:JT T V l h r (O tm) (O fn)=cond (ck fn.ntmps r.assign&&ck fn.ntmps r.body) (JD T V l r (aw T V ⟨r.fn,O l⟩ r.assign ⟨tm,[],h.az l,U⟩)) .f:=rfl;rw[u]at n⊢;cases S:(ck fn.ntmps r.assign&&ck fn.ntmps r.body)with
     |false=>rw[S]at n;cases n
     |true=>
     rw[S]at n;rw[zX]at S;let⟨hA,hB⟩:=S;rw[cond_true]at n⊢;let⟨hf,_⟩:=tok.func r.fn fn xb;cases y:aw T V ⟨r.fn,O l⟩ r.assign ⟨tm,[],h.az l,U⟩with
     |f=>rw[y]at n;cases n
     |r v C lY=>rw[y]at n;cases n
     |p v C lY=>rw[y]at n;cases n
     |any v C=>rw[y]at n;cases n
     |c e1 L=>
      rw[y]at n;cases e1 with
      |exit id=>cases n
      |ret=>cases n
      |panic c=>cases n
      |Nr=>
       have u:JD T V l r (.c .Nr L)=Jp T V L l r (L.h.g l):=rfl;rw[u]at n⊢;cases B7:L.h.g l with
       |none=>rw[B7]at n;cases n
       |some o1=>
        rw[B7]at n;cases o1 with
        |Lo q=>
         have u:Jp T V L l r (O (.Lo q))=Rm T V L l r q q.state:=rfl;rw[u]at n⊢;cases Ma:q.state with
         |ready=>
          rw[Ma]at n;have u:Rm T V L l r q wM=JS l (aw T V ⟨r.fn,O l⟩ r.body {L with h:=L.h.p l (.Lo {q with state:=wP})}):=rfl;rw[u]at n⊢;cases A:aw T V ⟨r.fn,O l⟩ r.body {L with h:=L.h.p l (.Lo {q with state:=wP})}with
          |f=>rw[A]at n;cases n
          |r v C lY=>rw[A]at n;cases n
          |p v C lY=>rw[A]at n;cases n
          |any v C=>rw[A]at n;cases n
          |c e2 t=>
           rw[A]at n;have u:JS l (.c e2 t)=JC t l e2 (t.h.g l):=rfl;rw[u]at n⊢;cases N:t.h.g l with
           |none=>rw[N]at n;cases n
           |some o2=>
            rw[N]at n;cases o2 with
            |Lo e=>
             have u:JC t l e2 (O (.Lo e))=JR t l e e2:=rfl;rw[u]at n⊢;let⟨hle,hx⟩:=agV (fn:=fn) tok iq hg xa y B7 Ma A hA hB
             have fin:∀st pd v,JR t l e e2=.r v (t.h.p l (.Lo {e with state:=st,pending:=pd})) U->
              (∀(b c:yW)(cs:List yW)(m:M)(a:uv)(w w':zu) M0 lb(r':Loop),b.roundOf=O lb->b.kind=wR->(∀jump,(x7 lb jump).run P w=.ok (zP jump.isNone) {w with heap:=w.heap.setIfInBounds lb (wh {r' with state:=if jump.isNone then wM else .done,pending:=jump})})->
                w'={w with heap:=w.heap.setIfInBounds lb (wh {r' with state:=st,pending:=pd})}->tg P M0 b [] (c::cs) m a w e2->xE P M0 (yX (c.finish v) cs w'))->(∀m,VR m v v)->
              Le h h'/\∀Γ m hD f f' p W w,f.may (zU (yc l) first B)->Fin Γ h'->Inv T Γ m hD h w->VR m (zU (yc l) first B) f'->LR m args p->PR m o W->f.ok o->
               ∃nx AW,(jT f' p).run P w=.ok nx w/\D6 P f.kind nx=O AW/\
                ∃Q X lH w' cr,ct m Q/\Inv T Γ Q X h' w'/\PR Q pj lH/\f.ok pj/\RR Q (JR t l e e2) cr/\CT P (yX AW (f.cs W) w) lH w' f cr:=by
              intro st pd v he s hvv;rw[he]at n;injection n with n;cases n;have HW:Le t.h (t.h.p l (.Lo {e with state:=st,pending:=pd})):=oU _ _ _ N;refine⟨hle.trans HW,λΓ m hD f f' p W w hK F i hv hl hp hk=>?_⟩;rcases hK with⟨c,cs,rfl⟩|⟨_,g,k,q0,R⟩
              .let⟨pl,att,hm,k1,Q,X,b,nt,a',w',k2,k3,k4,k5,k6,k7⟩:=hx Γ m hD c cs f' p w first B (F.of_le HW) i hv hl;have VN:=k5.to _ _ hm;have hn:=qw t.h l (.Lo {e with state:=st,pending:=pd});have ht:Γ.cX l:=hn.elim (λx=>(F.hi _ x).1) (λx=>F.rd _ x.1);let⟨_,o',ho,hO⟩:=k6.inv.get VN N ht;cases hO with
               |@loop _ z' hZ=>
                have rl:OR T Q pl (.Lo {e with state:=st,pending:=pd}) (wh {z' with state:=st,pending:=pd}):=.loop {hZ with state:=rfl,pending:=rfl};let⟨VJ,VK,VL,VM⟩:=Cu w' ho (λ_ _ _ h=>by cases h) rl.calm;have I2:=k6.inv.put VN N F rl VJ VK VL VM;refine⟨_,_,k1,rfl,Q,_,U,_,.ret v,k5,I2,.none,rfl,by rw[he];exact .ret (hvv Q),?_⟩;exact s b c cs Q a' w' _ _ pl.aH z' k2 k3 (λjump=>agx ho jump) rfl k7
              .cases R
             cases e2 with
             |Nr=>
              refine fin wM U (zP Y) rfl (λb c cs m a w w' M0 lb r' hb hk he hw s=>?_) (λm=>.bool Y);subst hw;exact wi s (xg (afV hb hk (he U)))
             |ret=>
              refine fin .done (O .ret) (zP G) rfl (λb c cs m a w w' M0 lb r' hb hk he hw s=>?_) (λm=>.bool G);subst hw;let⟨k1,C⟩:=s;exact C.trans (xg (afW hb hk (he (O .ret))))
             |exit id=>
              refine fin .done (O (.exit id)) (zP G) rfl (λb c cs m a w w' M0 lb r' hb hk he hw s=>?_) (λm=>.bool G);subst hw;let⟨k1,C,h2⟩:=s;exact h2.trans (xg (afK C hb hk (he (O (.exit id)))))
             |panic chain=>
              have u:JR t l e (.panic chain)=Z6 t.h chain t.df:=rfl;rw[u]at n⊢;cases FP:t.df with
              |cons d ds=>rw[FP]at n;cases n
              |nil=>
               rw[FP]at n;injection n with n;cases n;refine⟨hle,λΓ m hD f f' p W w hK F i hv hl hp hk=>?_⟩;rcases hK with⟨c,cs,rfl⟩|⟨_,g,k,q0,R⟩
               .let⟨pl,att,hm,k1,Q,X,b,nt,a',w',k2,k3,k4,k5,k6,k7⟩:=hx Γ m hD c cs f' p w first B F i hv hl;let⟨todo,arj,C,h2⟩:=k7
                have hdd:a'.defers=[]:=by have:=k6.df;rw[FP]at this;generalize hq:a'.defers=q at this;cases this;rfl
                refine⟨_,_,k1,rfl,Q,X,U,w',.aU arj,k5,k6.inv,.none,rfl,.aU C,?_⟩;refine wi h2 (xg (sv ⟨rfl,hdd,fn,?_⟩));show P.funcs[b.fn]?=O fn;rw[k4];exact hf
               .cases R
            |_=>cases n
         |_=>rw[Ma]at n;cases n
        |_=>cases n
  |_=>cases n
def Yt(b:bM T P)(c:iB T P V)(f:E)(args:List E)(h:H)(i:Option (List zO)):bP T P f args h i (acQ T V args h i f):=by
 cases f with
 |func j first d=>
  cases j with
  |func g=>let⟨first⟩:=first;let⟨d⟩:=d;exact agw b c
  |yield l=>exact afL b c
  |_=>intro k e a;cases a
 |_=>intro k e a;cases a
def Rr(a:bM T P):∀n,iB T P (eval T n)
 |0=>by
  refine⟨?_,?_,?_,?_⟩
  .intro f args h p r k d;cases d
  .intro l b s e m o h _;cases h
  .intro l b s e m o h _;cases h
  .intro q s mode r k d;cases d
 |n+1=>by
  have i:=Rr a n;have j:∀t,eval T (n+1) t=F T (eval T n) t:=λ_=>rfl;refine⟨λf args h p=>?_,λl b s e m o h g=>?_,λl c s e m o h g=>?_,λq s mode=>?_⟩
  .rw[j];exact Yt a i f args h p
  .rw[j]at h;exact Ys a i g h
  .rw[j]at h;exact A6 a i _ _ _ _ g h
  .rw[j];exact XL a i q s mode
end
section
variable{T:au}{P:zo}
def agW(hm:P.follows .mixedOrders=Y):bM (acR P) P where
 prog:=rfl
 cw t i h:=by
  rcases Tr.Rn P.types.toList 0 .Nl t i h with⟨_,h⟩|h
  .have h:P.types.toList[t]?=O i:=h;have h2:P.types[t]?=O i:=by simpa using h
   have cA:t<P.types.size:=(zd.1 h2).1;show(if t<P.types.size then P.types[t]? else Made.infoAt P.toTables Made.depth t)=O i
   rw[if_pos cA];exact h2
  .cases h
 func g fn h:=by
  have h:acP ((Tr.ofList (P.funcs.toList.map TD) 1 .Nl).g g)=O fn:=h;cases hg:(Tr.ofList (P.funcs.toList.map TD) 1 .Nl).g g with
  |none=>rw[hg]at h;cases h
  |some o=>
   rw[hg]at h;have h:o=O fn:=h;subst h;rcases Tr.Rn _ 0 .Nl g _ hg with⟨_,h⟩|h
   .rw[Nat.sub_zero,List.getElem?_map]at h;cases hf:P.funcs.toList[g]? with
    |none=>rw[hf]at h;cases h
    |some f=>
     rw[hf]at h;injection h with h;have h:cond (rQ f) (O f) U=O fn:=h;cases ho:rQ f with
     |false=>rw[ho]at h;cases h
     |true=>
      rw[ho]at h;cases h;exact⟨by simpa using hf,ho⟩
   .cases h
 mixed:=hm
structure Kept(w w':zu):Prop where
 cD:∀c,c<w.heap.size->w'.heap[c]?=w.heap[c]?
 size:w.heap.size<=w'.heap.size
 same:jZ w w'
def H.e:H:=⟨.Nl,0,0,0,0⟩
def LR.aag(m:M):∀{l:List E},nq l=Y->LR m l l
 |[],_=>.Nl
 |v::l,h=>by
  rw[Gu]at h;cases e:Am.ground v with
  |false=>rw[e]at h;cases h
  |true=>rw[e]at h;exact .Cs (.I0 e λ_ _ _=>trivial) (LR.aag m h)
end
section
variable{T:au}{P:zo}
def orF(T:au)(b:zC->ag)(t:zC):Option ag->ag
 |some a=>a
 |none=>F T b t
def EP(T:au)(C:zC->Option ag)(n:Nat):zC->ag:=
 Nat.rec (motive:=λ_=>zC->ag) (λt=>(C t).getD .f) (λ_ a t=>orF T a t (C t)) n
def GI(C:zC->Option ag)(t:zC):EP T C (n+1) t=orF T (EP T C n) t (C t):=rfl
def Yu{C:zC->Option ag}{t:zC}{a:ag}(h:C t=O a)(n:Nat):EP T C n t=a:=by
 cases n with
 |zero=>show(C t).getD .f=a;rw[h];rfl
 |succ n=>rw[GI,h];rfl
def GJ{C:zC->Option ag}{t:zC}(h:C t=U)(n:Nat):EP T C (n+1) t=F T (EP T C n) t:=by rw[GI,h];rfl
def acX(T:au)(P:zo)(C:zC->Option ag):Prop:=∀t a,C t=O a->∃f args h ab,t=.call f args h ab/\bP T P f args h ab a
def X2(i:bM T P){C:zC->Option ag}(j:acX T P C):∀n,iB T P (EP T C n)
 |0=>by
  refine⟨?_,?_,?_,?_⟩
  .intro f args h q;show bP T P f args h q ((C (.call f args h q)).getD .f);cases d:C (.call f args h q)with
   |none=>intro u l g;cases g
   |some a=>
    let⟨x,o,u,l,e,k⟩:=j _ _ d;cases e;exact k
  .intro m b s e r w h _;have h:(C (.loop m b s)).getD .f=.c e r:=h;cases d:C (.loop m b s)with
   |none=>rw[d]at h;cases h
   |some a=>let⟨_,_,_,_,e,_⟩:=j _ _ d;cases e
  .intro m b s e r w h _;have h:(C (.run m b s)).getD .f=.c e r:=h;cases d:C (.run m b s)with
   |none=>rw[d]at h;cases h
   |some a=>let⟨_,_,_,_,e,_⟩:=j _ _ d;cases e
  .intro t s mode u l g;have g:((C (.unwind t s mode)).getD .f).fin=O (u,l):=g;cases d:C (.unwind t s mode)with
   |none=>rw[d]at g;cases g
   |some a=>let⟨_,_,_,_,e,_⟩:=j _ _ d;cases e
 |n+1=>by
  have v:=X2 i j n;refine⟨λf args h q=>?_,λm b s e r w h p=>?_,λm c s e r w h p=>?_,λt s mode=>?_⟩
  .rw[GI];cases d:C (.call f args h q)with
   |none=>exact Yt i v f args h q
   |some a=>
    let⟨x,o,u,l,e,k⟩:=j _ _ d;cases e;exact k
  .rw[GI]at h;cases d:C (.loop m b s)with
   |none=>rw[d]at h;exact Ys i v p h
   |some a=>let⟨_,_,_,_,e,_⟩:=j _ _ d;cases e
  .rw[GI]at h;cases d:C (.run m c s)with
   |none=>rw[d]at h;exact A6 i v _ _ _ _ p h
   |some a=>let⟨_,_,_,_,e,_⟩:=j _ _ d;cases e
  .rw[GI];cases d:C (.unwind t s mode)with
   |none=>exact XL i v t s mode
   |some a=>let⟨_,_,_,_,e,_⟩:=j _ _ d;cases e
mutual
inductive bH:E->Prop
 |Gd {v:E} (h:ground v=Y):bH v
 |agg {l:List E} (h:bX l):bH (.agg ⟨l⟩)
 |Tt {l:List E} (h:bX l):bH (xC ⟨l⟩)
 |iface (t:zQ) {v:E} (h:bH v):bH (.iface t v)
 |func (f:zZ) {l c:List E} (h:bX l) (hc:bX c):bH (zU (za f) ⟨l⟩ ⟨c⟩)
 |data (off:Nat) (p:Array w8) (len:Nat) {es:List E} (fG:List E) (h:bX es):bH (zU (.via off p len G) ⟨es⟩ ⟨fG⟩)
 |jg (f:Nat) (p:Array w8) (k:zZ) {e:E} (q:Array E) (h:bH e):bH (zU (.via f p k Y) ⟨[e]⟩ q)
inductive bX:List E->Prop
 |Nl:bX []
 |Cs {v:E} {l:List E} (h:bH v) (hl:bX l):bX (v::l)
end
def bJ(h:ground v=Y:=by rfl):bH v:=.Gd h
def dF(h:ground v=Y:=by rfl):bX [v]:=.Cs (.Gd h) .Nl
def pZ{w:E}(h:ground v=Y:=by rfl)(k:ground w=Y:=by rfl):bX [v,w]:=.Cs (.Gd h) (.Cs (.Gd k) .Nl)
def HY{w x:E}(h:ground v=Y:=by rfl)(k:ground w=Y:=by rfl)(l:ground x=Y:=by rfl):bX [v,w,x]:=.Cs (.Gd h) (.Cs (.Gd k) (.Cs (.Gd l) .Nl))
def bX.mem:∀{l:List E},bX l->∀v∈l,bH v
 |_,.Nl,v,a=>by cases a
 |_,.Cs h b,v,a=>by
  rcases zp.1 a with rfl|a
  .exact h
  .exact b.mem v a
def bX.of:∀{l:List E},(∀v∈l,bH v)->bX l
 |[],_=>.Nl
 |x::l,h=>.Cs (h x (by simp)) (bX.of λv a=>h v (by simp[a]))
def bX.append(a:bX l)(b:bX p):bX (l++p):=.of λv c=>(List.mem_append.1 c).elim (a.mem v) (b.mem v)
def bX.ground:∀{l:List E},nq l=Y->bX l
 |[],_=>.Nl
 |v::l,h=>by
  rw[Gu]at h;cases e:Am.ground v with
  |false=>rw[e]at h;cases h
  |true=>rw[e]at h;exact .Cs (.Gd e) (bX.ground h)
mutual
theorem VR.carry{m m2:M}(hi:∀c l,m.im c=O l->m2.im c=O l):∀{v v':E},VR m v v'->bH v->VR m2 v v'
 |_,_,.bool b,_=>.bool b
 |_,_,.int k n,_=>.int k n
 |_,_,.string s,_=>.string s
 |_,_,.AK,_=>.AK
 |_,_,.ptr h,hp=>by cases hp with|Gd h=>cases h
 |_,_,.cP n c,_=>.cP n c
 |_,_,.slice h hc,hp=>by cases hp with|Gd h=>cases h
 |_,_,.empty h,hp=>by cases hp with|Gd h=>cases h
 |_,_,.Ff,_=>.Ff
 |_,_,.map h,hp=>by cases hp with|Gd h=>cases h
 |_,_,.func f h hc,hp=>by
  cases hp with
  |Gd h=>cases h
  |func _ p q=>exact .func f (h.carry hi p) (hc.carry hi q)
 |_,_,.yield h,hp=>by cases hp with|Gd h=>cases h
 |_,_,.nilFunc,_=>.nilFunc
 |_,_,.nilIface,_=>.nilIface
 |_,_,.iface t h,hp=>by
  cases hp with
  |Gd h=>cases h
  |iface _ p=>exact .iface t (h.carry hi p)
 |_,_,.agg h,hp=>by
  cases hp with
  |Gd h=>cases h
  |agg p=>exact .agg (h.carry hi p)
 |_,_,.tuple h,hp=>by
  cases hp with
  |Gd h=>cases h
  |Tt p=>exact .tuple (h.carry hi p)
 |_,_,.data h1 h hs hl hc hk,hp=>by
  cases hp with
  |Gd h=>cases h
  |data _ _ _ _ p=>exact .data (hi _ _ h1) (h.carry hi p) hs hl hc hk
 |_,_,.gi ha hk,_=>.gi ha hk
 |_,_,.jg h1 h,hp=>by
  cases hp with
  |Gd h=>cases h
  |jg _ _ _ _ p=>exact .jg (hi _ _ h1) (h.carry hi p)
theorem LR.carry{m m2:M}(hi:∀c l,m.im c=O l->m2.im c=O l):∀{l l':List E},LR m l l'->bX l->LR m2 l l'
 |_,_,.Nl,_=>.Nl
 |_,_,.Cs h hl,hp=>by cases hp with|Cs p q=>exact .Cs (h.carry hi p) (hl.carry hi q)
end
mutual
inductive ej(g:Nat->Option ai):E->E->Prop
 |Pu {v:E} (h:bH v):ej g v v
 |agg {l d:List E} (h:eV g l d):ej g (.agg ⟨l⟩) (.agg ⟨d⟩)
 |tuple {l d:List E} (h:eV g l d):ej g (xC ⟨l⟩) (xC ⟨d⟩)
 |iface (t:zQ) {v d:E} (h:ej g v d):ej g (.iface t v) (.iface t d)
 |cP:ej g (.slice U 0 0) (cp [] 0 0 [])
 |slice {b off len cap sz:Nat} {pre es post ds:List E} {e:zQ} {gr:Bool} (hg:g b=O (K (pre++(es.flatMap ah++post)) e gr)) (ho:off=I pre) (hs:∀x∈es,I (ah x)=sz)
   (hl:len=I es) (hc:len<=cap) (h:eV g es ds):ej g (.slice (O ⟨b,off,U⟩) len cap) (cp ds 0 len [])
inductive eV(g:Nat->Option ai):List E->List E->Prop
 |Nl:eV g [] []
 |Cs {v d:E} {l r:List E} (h:ej g v d) (hl:eV g l r):eV g (v::l) (d::r)
end
def eV.length{g:Nat->Option ai}:∀{l d:List E},eV g l d->I d=I l
 |_,_,.Nl=>rfl
 |_,_,.Cs _ a=>by simp[a.length]
def eV.pure{g:Nat->Option ai}:∀{l:List E},bX l->eV g l l
 |_,.Nl=>.Nl
 |_,.Cs h a=>.Cs (.Pu h) (eV.pure a)
def LR.split{m:M}:∀{a b l:List E},LR m (a++b) l->∃c d,l=c++d/\LR m a c/\LR m b d
 |[],b,l,h=>⟨[],l,rfl,.Nl,h⟩
 |x::a,b,l,h=>by
  cases h with
  |Cs f g=>
   let⟨c,d,e,i,j⟩:=LR.split g;exact⟨_::c,d,by rw[e];rfl,.Cs f i,j⟩
def VR.TH{m:M}(h:LR m (ah v) l):∃a,l=a.cells.toList/\VR m v a:=by
 cases v with
 |agg d=>exact⟨aAg l,rfl,.agg h⟩
 |_=>
  all_goals
   cases h with
   |Cs b c=>
    cases c with
    |Nl=>
     refine⟨_,?_,b⟩;cases b<;>rfl
def LR.Ki{m:M}:∀{b l:List E},LR m (b.flatMap ah) l->∃a,l=a.flatMap (λx=>x.cells.toList)/\LR m b a
 |[],l,h=>by
  have h:LR m [] l:=by simpa using h
  cases h;exact⟨[],rfl,.Nl⟩
 |x::b,l,h=>by
  have h:LR m (ah x++b.flatMap ah) l:=by simpa using h
  obtain⟨k,n,rfl,d,e⟩:=h.split;let⟨f,g,i⟩:=VR.TH d;let⟨a,j,c⟩:=LR.Ki e;exact⟨f::a,by rw[g,j];simp,.Cs i c⟩
section
variable{Γ:gy}{m m2:M}{hD:Nat->Option ai}{h:H}{w:zu}
mutual
theorem VR.lZ(Ii:Inv T Γ m hD h w)(ht:∀b,Γ.cX b)(hi:∀c l,m.im c=O l->m2.im c=O l)
 (eH:∀b pl c e f,h.g b≠U->m b=O pl->w.heap[pl.aH]?=O (yP c e f)->m2.im pl.aH=O c.toList):∀{v v' d:E},ej h.g v d->VR m v v'->VR m2 d v'
 |_,_,_,.Pu hp,hv=>hv.carry hi hp
 |_,_,_,.agg hd,hv=>by cases hv with|agg h=>exact .agg (LR.lZ Ii ht hi eH hd h)
 |_,_,_,.tuple hd,hv=>by cases hv with|tuple h=>exact .tuple (LR.lZ Ii ht hi eH hd h)
 |_,_,_,.iface t hd,hv=>by cases hv with|iface _ h=>exact .iface t (VR.lZ Ii ht hi eH hd h)
 |_,_,_,.cP,hv=>by cases hv;exact .gi (λ_=>rfl) (zq rfl)
 |_,_,_,.slice (b:=b) (off:=off) (sz:=sz) (pre:=pre) (es:=es) (post:=post) (ds:=ds) (len:=len) hg ho hs hl hc hd,hv=>by
  have Mc:=hd.length;rcases hv.lk with⟨pl,cd,hm,nO,rfl⟩|⟨h4,h5,pl,a,hm,rfl⟩
  .let⟨c',m9,rX,e',R⟩:=Ii.row hm hg (ht _);obtain⟨p',r',rfl,k1,k2⟩:=R.rel.split;obtain⟨f',q',rfl,k3,k4⟩:=k2.split;obtain⟨eS,rfl,k5⟩:=k3.Ki
   have pk:=eH _ pl _ _ _ (by rw[hg];simp) hm R.heap
   have xc:∀x∈eS,I x.cells.toList=sz:=λx hx=>by
    let⟨i,hi,FQ⟩:=List.mem_iff_getElem.1 hx;have cA:i<I es:=by rw[<-k5.length];exact hi
    let⟨x2,e2,FR⟩:=k5.get (i:=i) (zm cA);have:x2=x:=by rw[zm hi,FQ]at e2;injection e2 with e2;exact e2.symm
    subst this;rw[FR.cells.length];exact hs _ (List.getElem_mem cA)
   have key:=VR.data (m:=m2) (es:=ds) (eS:=eS) (fG:=[]) (pre:=m9++p') (post:=q'++rX) (off:=0) (len:=len) (cd:=cd) (c:=pl.aH) (p:= #[]) (by rw[pk];simp) (LR.lZ Ii ht hi eH hd k5) xc
    (by omega) (yd hc (nO.le R.pos)) (zq rfl)
   have pn:I (m9++p')+0*sz=pl.sh+off:=by rw[List.length_append,R.pre,k1.length,Nat.zero_mul,Nat.add_zero,<-ho]
   rw[pn]at key;exact key
  .subst h4;exact .gi (λh=>by cases h) (zq rfl)
theorem LR.lZ(Ii:Inv T Γ m hD h w)(ht:∀b,Γ.cX b)(hi:∀c l,m.im c=O l->m2.im c=O l)
 (eH:∀b pl c e f,h.g b≠U->m b=O pl->w.heap[pl.aH]?=O (yP c e f)->m2.im pl.aH=O c.toList):∀{l l' d:List E},eV h.g l d->LR m l l'->LR m2 d l'
 |_,_,_,.Nl,hv=>by cases hv;exact .Nl
 |_,_,_,.Cs hd hl,hv=>by cases hv with|Cs h1 h2=>exact .Cs (VR.lZ Ii ht hi eH hd h1) (LR.lZ Ii ht hi eH hl h2)
end
end
end
section
variable{T:au}{P:zo}
def mh(m:M)(w a:zu):M:=
 ⟨m.at_,λc=>if c<w.heap.size then m.im c else match a.heap[c]? with|some (yP b _ _)=>O b.toList|_=>U⟩
def Rs{P:gy}{A:M}{y:Nat->Option ai}{j:zu}(a:Inv T P u B h W)
 (p:Inv T ⟨W,⟨λ_=>U,u.im⟩,λ_=>U,0,n,λ_=>True,λ_=>True,λc=>c<W.heap.size⟩ A y g j):
 ct u (mh u W j)/\Inv T P (mh u W j) B h j/\(∀c l,A.im c=O l->(mh u W j).im c=O l)/\
  (∀b i c e f,g.g b≠U->A b=O i->j.heap[i.aH]?=O (yP c e f)->(mh u W j).im i.aH=O c.toList):=by
 have hold:∀c,c<W.heap.size->j.heap[c]?=W.heap[c]?:=p.cD
 have F:∀b i,B b≠U->u b=O i->i.aH<W.heap.size:=λb i q t=>by
  cases e:B b with
  |none=>exact absurd e q
  |some o=>
   let⟨R,Q,C,v,_⟩:=a.obj b o e;rw[t]at C;cases C;exact(zd.1 v).1
 have r:ct u (mh u W j):=⟨λ_ _ h=>h,λc l d=>by
  let⟨⟨e,f,k⟩,_⟩:=a.de c l d;show(if c<W.heap.size then u.im c else _)=O l
  rw[if_pos (zd.1 k).1];exact d⟩
 refine⟨r,{obj:=λb o q=>?_,inj:=a.inj,cD:=λc d=>?_,ez:=a.ez,size:=yd a.size p.size,eC:=a.eC,same:=a.same.trans p.same,fy:=a.fy,dy:=a.dy,fresh:=a.fresh,fY:=a.fY,gj:=a.gj.trans r,gm:=a.gm,gv:=a.gv,ie:=a.ie,de:=λc l d=>?_,fD:=λc d=>?_},λc l d=>?_,λb i c e f q t L=>?_⟩
 .let⟨i,Q,C,v,S⟩:=a.obj b o q;exact⟨i,Q,C,by rw[hold _ (zd.1 v).1];exact v,S.mono r⟩
 .have:=a.size;have:=a.ez c d;rw[hold c (by omega)];exact a.cD c d
 .have d:(if c<W.heap.size then u.im c else match j.heap[c]? with|some (yP x _ _)=>O x.toList|_=>U)=O l:=d
  by_cases s:c<W.heap.size
  .rw[if_pos s]at d;let⟨⟨e,f,k⟩,v⟩:=a.de c l d;exact⟨⟨e,f,by rw[hold c s];exact k⟩,v⟩
  .rw[if_neg s]at d;split at d
   .rename_i x e f L;injection d with d;refine⟨⟨e,f,by rw[L,<-d]⟩,λb i q t=>?_⟩;have:=F b i q t;omega
   .cases d
 .have:=a.size;have:=a.ez c d;show(if c<W.heap.size then u.im c else _)=_
  rw[if_pos (by omega)];exact a.fD c d
 .show(if c<W.heap.size then u.im c else match j.heap[c]? with|some (yP x _ _)=>O x.toList|_=>U)=O l
  by_cases s:c<W.heap.size
  .rw[if_pos s];have:A.im c=u.im c:=p.fD c s;rw[<-this];exact d
  .rw[if_neg s];let⟨⟨e,f,k⟩,_⟩:=p.de c l d;rw[k]
 .have V:y b=g.g b:=by
   cases e:g.g b with
   |none=>exact absurd e q
   |some o=>rw[p.fy b (p.dy b o e) trivial (by rw[t];simp),e]
  have X:W.heap.size<=i.aH:=Nat.le_of_not_lt (p.eC b i (by rw[V];exact q) t);show(if i.aH<W.heap.size then u.im i.aH else match j.heap[i.aH]? with|some (yP x _ _)=>O x.toList|_=>U)=O c.toList
  rw[if_neg (by omega),L]
inductive UU(g:Nat->Option ai):ag->H->ag->Prop
 |ret {v d:E} {h h1:H} (hd:ej g v d):UU g (.r v h1 U) h (.r d h U)
 |aU {v d:E} {h h1:H} (hd:ej g v d):UU g (.p [⟨v,G,G⟩] h1 U) h (.p [⟨d,G,G⟩] h U)
def Su{m:M}(N:Nat)(w:zu){Γ:gy}{hD:Nat->Option ai}{h:H}(Ii:Inv T Γ m hD h w):
 Inv T ⟨w,⟨λ_=>U,m.im⟩,λ_=>U,0,N,λ_=>True,λ_=>True,λc=>c<w.heap.size⟩ ⟨λ_=>U,m.im⟩ (λ_=>U) H.e w where
 obj:=λ_ _ h=>by cases h
 inj:=λ_ _ _ _ h=>absurd rfl h
 cD:=λ_ _=>rfl
 ez:=λ_ h=>h
 size:=zR _
 eC:=λ_ _ h=>absurd rfl h
 same:=.refl _
 fy:=λ_ h=>absurd h (Nat.not_lt_zero _)
 dy:=λ_ _ h=>by cases h
 fresh:=λ_ _ _=>⟨rfl,rfl⟩
 fY:=zR _
 gj:=.refl _
 gm:=λ_ _=>rfl
 gv:=zR _
 ie:=λ_ _=>rfl
 de:=λc l hc=>⟨(Ii.de c l hc).1,λ_ _ h=>absurd rfl h⟩
 fD:=λ_ _=>rfl
def Sv(s:bM T P)(B:iB T P V){args:List E}{r d:ag}{y:H}(hp:bX args)(k:cB T V f args H.e U (T.f f)=r)(C:r.fin=O (y,U))
 (q:UU y.g r h d):bP T P (zU (za f) #[] #[]) args h U d:=by
 have L:d.fin=O (h,U):=by cases q<;>rfl
 intro h' pj l;rw[L]at l;injection l with l;cases l;refine⟨.refl _,λΓ m hD i f' j M w hK F e hv hl N hk=>?_⟩;cases A:T.f f with
 |none=>rw[A]at k;subst k;cases C
 |some p=>
  let⟨Q,n⟩:=s.func f p A;rw[A]at k;have t:pK T V f args H.e U p p.body=r:=k;cases u:p.body with
  |none=>rw[u]at t;subst t;cases C
  |some c=>
   rw[u]at t
   have hn:(p.name== "runtime.NumGoroutine")=G:=by unfold rQ at n;rw[u]at n;have n:(!(p.name== "runtime.NumGoroutine")&&ck p.ntmps c)=Y:=n;rw[zX]at n;simpa using n.1
   let⟨_,hx⟩:=D7 s B A u (args:=args) (h:=H.e) (ab:=U) y U (by rw[t];exact C)
   let⟨m',dW,v,X,cr,L9,k1,R,k3,k4,S,k6,k7⟩:=hx ⟨w,⟨λ_=>U,m.im⟩,λ_=>U,0,y.n,λ_=>True,λ_=>True,λc=>c<w.heap.size⟩ ⟨λ_=>U,m.im⟩ (λ_=>U) i j M w
    ⟨zR _,λ_ _=>⟨trivial,trivial⟩,λ_ _=>trivial,λ_ _=>trivial,λ_ _=>trivial⟩ (Su _ w e) (LR.carry (m:=m) (m2:=⟨λ_=>U,m.im⟩) bT hl hp) (by cases N;exact .none) hk
   rw[t]at S;let⟨q1,q2,q3,q4⟩:=Rs e R
   have W:f'=zU (za f) #[] #[]:=by
    cases hv with
    |func _ a b=>cases a;cases b;rfl
   subst W;refine⟨.enter f ⟨j⟩,_,?_,rfl,mh m w X,hD,v,X,cr,q1,q2,(by cases k3;exact .none),k4,?_,GC ?_ k3 k7 k6⟩
   .have:=Gy Q hn u (⟨j⟩:Array E) w;simpa[jT,yr,uG]using this
   .cases q with
    |ret q=>
     cases S with
     |ret o=>exact .ret (VR.lZ R (λ_=>trivial) q3 q4 q o)
    |aU q=>
     cases S with
     |aU o=>
      cases o with
      |cons o x=>
       cases x;exact .aU (.cons (VR.lZ R (λ_=>trivial) q3 q4 q o) .nil)
   .rcases hK with h|h
    .exact zq h
    .exact zt h.1
end
section
variable{T:au}{ev:zC->ag}{fr:Fr}
namespace Sym
@[simp] theorem JU{s:S}:aw T ev fr .skip s=.c .Nr s:=rfl
@[simp ↓] theorem eg{a:Array yH}{d:Bool}{s:S}:aw T ev fr (.region n a d) s=jN T ev fr a d s:=rfl
@[simp ↓] theorem run_seq(a b:yG)(s:S):aw T ev fr (.seq a b) s=jm (aw T ev fr b) (aw T ev fr a s):=rfl
@[simp ↓] theorem oR{x:zh}{a b:yG}{s:S}:aw T ev fr (.cond x a b) s=CP (aw T ev fr a) (aw T ev fr b) s (aA s.tm x):=rfl
@[simp ↓] theorem hU{b:yG}{s:S}:aw T ev fr (.block n b) s=lq n (aw T ev fr b s):=rfl
def fJ{b:yG}{s:S}:aw T ev fr (.loop b) s=CQ ev fr b (aw T ev fr b s):=rfl
@[simp] theorem Xx{f:zh}{c:Array xw}{a b:yG}{s:S}:aw T ev fr (v7 f c a b) s=Jo ev fr c a b s (aA s.tm f):=rfl
@[simp] theorem aDy{s:S}:aw T ev fr (.exit n) s=.c (.exit n) s:=rfl
@[simp ↓] theorem ajr{b:yG}{s:S}:aw T ev fr (.scope b) s=aw T ev fr b s:=rfl
@[simp] theorem ajs{s:S}:aw T ev fr (.label n) s=.c .Nr s:=rfl
@[simp] theorem S8{s:S}:aw T ev fr .ret s=.c .ret s:=rfl
@[simp] theorem Q9{k:S->ag}{s:S}:jm k (.c .Nr s)=k s:=rfl
@[simp] theorem aCB{k:S->ag}{s:S}:jm k (.c (.exit i) s)=.c (.exit i) s:=rfl
@[simp] theorem aDz{k:S->ag}{s:S}:jm k (.c .ret s)=.c .ret s:=rfl
@[simp] theorem aBY{k:S->ag}{s:S}{c:List zO}:jm k (.c (.panic c) s)=.c (.panic c) s:=rfl
def an(a b:S->ag)(s:S)(c:Bool):CP a b s (O (zP c))=if c=Y then a s else b s:=by cases c<;>rfl
@[simp] theorem rG{a b:S->ag}{s:S}:CP a b s (O (zP Y))=a s:=rfl
@[simp] theorem Aa{a b:S->ag}{s:S}:CP a b s (O (zP G))=b s:=rfl
@[simp] theorem Mz{s:S}:lq n (.c .Nr s)=.c .Nr s:=rfl
@[simp] theorem Jg{s:S}:lq n (.c (.exit i) s)=cond (zV i n) (.c .Nr s) (.c (.exit i) s):=rfl
@[simp] theorem Yv{s:S}:lq n (.c .ret s)=.c .ret s:=rfl
@[simp] theorem aA1{s:S}{c:List zO}:lq n (.c (.panic c) s)=.c (.panic c) s:=rfl
@[simp] theorem MB{b:yG}{s:S}:CQ ev fr b (.c .Nr s)=ev (.loop fr b s):=rfl
@[simp] theorem aBZ{b:yG}{s:S}:CQ ev fr b (.c (.exit i) s)=.c (.exit i) s:=rfl
@[simp] theorem aCC{b:yG}{s:S}:CQ ev fr b (.c .ret s)=.c .ret s:=rfl
@[simp] theorem aBq{b:yG}{s:S}{c:List zO}:CQ ev fr b (.c (.panic c) s)=.c (.panic c) s:=rfl
@[simp ↓] theorem aFD{a:Array yH}{s:S}:jN T ev fr a G s=Ap T ev fr a a.toList s:=rfl
@[simp] theorem aFE{a:Array yH}{s:S}:Ap T ev fr a [] s=.c .Nr s:=rfl
@[simp ↓] theorem aDA{a:Array yH}{o:yH}{l:List yH}{s:S}:Ap T ev fr a (o::l) s=Hp T ev fr a o (Ap T ev fr a l) s:=rfl
@[simp ↓] theorem aDB{b:Array yH}{a:Option xw}{d:Op}{c:String}{after:Array Edge}{k:S->ag}:
   Hp T ev fr b ⟨a,d,t,c,after,U⟩ k ⟨r,X,h,o⟩=qQ ev fr.round a k r X h o (execOp T r t h d):=rfl
def oV(ev:zC->ag)(round:Option Nat)(a:Option xw)(k:S->ag)(c:Tr E)(d:List zc)(h:H)(e:Option (List zO))(r:Out)(b:Bool):ag:=
 cond b (qQ ev round a k c d h e r) (k ⟨eG c yh a,d,h,e⟩)
def NS(ev:zC->ag)(round:Option Nat)(a:Option xw)(k:S->ag)(c:Tr E)(d:List zc)(h:H)(e:Option (List zO))(r:Out):Option Bool->ag
 |some b=>oV ev round a k c d h e r b
 |none=>.f
def GR(c:Option xw)(k:S->ag)(d:Tr E)(e:List zc)(h:H)(f:Option (List zO))(b:Bool)(a:ag):ag:=
 cond b (EC c k d e f a) (k ⟨eG d yh c,e,h,f⟩)
@[simp ↓] theorem aFF{a:Array yH}{c:Option xw}{d:Op}{e:String}{after:Array Edge}{g:Nat×Bool}{k:S->ag}:
   Hp T ev fr a ⟨c,d,t,e,after,O g⟩ k ⟨r,X,h,o⟩=NS ev fr.round c k r X h o (execOp T r t h d) (qJ g.2 (Bd r a.toList[g.1]?)):=by
  show dM .f (λb=>bN (k ⟨eG r yh c,X,h,o⟩) (qQ ev fr.round c k r X h o (execOp T r t h d)) b) (qJ g.2 (Bd r a.toList[g.1]?))=_;cases qJ g.2 (Bd r a.toList[g.1]?)with
  |none=>rfl
  |some b=>cases b<;>rfl
@[congr] theorem aAQ{round:Option Nat}{b:Option xw}{k:S->ag}{r:Out}{a c:Option Bool}(d:a=c):
   NS ev round b k q X h o r a=NS ev round b k q X h o r c:=by rw[d]
@[simp] theorem aA2{round:Option Nat}{a:Option xw}{k:S->ag}{r:Out}{b:Bool}:NS ev round a k q X h o r (O b)=oV ev round a k q X h o r b:=rfl
@[congr] theorem aA3{round:Option Nat}{a:Option xw}{k:S->ag}{r c:Out}{b:Bool}(d:b=Y->r=c):oV ev round a k q X h o r b=oV ev round a k q X h o c b:=by cases b<;>first|rfl|(rw[d rfl])
@[congr 1100] theorem aAR{round:Option Nat}{a:Option xw}{k:S->ag}{r b:Out}{c d:Bool}(e:c=Y->d=Y->r=b):oV ev round a k q X h o r (c&&d)=oV ev round a k q X h o b (c&&d):=by cases c<;>cases d<;>first|rfl|(rw[e rfl rfl])
@[congr 1100] theorem aAJ{b:Option xw}{k:S->ag}{a e:ag}{c d:Bool}(f:c=Y->d=Y->a=e):GR b k r X h o (c&&d) a=GR b k r X h o (c&&d) e:=by cases c<;>cases d<;>first|rfl|(rw[f rfl rfl])
@[congr 1200] theorem aAS{round:Option Nat}{a:Option xw}{k:S->ag}{r b:Out}{c d e:Bool}(f:c=Y->d=Y->e=Y->r=b):oV ev round a k q X h o r (c&&d&&e)=oV ev round a k q X h o b (c&&d&&e):=by cases c<;>cases d<;>cases e<;>first|rfl|(rw[f rfl rfl rfl])
@[congr 1200] theorem aAK{b:Option xw}{k:S->ag}{a f:ag}{c d e:Bool}(g:c=Y->d=Y->e=Y->a=f):GR b k r X h o (c&&d&&e) a=GR b k r X h o (c&&d&&e) f:=by cases c<;>cases d<;>cases e<;>first|rfl|(rw[g rfl rfl rfl])
@[congr 1200] theorem aAT{round:Option Nat}{a:Option xw}{k:S->ag}{r b:Out}{c d e:Bool}(f:c=Y->d=Y->e=Y->r=b):oV ev round a k q X h o r (c&&(d&&e))=oV ev round a k q X h o b (c&&(d&&e)):=by cases c<;>cases d<;>cases e<;>first|rfl|(rw[f rfl rfl rfl])
@[simp] theorem aBr{round:Option Nat}{a:Option xw}{k:S->ag}{r:Out}:oV ev round a k q X h o r Y=qQ ev round a k q X h o r:=rfl
@[simp] theorem aA4{round:Option Nat}{a:Option xw}{k:S->ag}{r:Out}:oV ev round a k q X h o r G=k ⟨eG q yh a,X,h,o⟩:=rfl
@[simp] theorem aB0{round:Option Nat}{d:xw}{k:S->ag}{b:Bool}:
   oV ev round (O d) k r X h o (.of (.v v h)) b=k ⟨r.s d (bN yh v b),X,h,o⟩:=by cases b<;>rfl
@[simp] theorem aBs{round:Option Nat}{a:Option xw}{k:S->ag}{args:List E}{b:Bool}:
   oV ev round a k r X h o (.call v args) b=GR a k r X h o b (ev (.call v args h U)):=by cases b<;>rfl
@[simp] theorem aAU{d:xw}{k:S->ag}{a:Option (List zO)}{b:Bool}:
   GR (O d) k r X h o b (.r v h a)=k ⟨r.s d (bN yh v b),X,h,o⟩:=by cases b<;>rfl
section
variable{β:Type}(u x y:β)(b c:Bool)
@[simp] theorem aDC:bN (bN u x (!b)) y b=bN x y b:=by cases b<;>rfl
@[simp] theorem aCD{d:Bool}(h:d= !b):bN (bN u x d) y b=bN x y b:=by subst h;cases b<;>rfl
@[simp] theorem aDD:bN x (bN u y b) b=bN x y b:=by cases b<;>rfl
@[simp] theorem aCE:bN (bN u x b) y b=bN u y b:=by cases b<;>rfl
@[simp] theorem aCF:bN (bN u x (!b&&c)) y b=bN (bN u x c) y b:=by cases b<;>cases c<;>rfl
@[simp] theorem aCG:bN x (bN u y (b&&c)) b=bN x (bN u y c) b:=by cases b<;>cases c<;>rfl
end
@[simp] theorem aAM{w x b:Bool}:qJ w (O (bN yh (zP x) b))=O (b&&(x==w)):=by cases b<;>rfl
@[simp] theorem aFG{b:Bool}:bN (r.s n v) (r.s n N) b=r.s n (bN v N b):=by cases b<;>rfl
@[simp] theorem S6(v w:E)(h:H)(b:Bool):bN (aK.v v h) (aK.v w h) b=.v (bN v w b) h:=by cases b<;>rfl
@[simp] theorem aCH{x y b:Bool}:bN (zP x) (zP y) b=zP (cond b y x):=by cases b<;>rfl
@[simp] theorem aDE{β:Type}(x:β){b:Bool}:bN x x b=x:=by cases b<;>rfl
@[simp] theorem aCI{b:Bool}:(b==Y)=b:=by cases b<;>rfl
@[simp] theorem aB1{b:Bool}:(b==G)= !b:=by cases b<;>rfl
@[simp] theorem aA5{d:xw}{b:Op}{a:String}{after:Array Edge}{g:Option (Nat×Bool)}:Bd r (O ⟨O d,b,t,a,after,g⟩)=r.g d:=rfl
@[simp] theorem aBt{w b:Bool}:qJ w (O (zP b))=O (b==w):=rfl
@[simp] theorem aIm{β:Type}(n:β)(s:A->β):dM n s U=n:=rfl
@[simp] theorem aIn{β:Type}(n:β)(s:A->β)(a:A):dM n s (O a)=s a:=rfl
@[simp] theorem aDF{β:Type}(f t:β):bN f t Y=t:=rfl
@[simp] theorem aCJ{β:Type}(f t:β):bN f t G=f:=rfl
@[simp] theorem aDG:eG r v U=r:=rfl
@[simp] theorem aDH{d:xw}:eG r v (O d)=r.s d v:=rfl
@[simp] theorem aFH{r:Option Nat}{a:Option xw}{k:S->ag}:
   qQ ev r a k q X g o (.of (.v v h))=k ⟨eG q v a,X,h,o⟩:=rfl
@[simp] theorem aFI{r:Option Nat}{a:Option xw}{k:S->ag}{v:E}:
   qQ ev r a k q X h o (.aU v)=.c (.panic [{v,recovered:=G}]) ⟨q,X,h,o⟩:=rfl
@[simp] theorem aDI{r:Option Nat}{a:Option xw}{k:S->ag}{args:List E}:
   qQ ev r a k q X h o (.call v args)=EC a k q X o (ev (.call v args h U)):=rfl
@[simp] theorem aDJ{a:Option xw}{k:S->ag}{b:Option (List zO)}:
   EC a k r X o (.r v h b)=k ⟨eG r v a,X,h,o⟩:=rfl
@[simp] theorem aDK{a:Option xw}{k:S->ag}{c:List zO}{b:Option (List zO)}:
   EC a k r X o (.p c h b)=.c (.panic c) ⟨r,X,h,o⟩:=rfl
@[simp] theorem get_nil:(Tr.Nl:Tr E).g k=U:=rfl
@[simp] theorem Bk(t:Tr E)(k j:Nat)(x:E):(t.s k x).g j=if j=k then O x else t.g j:=Tr.Bk t k j x
@[simp] theorem qI{t:xw}:aA r (.tmp t)=r.g t:=rfl
@[simp] theorem aCK:aA r (.const v)=O v:=rfl
@[simp] theorem aDL:aA r (.func f)=O (zU (za f) #[] #[]):=rfl
@[simp] theorem aHz:ei r []=O []:=rfl
@[simp] theorem aFJ{x:zh}{l:List zh}:ei q (x::l)=match aA q x with|some v=>(match ei q l with|some r=>O (v::r)|none=>U)|none=>U:=rfl
@[simp] theorem aCL:om r []=O []:=rfl
@[simp] theorem aB2{x:zh}{l:List (Nat×zh)}:om q ((i,x)::l)=match aA q x with|some v=>(match om q l with|some r=>O ((i,v)::r)|none=>U)|none=>U:=rfl
@[simp] theorem aDM:bF [] k r=r:=rfl
@[simp] theorem aCM:bF (v::l) k r=bF l (k+1) (r.s k v):=rfl
@[simp] theorem kP{o:ai}:(h.w o).g j=if j=h.n then O o else h.g j:=by rw[ib];exact Tr.Bk _ _ _ _
@[simp] theorem Rt{o:ai}:(h.w o).n=h.n+1:=jR h o
@[simp] theorem aB3{o:ai}:(h.w o).b=h.b:=by rw[ib]
@[simp] theorem jd{b :Nat}{o:ai}:(h.p b o).g j=if j=b then O o else h.g j:=by
  rw[H.p,nz];show((h.mark b).m.s b o).g j=_;rw[Tr.Bk];by_cases e:j=b
  .rw[if_pos e,if_pos e]
  .rw[if_neg e,if_neg e];exact So h b j
@[simp] theorem Yw{b:Nat}{o:ai}:(h.p b o).n=h.n:=jQ h b o
@[simp] theorem aB4{b:Nat}{o:ai}:(h.p b o).b=h.b:=Bf h b o
@[simp] theorem agX{b :Nat}:(h.az b).g j=h.g j:=pH h b j
@[simp] theorem XN(h:H)(b:Nat):(h.az b).n=h.n:=oO h b
@[simp] theorem aA6{b:Nat}:(h.az b).b=h.b:=(jP h b).base
@[simp] theorem aBu:H.e.g j=U:=rfl
@[simp] theorem aA7:H.e.n=0:=rfl
@[simp] theorem aA8:H.e.b=0:=rfl
end Sym
end
section
variable{T:au}{ev:zC->ag}{fr:Fr}
namespace Sym
section
variable(tm:Tr E)(ty:zQ)(h:H)
@[simp] theorem aHA{x:zh}:execOp T tm ty h (.move x)=.of (gk h (aA tm x)):=rfl
@[simp] theorem aDN{x:zh}:execOp T tm ty h (.assign x)=.of (gk h (aA tm x)):=rfl
@[simp] theorem aHB{c a b:zh}:execOp T tm ty h (.pick c a b)=.of (Kb tm h a b (aA tm c)):=rfl
@[simp] theorem aFK:execOp T tm ty h (.alloc s)=.of (Bv h s (zero T s)):=rfl
@[simp] theorem aIo{x:zh}:execOp T tm ty h (.box s x)=.of (Bv h s (aA tm x)):=rfl
@[simp] theorem aFL{t:zQ}{a:Array (Nat×zh)}:execOp T tm ty h (.build t a)=.of (eK T h t (zero T t) (om tm a.toList)):=rfl
@[simp] theorem aA9{t:zQ}{a:Array (Nat×zh)}:execOp T tm ty h (.buildSlice t n a)=.of (iQ T h n (T.u t) (om tm a.toList)):=rfl
@[simp] theorem aHC{t:zQ}{a:zh}:execOp T tm ty h (.load t a)=.of (N8 T h t (aA tm a)):=rfl
@[simp] theorem aFM{t:zQ}{a v:zh}:execOp T tm ty h (.store t a v)=.of (NK T h t (aA tm a) (aA tm v)):=rfl
@[simp] theorem aIp{a:BinOp}{t :zQ}{x y:zh}:execOp T tm ty h (.binOp a t x y s)=.of (fu T h a t x y (aA tm x) (aA tm y)):=rfl
@[simp] theorem aIE(a:UnOp){t:zQ}{x:zh}:execOp T tm ty h (.unOp a t x)=.of (K7 T h a (aA tm x)):=rfl
@[simp] theorem aCN{d:zQ}{x:zh}:execOp T tm ty h (.convert s d x)=.of (M8 T h s d (aA tm x)):=rfl
@[simp] theorem aBv{t:zQ}{l c:zh}:execOp T tm ty h (.makeSlice t l c)=.of (A7 T h (T.u t) (aA tm l) (aA tm c)):=rfl
@[simp] theorem aB5(c:Fn){a b:Array zh}:execOp T tm ty h (.makeFunc c a b)=.of (funcOf h c (ei tm a.toList) (ei tm b.toList)):=rfl
@[simp] theorem aFN{t:zQ}{x:zh}{a b c:Option zh}:execOp T tm ty h (.slice t x a b c)=.of (rO T h t (aA tm x) (bounds a (iV tm a)) (bounds b (iV tm b)) (bounds c (iV tm c))):=rfl
@[simp] theorem aBw{x:zh}:execOp T tm ty h (.fieldAddr s x n)=.of (aX T h s n (aA tm x)):=rfl
@[simp] theorem aFO{t:zQ}{x:zh}:execOp T tm ty h (.field t x n)=.of (G6 T h n (T.u t) (aA tm x)):=rfl
@[simp] theorem aBx{t:zQ}{x i:zh}:execOp T tm ty h (.indexAddr t x i)=.of (dI T h (T.u t) (aA tm x) (aA tm i)):=rfl
@[simp] theorem aFP{t:zQ}{x i:zh}:execOp T tm ty h (.index t x i)=.of (indexOf T h t (T.u t) (aA tm x) (aA tm i)):=rfl
@[simp] theorem aCO{x:zh}:execOp T tm ty h (.extract x i)=.of (Jz h i (aA tm x)):=rfl
@[simp] theorem aFQ{t:zQ}{x:zh}:execOp T tm ty h (.makeInterface t x)=.of (Bi h t (T.u t) (aA tm x)):=rfl
@[simp] theorem aFR{x:zh}:execOp T tm ty h (.panic x)=CO (aA tm x):=rfl
@[simp] theorem aHD{f:zh}{args:Array zh}{a:Array zQ}:execOp T tm ty h (.call ⟨.value f,args,a⟩)=Ao T tm h a ty (.value f) (ei tm args.toList):=rfl
@[simp] theorem aFS{b:Builtin}{args:Array zh}{a:Array zQ}:execOp T tm ty h (.call ⟨.builtin b,args,a⟩)=Ao T tm h a ty (.builtin b) (ei tm args.toList):=rfl
@[simp] theorem aBa{a:Array zQ}{f:zh}{args:List E}:Ao T tm h a ty (.value f) (O args)=CI args (aA tm f):=rfl
@[simp] theorem aAN{a:Array zQ}{b:Builtin}{args:List E}:Ao T tm h a ty (.builtin b) (O args)=qt T h a ty args b:=rfl
end
@[simp] theorem aBy{args:List E}:CI args (O v)=.call v args:=rfl
@[simp] theorem aCP{h:H}:gk h (O v)=.v v h:=rfl
@[simp] theorem aBz{tm:Tr E}{h:H}{a b:zh}{c:Bool}:Kb tm h a b (O (zP c))=bN (gk h (aA tm b)) (gk h (aA tm a)) c:=by cases c<;>rfl
@[simp] theorem aB6{h:H}:Bv h s (O v)=.v (pB h.n) (h.w (ad (ah v) s)):=rfl
@[simp] theorem aBA{h:H}{t:zQ}{a:E}:N8 T h t (O a)=loadAt T h t a:=rfl
@[simp] theorem aAO{h:H}{t:zQ}{a:E}:M7 T h t (O a)=Er T h t a:=rfl
@[simp] theorem aB7{h:H}{t:zQ}{b :Nat}:loadAt T h t (.pointer (O ⟨b,n,U⟩))=Bn T h t b n (h.g b):=rfl
@[simp] theorem aBB{h:H}{t:zQ}{b :Nat}:Er T h t (.pointer (O ⟨b,n,U⟩))=Bn T h t b n (h.g b):=rfl
@[simp] theorem aBC{h:H}{t:zQ}{p:Array w8}{k:zZ}{q:Array E}:loadAt T h t (zU (.via n p k Y) ⟨[v]⟩ q)=gk h (zE T t (ah v) n):=rfl
@[simp] theorem aBb{h:H}{t:zQ}{b :Nat}{g:Bool}:Bn T h t b n (O (K l s g))=gk (h.az b) (zE T t l n):=rfl
def dK{t:zQ}(a:zK T t=O G)(c:List E)(off:Nat):zE T t c off=c[off]?:=by unfold zE;rw[a];exact J0 off c
def fV{t:zQ}(a:zK T t=O Y)(b:zI T t=O n)(c:List E)(off:Nat):zE T t c off=HI (cut c off n):=by unfold zE;rw[a];show SV c off (zI T t)=_;rw[b];rfl
def Yx:∀(n:Nat)(l:List E),n<=I l->EK n l=O (l.take n)
 |0,l,_=>by simp[ahJ]
 |n+1,[],h=>by simp at h
 |n+1,x::l,h=>by
  have:=Yx n l (by simpa using h);show(match EK n l with|some r=>O (x::r)|none=>U)=_
  rw[this];simp
def nw{off :Nat}(h:off+n<=I l):cut l off n=O ((l.drop off).take n):=by unfold cut;rw[Sq,Yx _ _ (by rw[List.length_drop];omega)]
@[simp] theorem aB8:HI (O l)=O (aAg l):=rfl
@[simp] theorem aBc{h:H}{t:zQ}{a :E}:NK T h t (O a) (O v)=o0 (zG T h t v a):=rfl
@[simp] theorem aCQ{h:H}:o0 (O h)=.v yh h:=rfl
def Ze:∀(a l:List E),I a<=I l->Fa a l=O (a++l.drop (I a))
 |[],l,_=>rfl
 |v::a,[],h=>by simp at h
 |v::a,x::l,h=>by
  have:=Ze a l (by simpa using h);show(match Fa a l with|some r=>O (v::r)|none=>U)=_
  rw[this];simp
def X3:∀(off:Nat)(a l:List E),off+I a<=I l->kx off a l=O (l.take off++(a++l.drop (off+I a)))
 |0,a,l,h=>by show Fa a l=_;rw[Ze a l (by omega)];simp
 |off+1,a,[],h=>by simp at h
 |off+1,a,x::l,h=>by
  have:=X3 off a l (by simp at h;omega);show(match kx off a l with|some r=>O (x::r)|none=>U)=_
  rw[this];have:off+1+I a=(off+I a)+1:=by omega
  rw[this];simp
def ajt:fits l (O n)=cond (zV (dh l) n) (da l) G:=rfl
def dY{h:H}{t:zQ}{b off :Nat}{g:Bool}(d:zI T t=O n)(a:I (ah v)=n)(f:da (ah v)=Y)(i:ae h b (K l s g))
 (j:off+n<=I l):zG T h t v (.pointer (O ⟨b,off,U⟩))=O (h.p b (K (l.take off++(ah v++l.drop (off+n))) s g)):=by
 show bN U (ml h b off (ah v) (h.g b)) (fits (ah v) (zI T t))=_;rw[d,ajt,fX,ek a,f];show ml h b off (ah v) (h.g b)=_;rw[i];show SX h b s g (kx off (ah v) l)=_;rw[X3 _ _ _ (by omega),a];rfl
def np{h:H}{off :Nat}{p:Array w8}{q:Array E}{k:IntKind}{e:E}(a:zI T s=O n)(b:i<m)(c:l[off+i]?=O e)(d:I (ah e)=n):
 dI T h (O (.slice s)) (O (zU (.via off p m G) ⟨l⟩ q)) (O (yV k (i:Int)))=.v (ar e 0) h:=by
 show M9 h l off m i (zI T s)=_;rw[a];show cond (ze (Nat.succ i) m) (Je h n l[Nat.add off i]?) .f=_;rw[zb b];show Je h n l[off+i]?=_;rw[c];show cond (zV (dh (ah e)) n) (aK.v (ar e 0) h) .f=_;rw[fX,ek d];rfl
@[simp] theorem aAL{h:H}:Jz h i (O (aTu l))=gk h l[i]?:=by show gk h (Fc i l)=_;rw[J0]
section
variable(h:H)(t:zQ)(x y:zh)(k:IntKind)(a b:Int)
def Bc(c:BinOp)(d:Kd c k a b=O v):fu T h c t x y (O (yV k a)) (O (yV k b))=.v v h:=by
 show bN .f (dM (β:=au->H->BinOp->zQ->IntKind->Int->Int->aK) (λT h c t k a b=>jU h (dT T.prog (binOp c t (yV k a) (yV k b))))
  (λv _ h _ _ _ _ _=>.v v h) (Kd c k a b) T h c t k a b) (yF (k=k))=_
 rw[d,decide_eq_true rfl];rfl
@[simp] theorem aFT:fu T h .add t x y (O (yV k a)) (O (yV k b))=.v (yV k (k.wrap (a+b))) h:=Bc h t x y k a b .add rfl
@[simp] theorem aFU:fu T h .sub t x y (O (yV k a)) (O (yV k b))=.v (yV k (k.wrap (a-b))) h:=Bc h t x y k a b .sub rfl
@[simp] theorem aFV:fu T h .mul t x y (O (yV k a)) (O (yV k b))=.v (yV k (k.wrap (a*b))) h:=Bc h t x y k a b .mul rfl
@[simp] theorem aFW:fu T h .eql t x y (O (yV k a)) (O (yV k b))=.v (zP (yF (a=b))) h:=by rw[Bc h t x y k a b .eql rfl];congr 2
@[simp] theorem aFX:fu T h .neq t x y (O (yV k a)) (O (yV k b))=.v (zP (!yF (a=b))) h:=by rw[Bc h t x y k a b .neq rfl];congr 2
@[simp] theorem aFY:fu T h .lss t x y (O (yV k a)) (O (yV k b))=.v (zP (yF (a<b))) h:=Bc h t x y k a b .lss rfl
@[simp] theorem aFZ:fu T h .leq t x y (O (yV k a)) (O (yV k b))=.v (zP (yF (a<=b))) h:=Bc h t x y k a b .leq rfl
@[simp] theorem aF0:fu T h .gtr t x y (O (yV k a)) (O (yV k b))=.v (zP (yF (a>b))) h:=Bc h t x y k a b .gtr rfl
@[simp] theorem aF1:fu T h .geq t x y (O (yV k a)) (O (yV k b))=.v (zP (yF (a>=b))) h:=Bc h t x y k a b .geq rfl
end
@[simp] theorem aHE{h:H}{b:Bool}:K7 T h .not (O (zP b))=.v (zP (!b)) h:=by cases b<;>rfl
@[simp] theorem aIq{h:H}{a:Array zQ}{ty:zQ}{x:E}:qt T h a ty [x] .len=.of (mX h (iS T a.toList[0]?) x):=rfl
@[simp] theorem aF2{t:zQ}:iS T (O t)=T.u t:=rfl
@[simp] theorem aDO{h:H}{a:zQ}{p:Array w8}{b q:Array E}:mX h (O (.slice s)) (zU (.via a p n G) b q)=.v (yV .i64 n) h:=rfl
@[simp] theorem aCR{h:H}{a:Option Addr}:mX h (O (.slice s)) (.slice a n m)=.v (yV .i64 n) h:=rfl
@[simp] theorem aB9{h:H}{s:ByteArray}:mX h (O .string) (.string s)=.v (yV .i64 s.size) h:=rfl
@[simp] theorem aDP{h:H}{a:Array zQ}{ty:zQ}{x:E}:qt T h a ty [v,x] .append=.of (jO T h x (iS T a.toList[0]?) (iS T a.toList[1]?) v (lenOf x)):=rfl
end Sym
end
section
variable{T:au}{P:zo}
abbrev aV:=zZ->List E->H->Option ag
def pP(C:aV):zC->Option ag
 |.call (zU (za g) ⟨first⟩ ⟨a⟩) args h U=>C g (first++args++a) h
 |_=>U
def ah0{C:aV}{args:List E}:pP C (.call (zU (za f) ⟨l⟩ ⟨p⟩) args h U)=C f (l++args++p) h:=rfl
abbrev aj(g:zZ)(args:List E)(h:H):zC:=.call (zU (za g) #[] #[]) args h U
abbrev af(T:au)(C:aV)(n:Nat):zC->ag:=EP T (pP C) n
def aR(T:au)(P:zo)(C:aV):Prop:=∀g args h a,C g args h=O a->bP T P (zU (za g) #[] #[]) args h U a
def XO{C:aV}{args:List E}:pP C (aj f args h)=C f args h:=by show C f ([]++args++[]) h=_;rw[xB,ye]
def agY{args:List E}:(jT (zU (za f) ⟨p⟩ ⟨l⟩) args).run P W=(jT (zU (za f) #[] #[]) (p++args++l)).run P W:=by simp[jT,yr,uG]
def aju{args:List E}{a:ag}(k:bP T P (zU (za f) #[] #[]) (l++args++p) h U a):bP T P (zU (za f) ⟨l⟩ ⟨p⟩) args h U a:=by
 intro u n i;let⟨hle,k⟩:=k u n i;refine⟨hle,λv m x b Q e o w j F d y A r B=>?_⟩;cases y with
 |@func _ _ c _ q C L=>
  have s:b.may (zU (za f) #[] #[]):=by
   rcases j with j|⟨j,_⟩
   .exact zq j
   .exact zt ⟨j,f,#[],#[],rfl⟩
  let⟨nx,t,M,N⟩:=k v m x b (zU (za f) #[] #[]) (c++e++q) o w s F d (.func f .Nl .Nl) ((C.append A).append L) r B;exact⟨nx,t,by rw[agY];exact M,N⟩
def al0{C:aV}(b:aR T P C):acX T P (pP C):=by
 intro t a h;unfold pP at h;split at h
 .exact⟨_,_,_,_,rfl,aju (b _ _ _ _ h)⟩
 .cases h
def pI(a:bM T P){C:aV}(b:aR T P C)(n:Nat):iB T P (af T C n):=X2 a (al0 b) n
section
variable{C:aV}(n:Nat)
def ji{args:List E}{a:ag}(b:C f args h=O a):af T C n (aj f args h)=a:=Yu (C:=pP C) (t:=aj f args h) (by rw[XO];exact b) n
def GZ{args:List E}{a:ag}(b:C f (l++args++p) h=O a):af T C n (.call (zU (za f) ⟨l⟩ ⟨p⟩) args h U)=a:=Yu (C:=pP C) (t:=.call (zU (za f) ⟨l⟩ ⟨p⟩) args h U) b n
def ll{args:List E}(a:C f args h=U):af T C (n+1) (aj f args h)=cB T (af T C n) f args h U (T.f f):=by have:=GJ (T:=T) (C:=pP C) (t:=aj f args h) (by rw[XO];exact a) n;rw[show af T C (n+1) (aj f args h)=_ from this];show cB T (af T C n) f ([]++args++[]) h U (T.f f)=_;rw[xB,ye]
def NC{a:Fr}{s:S}:af T C (n+1) (.loop a x s)=aw T (af T C n) a (.loop x) s:=rfl
def oi(a:xZ)(b:Tr E)(h:H)(c:Option (List zO)):af T C (n+1) (.unwind a ⟨b,[],h,c⟩ U)=fw c (zJ T b a.results.toList h):=rfl
def Ra(a:xZ){c:List zO}:af T C (n+1) (.unwind a ⟨r,[],h,o⟩ (O c))=.p c h o:=rfl
end
namespace Sym
variable{ev:zC->ag}
@[simp] theorem rC{args:List E}(a:xZ):cB T ev f args h o (O a)=pK T ev f args h o a a.body:=rfl
@[simp] theorem rB{args:List E}(a:xZ):pK T ev f args h o a (O x)=CD ev a (aw T ev ⟨f,U⟩ x ⟨bF args 0 .Nl,[],h,o⟩):=rfl
@[simp] theorem xv(a:xZ){s:S}:CD ev a (.c .Nr s)=ev (.unwind a s U):=rfl
@[simp] theorem zg(a:xZ){s:S}:CD ev a (.c .ret s)=ev (.unwind a s U):=rfl
@[simp] theorem DW(a:xZ){s:S}{c:List zO}:CD ev a (.c (.panic c) s)=ev (.unwind a s (O c)):=rfl
@[simp] theorem aBD:Am.zJ T r [] h=.ok [] h:=rfl
@[simp] theorem results_tmp{t:xw}{l:List yR}:Am.zJ T r (.tmp t::l) h=CG (Am.zJ T r l) (gk h (r.g t)):=rfl
@[simp] theorem aBd{l:List yR}:Am.zJ T r (.cell k m::l) h=CG (Am.zJ T r l) (M7 T h m (r.g k)):=rfl
@[simp] theorem aBE{k:H->r9}:CG k (.v v h)=Kf v (k h):=rfl
@[simp] theorem aCS:Kf v (.ok l h)=.ok (v::l) h:=rfl
@[simp] theorem aCT:fw o (.ok [v] h)=.r v h o:=rfl
@[simp] theorem aCU:fw o (.ok [] h)=.r (xC #[]) h o:=rfl
@[simp] theorem aCV:fw o (.ok (v::N::l) h)=.r (aTu (v::N::l)) h o:=rfl
end Sym
def aJ(T:au)(P:zo)(g:zZ)(pre:A->Prop)(a:A->List E)(f:A->E):Prop:=∀x,pre x->∀h,bP T P (zU (za g) #[] #[]) (a x) h U (.r (f x) h U)
open Classical in
def gq(pre:A->Prop)(enc:A->List E)(f:A->E)(args:List E)(h:H):Option ag:=
 if a:∃x,pre x/\enc x=args then O (.r (f (yE a)) h U)else U
def Bl{pre:A->Prop}{enc:A->List E}{f:A->E}(b:∀x y,enc x=enc y->f x=f y){x:A}(c:pre x)(h:H):gq pre enc f (enc x) h=O (.r (f x) h U):=by unfold gq;have a:∃y,pre y/\enc y=enc x:=⟨x,c,rfl⟩;rw[dif_pos a,b _ _ (zk a).2]
def ajv{b:A->E}(d:aJ T P f L R b){args:List E}{a:ag}(e:gq L R b args h=O a):bP T P (zU (za f) #[] #[]) args h U a:=by
 unfold gq at e;split at e
 .rename_i c;cases e;have:=d (yE c) (zk c).1 h;rw[(zk c).2]at this;exact this
 .cases e
def bY(g:zZ)(c:List E->H->Option ag)(C:aV):aV:=λa args h=>if a=g then c args h else C a args h
def cg:aV:=λ_ _ _=>U
def aW:aR T P cg:=λ_ _ _ _ h=>by cases h
def gC(c:List E->H->Option ag){C:aV}{args:List E}:bY f c C f args h=c args h:=if_pos rfl
def jk{a:zZ}(b:a≠f)(c:List E->H->Option ag)(C:aV)(args:List E)(h:H):bY f c C a args h=C a args h:=if_neg b
def aZ{g:zZ}{pre:A->Prop}{enc:A->List E}{f:A->E}{C:aV}(c:aR T P C)(d:aJ T P g pre enc f):aR T P (bY g (gq pre enc f) C):=by
 intro i args h a e;by_cases b:i=g
 .subst b;rw[gC]at e;exact ajv d e
 .rw[jk b]at e;exact c _ _ _ _ e
def Has(C:aV)(g:zZ)(a:A->Prop)(b:A->List E)(f:A->E):Prop:=∀x,a x->∀h,C g (b x) h=O (.r (f x) h U)
def Has.Ad{g:zZ}{a:A->E}{C:aV}(b:∀x y,R x=R y->a x=a y):Has (bY g (gq L R a) C) g L R a:=
 λ_ c h=>by rw[gC];exact Bl b c h
def Has.Sk{g a:zZ}{f:A->E}{C:aV}{c:List E->H->Option ag}(b:g≠a)(h:Has C g L R f):Has (bY a c C) g L R f:=
 λx d m=>by rw[jk b];exact h x d m
def Has.ev{g:zZ}{pre:A->Prop}{f:A->E}{C:aV}(h:Has C g pre R f)(n:Nat){x:A}(a:pre x)(m:H):af T C n (aj g (R x) m)=.r (f x) m U:=
 ji n (h x a m)
def ox(b:bM T P){args:List E}{h1:H}(C:aV)(e:aR T P C)(h:bX args)(n:Nat)
 (c:cB T (af T C n) f args H.e U (T.f f)=.r v h1 U)(i:ej h1.g v N)(a:H):bP T P (zU (za f) #[] #[]) args a U (.r N a U):=
 Sv b (pI b e n) h c rfl (.ret i)
def S9{a:A->E}(b:A->Nat)(step:∀x,L x->aJ T P f (λy=>b y<b x/\L y) R a->∀h,bP T P (zU (za f) #[] #[]) (R x) h U (.r (a x) h U)):
 aJ T P f L R a:=by
 have c:∀n x,b x<n->L x->∀h,bP T P (zU (za f) #[] #[]) (R x) h U (.r (a x) h U):=by
  intro n;induction n with
  |zero=>intro x e;omega
  |succ n i=>intro x e d;exact step x d λy j=>i y (by omega) j.2
 exact λx d=>c _ x (yL _) d
def sub(b:Bool):yG->yG
 |.seq x y=>cond b y x
 |.cond _ x y=>cond b y x
 |.block _ x=>x
 |.loop x=>x
 |.scope x=>x
 |c=>c
def ak:List Bool->yG->yG
 |[],c=>c
 |b::l,c=>ak l (sub b c)
noncomputable def z(f:xZ)(l:List Bool):yG:=ak l (f.body.getD .skip)
attribute[simp]ak sub
def AL(T:au)(d:List yR)(vs:List E)(h2:H)(ab:Option (List zO)):ag->Prop
 |.c .ret ⟨b,[],c,a⟩=>a=ab/\Am.zJ T b d c=.ok vs h2
 |.c .Nr ⟨b,[],c,a⟩=>a=ab/\Am.zJ T b d c=.ok vs h2
 |_=>False
@[simp] theorem aDQ{b:List yR}{a:Option (List zO)}:AL T b l g o (.c .ret ⟨r,[],h,a⟩)=(a=o/\Am.zJ T r b h=.ok l g):=rfl
@[simp] theorem aBF{b:List yR}{a:Option (List zO)}:AL T b l g o (.c .Nr ⟨r,[],h,a⟩)=(a=o/\Am.zJ T r b h=.ok l g):=rfl
def dx{C:aV}{d:xZ}{c:yG}{args:List E}{h2:H}{n:Nat}{vs:List E}{ab:Option (List zO)}(k:T.f f=O d)(l:d.body=O c){rs:List yR}(j:d.results.toList=rs)
 (b:AL T rs vs h2 ab (aw T (af T C (n+1)) ⟨f,U⟩ c ⟨bF args 0 .Nl,[],h,U⟩)):
 cB T (af T C (n+1)) f args h U (T.f f)=fw ab (.ok vs h2):=by
 rw[k,Sym.rC,l,Sym.rB];generalize aw T (af T C (n+1)) ⟨f,U⟩ c ⟨bF args 0 .Nl,[],h,U⟩=a at b;unfold AL at b;split at b
 .let⟨e,i⟩:=b;rw[Sym.zg,oi,j,i,e]
 .let⟨e,i⟩:=b;rw[Sym.xv,oi,j,i,e]
 .cases b
def ajw{C:aV}{i:Fr}(k:Nat)(a:Nat->S->Prop)(Q:ag->Prop)
 (b:∀j s m,a j s->k<=m->(∃c d,aw T (af T C m) i x s=.c .Nr c/\d<j/\a d c)\/(∃e c,aw T (af T C m) i x s=.c e c/\e≠ .Nr/\Q (.c e c))):
 ∀m j s,a j s->j+k<=m->Q (aw T (af T C m) i (.loop x) s):=by
 intro m;induction m with
 |zero=>
  intro j s l n;rcases b j s 0 l (by omega)with⟨c,d,_,f,_⟩|⟨e,c,g,f,h⟩
  .omega
  .rw[Sym.fJ,g];cases e<;>first|exact h|exact absurd rfl f
 |succ m o=>
  intro j s l n;rcases b j s (m+1) l (by omega)with⟨c,d,g,f,h⟩|⟨e,c,g,f,h⟩
  .rw[Sym.fJ,g,Sym.MB,NC];exact o d c h (by omega)
  .rw[Sym.fJ,g];cases e<;>first|exact h|exact absurd rfl f
def al1{C:aV}{d:Fr}{s:S}{X:ag}(g:aw T (af T C m) d (.loop x) s=X)(k:Nat)(a:Nat->S->Prop)(Q:ag->Prop)(j:Nat)(h:a j s)(i:j+k<=m)
 (b:∀j s m,a j s->k<=m->(∃c f,aw T (af T C m) d x s=.c .Nr c/\f<j/\a f c)\/(∃e c,aw T (af T C m) d x s=.c e c/\e≠ .Nr/\Q (.c e c))):Q X:=by
 rw[<-g];exact ajw k a Q b m j s h i
@[simp] theorem Ae(a:h.b=0):h.az k=h:=by rw[nv,if_pos (by omega)]
end
section
variable{T:au}{P:zo}
def qi{c:Type}[Inhabited c](r:c->E)(d:∀x,L x->∃n,∀h,bP T P (zU (za f) #[] #[]) (R x) h U (.r (r n) h U)):
 ∃a:A->c,aJ T P f L R (λx=>r (a x)):=by
 classical
 refine⟨λx=>if b:L x then yE (d x b)else default,λx b h=>?_⟩
 have:=zk (d x b) h;simpa[dif_pos b]using this
def NT{b:Type}[Inhabited b](r:b->E)(c:A->Nat)
 (step:∀x,L x->(∃a:A->b,aJ T P f (λy=>c y<c x/\L y) R (λy=>r (a y)))->∃n,∀h,bP T P (zU (za f) #[] #[]) (R x) h U (.r (r n) h U)):
 ∃a:A->b,aJ T P f L R (λx=>r (a x)):=by
 refine qi r λx d=>?_
 have e:∀n x,c x<n->L x->∃v,∀h,bP T P (zU (za f) #[] #[]) (R x) h U (.r (r v) h U):=by
  intro n;induction n with
  |zero=>intro x d;omega
  |succ n i=>intro x d j;exact step x j (qi r λy k=>i y (by omega) k.2)
 exact e _ x (yL _) d
def ark(b:bM T P){d:xZ}{args:List E}{r:A->E}(C:aV)(k:aR T P C)(l:bX args)(m:∀n,bH (r n))(n:Nat)(o:T.f f=O d)(p:d.body=O x)
 {i:List yR}(e:d.results.toList=i)(a:∃v j,AL T i [r v] j U (aw T (af T C (n+1)) ⟨f,U⟩ x ⟨bF args 0 .Nl,[],H.e,U⟩)):
 ∃v,∀h,bP T P (zU (za f) #[] #[]) args h U (.r (r v) h U):=by
 let⟨v,j,q⟩:=a;exact⟨v,λh=>ox b C k l (n+1) (dx o p e q) (.Pu (m v)) h⟩
end
section
variable{T:au}{ev:zC->ag}{fr:Fr}
def DX:dr n n=0:=by
 apply xd;intro x;cases b:(dr n n).testBit x with
 |false=>simp
 |true=>have:=(xy _ _ _).1 b;omega
def I4:dr n (n+1)=bit n:=by
 apply xd;intro x;have c:=xy n (n+1) x;cases b:(bit n).testBit x with
 |true=>rw[mL b];exact(xy n (n+1) n).2 ⟨zR _,by omega⟩
 |false=>
  cases d:(dr n (n+1)).testBit x with
  |false=>rfl
  |true=>
   let⟨e,f⟩:=c.1 d;have:x=n:=by omega
   subst this;rw[D1]at b;cases b
def CJ:zV (bit n) 0=G:=jh (by intro e;have:=D1 n;rw[e]at this;simp at this)
def qz:zi 0 n=n:=Nat.zero_or n
def Sw:zi n 0=n:=Nat.or_zero n
def dt(h:n≠m):dV (bit n) (bit m)=Y:=by
 unfold dV;apply ek;apply xd;intro x;show(bit n&&&bit m).testBit x=_;rw[ud];cases c:(bit n).testBit x with
 |false=>simp
 |true=>
  cases d:(bit m).testBit x with
  |false=>simp
  |true=>exact absurd ((mL c).symm.trans (mL d)) h
def Xy(a b c:Nat):dV (zi a b) c=(dV a c&&dV b c):=by
 have e:∀x y:Nat,dV x y=Y<->x&&&y=0:=λx y=>⟨λh=>hJ h,λh=>ek h⟩;have q:(zi a b)&&&c=(a&&&c)|||(b&&&c):=Nat.and_or_distrib_right ..;cases h1:dV a c<;>cases g:dV b c
 .cases d:dV (zi a b) c with
  |false=>rfl
  |true=>
   rw[e,q]at d;have f:a&&&c=0:=(vg.1 d).1;rw[<-e,h1]at f;cases f
 .cases d:dV (zi a b) c with
  |false=>rfl
  |true=>
   rw[e,q]at d;have f:a&&&c=0:=(vg.1 d).1;rw[<-e,h1]at f;cases f
 .cases d:dV (zi a b) c with
  |false=>rfl
  |true=>
   rw[e,q]at d;have f:b&&&c=0:=(vg.1 d).2;rw[<-e,g]at f;cases f
 .show dV (zi a b) c=Y;rw[e]at h1 g⊢;rw[q,h1,g];rfl
def RV(a b:Nat):dV a b=dV b a:=by unfold dV;rw[show tP a b=a&&&b from rfl,Nat.and_comm];rfl
def afX(a b c:Nat):dV c (zi a b)=(dV c a&&dV c b):=by rw[RV,Xy,RV a,RV b]
def qn(l:List aG):Bool:=l.all (λx=>x.wr==0)
@[simp] theorem aHF:qn []=Y:=by simp[qn]
@[simp] theorem aoS{i r :Nat}{l:List aG}:qn (⟨i,r,n⟩::l)=(n==0&&qn l):=by simp[qn]
def Rb(a i r:Nat):∀l,qn l=Y->fe a ⟨i,r,0⟩ l=Y
 |[],_=>rfl
 |x::l,h=>by let⟨j,rd,wr⟩:=x;rw[aoS]at h;simp at h;rw[x6,Rb a i r l h.2,h.1];unfold apart;rw[cO,cO,cO];cases aN a j<;>rfl
namespace Sym
@[simp] theorem RW{h:H}:h.f.g n=h.g n:=by cases h;rfl
@[simp] theorem Yy{h:H}:h.f.n=h.n:=by cases h;rfl
@[simp] theorem GK{h:H}:h.f.b=h.n:=by cases h;rfl
@[simp ↓] theorem dJ{a:Array yH}{s:S}:jN T ev fr a Y s=oo T ev a (bj a.toList 0 .Nl) a.toList 0 [] s:=rfl
@[simp] theorem aCW{all:Array yH}{bs:Tr Nat}{i:Nat}{l:List aG}{s:S}:oo T ev all bs [] i l s=.c .Nr s:=rfl
def Fh(ev:zC->ag)(k:List aG->S->ag)(kp:List zO->List aG->S->ag)(bs:Tr Nat)(l:List aG)(i:Nat)(dst:Option xw)(tm:Tr E)(df:List zc)(h:H)(ab:Option (List zO))(r:Out):ag:=
 Nv ev k kp h.n h.b h.rd h.wr bs l i dst tm df h.f ab r
def OQ(k:List aG->S->ag)(kp:List zO->List aG->S->ag)(bs:Tr Nat)(l:List aG)(i:Nat)(dst:Option xw)(tm:Tr E)(df:List zc)(h:H)(ab:Option (List zO))(a:ag):ag:=
 RI k kp h.n h.b h.rd h.wr bs l i dst tm df ab a
def gG(k:List aG->S->ag)(bs:Tr Nat)(l:List aG)(i:Nat)(tm:Tr E)(df:List zc)(h:H)(ab:Option (List zO))(a:H):ag:=
 JA k h.n h.b h.rd h.wr bs l i tm df ab a
def rR(ev:zC->ag)(k:List aG->S->ag)(kp:List zO->List aG->S->ag)(bs:Tr Nat)(l:List aG)(i:Nat)(dst:Option xw)(tm:Tr E)(df:List zc)(h:H)(ab:Option (List zO))(r:Out)(b:Bool):ag:=
 cond b (Fh ev k kp bs l i dst tm df h ab r) (k l ⟨eG tm yh dst,df,h,ab⟩)
def NU(ev:zC->ag)(k:List aG->S->ag)(kp:List zO->List aG->S->ag)(bs:Tr Nat)(l:List aG)(i:Nat)(dst:Option xw)(tm:Tr E)(df:List zc)(h:H)(ab:Option (List zO))(r:Out):Option Bool->ag
 |some b=>rR ev k kp bs l i dst tm df h ab r b
 |none=>.f
def NW(k:List aG->S->ag)(kp:List zO->List aG->S->ag)(bs:Tr Nat)(l:List aG)(i:Nat)(dst:Option xw)(tm:Tr E)(df:List zc)(h:H)(ab:Option (List zO))(b:Bool)(a:ag):ag:=
 cond b (OQ k kp bs l i dst tm df h ab a) (k l ⟨eG tm yh dst,df,h,ab⟩)
section
variable(all:Array yH)(bs:Tr Nat)(i:Nat)(dst:Option xw)(op:Op)(ty:zQ)(pos:String)(after:Array Edge)(r:List yH)(l:List aG)(tm:Tr E)(df:List zc)(h:H)(ab:Option (List zO))(k:List aG->S->ag)(kp:List zO->List aG->S->ag)
@[simp ↓] theorem aCa:oo T ev all bs (⟨dst,op,ty,pos,after,U⟩::r) i l ⟨tm,df,h,ab⟩=Fh ev (oo T ev all bs r (i+1)) (λchain=>nr T ev all bs i chain r (i+1)) bs l i dst tm df h ab (execOp T tm ty h.f op):=rfl
@[simp ↓] theorem aBG{g:Nat×Bool}:oo T ev all bs (⟨dst,op,ty,pos,after,O g⟩::r) i l ⟨tm,df,h,ab⟩=NU ev (oo T ev all bs r (i+1)) (λchain=>nr T ev all bs i chain r (i+1)) bs l i dst tm df h ab (execOp T tm ty h.f op) (qJ g.2 (Bd tm all.toList[g.1]?)):=by
  show dM .f (λb=>bN (oo T ev all bs r (i+1) l ⟨eG tm yh dst,df,h,ab⟩) (Fh ev (oo T ev all bs r (i+1)) (λchain=>nr T ev all bs i chain r (i+1)) bs l i dst tm df h ab (execOp T tm ty h.f op)) b) (qJ g.2 (Bd tm all.toList[g.1]?))=_;cases qJ g.2 (Bd tm all.toList[g.1]?)with
  |none=>rfl
  |some b=>cases b<;>rfl
@[congr] theorem aAV{r:Out}{o a:Option Bool}(b:o=a):NU ev k kp bs l i dst tm df h ab r o=NU ev k kp bs l i dst tm df h ab r a:=by rw[b]
@[simp] theorem aBe{r:Out}:NU ev k kp bs l i dst tm df h ab r (O b)=rR ev k kp bs l i dst tm df h ab r b:=rfl
@[simp] theorem aDR:Fh ev k kp bs l i dst tm df h ab (.of (.v v g))=gG k bs l i (eG tm v dst) df h ab g:=rfl
@[simp] theorem aCX{args:List E}:Fh ev k kp bs l i dst tm df h ab (.call v args)=OQ k kp bs l i dst tm df h ab (ev (.call v args h.f U)):=rfl
@[simp] theorem Zf:OQ k kp bs l i dst tm df h ab (.r v g o)=gG k bs l i (eG tm v dst) df h ab g:=rfl
@[simp] theorem Zg{a:List zO}:OQ k kp bs l i dst tm df h ab (.p a g o)=gG (kp a) bs l i tm df h ab g:=rfl
def ol(p:Nat)(a:List zO)(o:yH)(s:S)(hb:aN (aE bs i) p=Y):nr T ev all bs p a (o::r) i l s=nr T ev all bs p a r (i+1) l s:=by rw[QM,hb];rfl
def JH(p:Nat)(a:List zO)(hb:aN (aE bs i) p=G):nr T ev all bs p a (⟨dst,op,ty,pos,after,U⟩::r) i l ⟨tm,df,h,ab⟩=Fh ev (nr T ev all bs p a r (i+1)) Ug bs l i dst tm df h ab (execOp T tm ty h.f op):=by rw[QM,hb];rfl
def RX(p:Nat)(ch:List zO)(hc:gh p (aE bs p) (qu all l)=Y):nr T ev all bs p ch [] i l ⟨tm,df,h,ab⟩=.c (.panic ch) ⟨jS all.toList tm,df,h,ab⟩:=by show cond (gh p (aE bs p) (qu all l)) _ _=_;rw[hc];rfl
def afY{p :Nat}(hc:gh p n l=Y):gh p n (qu all l)=Y:=by
 induction l with
 |nil=>rfl
 |cons x l a=>
  have hc:cond (calm p n x) (gh p n l) G=Y:=hc;let⟨h1,b⟩:=iG hc;unfold qu;rw[List.filter_cons];split
  .show cond (calm p n x) (gh p n (qu all l)) G=Y;rw[h1,a b];rfl
  .exact a b
def rM(p:Nat)(ch:List zO)(hc:gh p (aE bs p) l=Y):nr T ev all bs p ch [] i l ⟨tm,df,h,ab⟩=.c (.panic ch) ⟨jS all.toList tm,df,h,ab⟩:=RX (p:=p) (ch:=ch) (hc:=afY _ _ hc) ..
@[simp] theorem aAW:qu all []=[]:=rfl
@[simp] theorem aBH{r:Out}:rR ev k kp bs l i dst tm df h ab r Y=Fh ev k kp bs l i dst tm df h ab r:=rfl
@[simp] theorem aBf{r:Out}:rR ev k kp bs l i dst tm df h ab r G=k l ⟨eG tm yh dst,df,h,ab⟩:=rfl
@[simp] theorem aBI{args:List E}:rR ev k kp bs l i dst tm df h ab (.call v args) b=NW k kp bs l i dst tm df h ab b (ev (.call v args h.f U)):=by cases b<;>rfl
@[simp] theorem Yz:gG k bs l i tm df h ab h.f=k l ⟨tm,df,h,ab⟩:=by let⟨m,n,a,b,c⟩:=h;show kw (λd=>mf k a b c bs l i tm df ab m n 0 0 d) (zi 0 (dr n n))=_;rw[kr,DX];rfl
def Cz{h:H}{rd wr:Nat}(hb:h.b=0)(hr:g.rd=rd)(hw:di h g=wr)(hz:(zV rd 0&&zV wr 0)=G)(ha:fe (aE bs i) ⟨i,rd,wr⟩ l=Y):
 gG k bs l i tm df h ab g=k (⟨i,rd,wr⟩::l) ⟨tm,df,⟨g.m,g.n,h.b,h.rd,h.wr⟩,ab⟩:=by
 let⟨d,b,b1,a,c⟩:=g;let⟨m,n,e,f,j⟩:=h;have hb:e=0:=hb;subst hb;have hr:a=rd:=hr;subst hr;show kw (λo=>mf k 0 f j bs l i tm df ab d b a c o) (zi c (dr n b))=_;rw[kr];have hw:zi c (dr n b)=wr:=hw;rw[hw];unfold mf
 have:cond (zV a 0) (zV wr 0) G=G:=by cases g:zV a 0<;>cases p:zV wr 0<;>simp[g,p]at hz⊢
 rw[this,cond_false,ha,cond_true];rfl
@[simp] theorem ah1(hb:h.b=0)(cA:n<h.n)(hq:qn l=Y):gG k bs l i tm df h ab (h.f.az n)=k (⟨i,bit n,0⟩::l) ⟨tm,df,h,ab⟩:=by
  have e:h.f.az n=⟨h.m,h.n,h.n,bit n,0⟩:=by rw[nv,if_neg (by rw[GK];omega),fm];show(⟨_,_,_,zi 0 (bit n),_⟩:H)=_;rw[qz]
  rw[e,Cz (rd:=bit n) (wr:=0) (hb:=hb) (hr:=rfl) (hw:=by show zi 0 (dr h.n h.n)=0;rw[DX];rfl) (hz:=by rw[CJ];rfl) (ha:=Rb _ _ _ _ hq)]
@[simp] theorem aCb{d:xw}:rR ev k kp bs l i (O d) tm df h ab (.of (.v v h.f)) b=k l ⟨tm.s d (bN yh v b),df,h,ab⟩:=by
  cases b
  .rfl
  .exact Yz ..
def abY(b:Bool)(i r:Nat)(l:List aG):List aG:=cond b (⟨i,r,0⟩::l) l
@[simp] theorem aCY{i r:Nat}{l:List aG}:qn (abY b i r l)=qn l:=by cases b<;>rfl
@[simp] theorem aBg{d:xw}(hb:h.b=0)(cA:n<h.n)(hq:qn l=Y):
   rR ev k kp bs l i (O d) tm df h ab (.of (.v v (h.f.az n))) b=k (abY b i (bit n) l) ⟨tm.s d (bN yh v b),df,h,ab⟩:=by
  cases b
  .rfl
  .exact ah1 (hb:=hb) (cA:=cA) (hq:=hq) ..
@[simp] theorem aBJ{d:xw}:NW k kp bs l i (O d) tm df h ab b (.r v h.f o)=k l ⟨tm.s d (bN yh v b),df,h,ab⟩:=by
  cases b
  .rfl
  .exact Yz ..
@[simp] theorem aDS{o:ai}(hb:h.b=0)(ha:fe (aE bs i) ⟨i,0,bit h.n⟩ l=Y):gG k bs l i tm df h ab (h.f.w o)=k (⟨i,0,bit h.n⟩::l) ⟨tm,df,h.w o,ab⟩:=by rw[Cz (rd:=0) (wr:=bit h.n) (hb:=hb) (hr:=by rw[ib,fm]) (hw:=by rw[ib,fm];show zi 0 (dr h.n (h.n+1))=_;rw[I4,qz]) (hz:=by rw[CJ];rfl) (ha:=ha)];rw[ib,ib,fm]
def cV(o:ai)(hb:h.b=0)(cA:n<h.n)(ha:fe (aE bs i) ⟨i,bit n,bit n⟩ l=Y):gG k bs l i tm df h ab (h.f.p n o)=k (⟨i,bit n,bit n⟩::l) ⟨tm,df,h.p n o,ab⟩:=by
 have e:h.f.p n o=⟨h.m.s n o,h.n,h.n,bit n,bit n⟩:=by rw[H.p,nz,kV,if_neg (by rw[GK];omega),fm];show(⟨_,_,_,zi 0 (bit n),zi 0 (bit n)⟩:H)=_;rw[qz]
 have a:h.p n o=⟨h.m.s n o,h.n,h.b,h.rd,h.wr⟩:=by rw[H.p,nz,kV,if_pos (by omega)]
 rw[e,Cz (rd:=bit n) (wr:=bit n) (hb:=hb) (hr:=rfl) (hw:=by show zi (bit n) (dr h.n h.n)=_;rw[DX,Sw]) (hz:=by rw[CJ];rfl) (ha:=ha),a]
end
@[congr] theorem aBh{k:List aG->S->ag}{kp:List zO->List aG->S->ag}{bs:Tr Nat}{l:List aG}{i:Nat}{dst:Option xw}{tm:Tr E}{df:List zc}{h:H}{ab:Option (List zO)}{r a:Out}(c:b=Y->r=a):rR ev k kp bs l i dst tm df h ab r b=rR ev k kp bs l i dst tm df h ab a b:=by cases b<;>first|rfl|(rw[c rfl])
@[congr 1100] theorem aAX{k:List aG->S->ag}{kp:List zO->List aG->S->ag}{bs:Tr Nat}{l:List aG}{i:Nat}{dst:Option xw}{tm:Tr E}{df:List zc}{h:H}{ab:Option (List zO)}{r a:Out}{d:Bool}(e:b=Y->d=Y->r=a):rR ev k kp bs l i dst tm df h ab r (b&&d)=rR ev k kp bs l i dst tm df h ab a (b&&d):=by cases b<;>cases d<;>first|rfl|(rw[e rfl rfl])
@[congr 1100] theorem aAP{k:List aG->S->ag}{kp:List zO->List aG->S->ag}{bs:Tr Nat}{l:List aG}{i:Nat}{dst:Option xw}{tm:Tr E}{df:List zc}{h:H}{ab:Option (List zO)}{a e:ag}{d:Bool}(f:b=Y->d=Y->a=e):NW k kp bs l i dst tm df h ab (b&&d) a=NW k kp bs l i dst tm df h ab (b&&d) e:=by cases b<;>cases d<;>first|rfl|(rw[f rfl rfl])
end Sym
end
end Go.Am
