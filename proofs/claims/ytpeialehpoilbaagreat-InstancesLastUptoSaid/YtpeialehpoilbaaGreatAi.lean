/- A part of the proof of InstancesLastUptoSaid: see the last text. -/
import Derived.Test.YtpeialehpoilbaaGreatAh
import Derived.Test.YtpeialehpoilbaaGreatAe
import Derived.Test.YtpeialehpoilbaaGreatAf
set_option linter.all false
noncomputable section
set_option maxRecDepth 100000
open Bool renaming false->G,true->Y,and_eq_true->zX
open Go.Am.ai renaming cells->K
open Go.Fn renaming func->za,yield->yc
open Go.ResultVar renaming tmp->yx,cell->yB
open Go renaming Value->E,Deferred->zc,PanicEntry->zO,Oper->yH,FuncId->zZ,TypeId->zQ,Code->yG,Operand->zh,Program->zo,ResultVar->yR
open Go.Value renaming bool->zP,func->zU,iface->vv,pointer->zM,slice->zL,string->zN,nilFunc->zj
open List renaming length->I,mem_cons->zp,append_nil->ye,mem_singleton->yi,getElem_mem->zW,length_cons->yo,mem_iff_getElem->yk
open Nat renaming le_refl->zR,beq->zV,eq_of_testBit_eq->xd,le_trans->yd,lor->zi,lt_of_lt_of_le->xT,testBit_and->ud,add->zl,ble->ze,ble_eq_true_of_le->zb,mul->z7,lt_or_eq_of_le->vh,le_of_lt_succ->sM
open Option renaming none->U,some->O,isSome_iff_exists->uP
open Or renaming inl->zq,inr->zt,elim->sY
open Go.Code renaming region->yM,seq->zS,block->zv,loop->yb,skip->we,rangeFunc->v7
open Go.TypeDesc renaming slice->zf
open Go.IntKind renaming i64->zx,bits->xJ,signed->y9,wrap->xQ
open Go.Operand renaming tmp->vG
open Go.BinOp renaming neq->sL
open Go.LoopState renaming busy->wP,ready->wM,exhausted->xU
open OfNat renaming ofNat->uB
open Ne renaming symm->uV
open Go.Op renaming equalIn->vB
open Go Go.Am Go.Proofs Go.Am.Sym Go.Am.Eu
open Go.Proofs.Tryz
variable{a d:Go.Am.Eu.zA}
variable{n k m i j:Nat}
variable{h g:Go.Am.H}
variable{r q:Go.Am.Tr Go.Value}
variable{o:Option (List Go.PanicEntry)}
variable{c e:Int}
variable{X:List Go.Deferred}
variable{C:Go.Am.aV}
variable{l p:List Go.Value}
variable{v N:Go.Value}
variable{t s:Go.TypeId}
variable{f:Go.FuncId}
variable{x:Go.Code}
variable{B:Nat->Option Go.Am.ai}
variable{b:Bool}
variable{A:Type}
variable{L:A->Prop}
namespace Go.Proofs.YtpeialehpoilbaaGreat
def xe(t:zA):Prop:=I t.M<ao/\I t.H<ao/\∀l∈t.H,l.v=[]
def auy(h:cC a):xe a:=by let⟨h1,b,c⟩:=h;have:=Nk a.w;exact⟨by unfold ao;omega,by have:=b.1;unfold ao;omega,c⟩
def F160:Z.f 160=O f160:=by kernel_rfl
def F161:Z.f 161=O f161:=by kernel_rfl
def ai7(b:aJ Z prog 161 (λx=>zD x<zD a/\aI xe x) (λx=>[D x,D x]) (λ_=>zP Y)):aJ Z prog 160 (λl:List zA=>I l<ao/\∀x∈l,zD x<zD a/\aI xe x) (λl=>[al l,al l,zU (za 161) #[] #[]]) (λ_=>zP Y):=by rintro l ⟨c,d⟩ e;obtain⟨C,f,k⟩:∃C,aR Z prog C/\Has C 161 (λx=>zD x<zD a/\aI xe x) (λx=>[D x,D x]) (λ_=>zP Y):=⟨_,aZ aW b,Has.Ad λ_ _ _=>rfl⟩;refine jf tok C f (.Cs (fb l) (.Cs (fb l) (.Cs (bH.func 161 .Nl .Nl) .Nl))) (I l) F160 ai6 rfl ?_ e;exact asL c (λn m x g=>k.ev (T:=Z) n (x:=x) (d x g) m) _ (zR _)
def aqq:aJ Z prog 161 (aI xe) (λt=>[D t,D t]) (λ_=>zP Y):=by
 refine S9 zD λt f a h=>?_
 obtain⟨C,i,b,c⟩:∃C,aR Z prog C/\Has C 187 (λl:List aB=>I l<ao/\∀x∈l,x.v=[]) (λl=>[aO l,aO l,zU (za 188) #[] #[]]) (λ_=>zP Y)/\
  Has C 160 (λl:List zA=>I l<ao/\∀x∈l,zD x<zD t/\aI xe x) (λl=>[al l,al l,zU (za 161) #[] #[]]) (λ_=>zP Y):=
  ⟨_,aZ (aZ aW alj) (ai7 a),Has.Sk (by decide) (Has.Ad λ_ _ _=>rfl),Has.Ad λ_ _ _=>rfl⟩
 have d:∀n m,af Z C n (aj 187 [aO t.H,aO t.H,zU (za 188) #[] #[]] m)=.r (zP Y) m U:=λn m=>b.ev (T:=Z) n (x:=t.H) ⟨f.here.2.1,f.here.2.2⟩ m;have e:∀n m,af Z C n (aj 160 [al t.M,al t.M,zU (za 161) #[] #[]] m)=.r (zP Y) m U:=λn m=>c.ev (T:=Z) n (x:=t.M) ⟨f.here.1,λx g=>⟨mg g,f.ld g⟩⟩ m;refine jf tok C i (.Cs (bg t) (.Cs (bg t) .Nl)) 1 F161 rfl rfl ?_ h;show ay (bG Z [yx 4] _ (.ret (zP Y))) (bG Z [yx 4] _ (.ret (zP Y))) _ _ _;simp[d,e];exact bG.Pu bJ (by simp)
end Go.Proofs.YtpeialehpoilbaaGreat
namespace Go.Am
def Iq(h:H):Prop:=∀b,h.rd.testBit b=Y\/h.wr.testBit b=Y->b<h.n
def Iq.fresh(h:H):Iq h.f:=λb q=>by
 rw[fm]at q;rcases q with q|q
 .have q:(0:Nat).testBit b=Y:=q;simp at q
 .have q:(0:Nat).testBit b=Y:=q;simp at q
structure cI(h0 h:H):Prop where
 b:h.b=h0.b
 le:h0.n<=h.n
 get:∀j,j<h0.n->h.g j=h0.g j
 wr:∀b,h.wr.testBit b=Y->h0.wr.testBit b=Y\/h0.n<=b
 bd:Iq h0->Iq h
def cI.refl(h:H):cI h h:=⟨rfl,zR _,λ_ _=>rfl,λ_ q=>zq q,id⟩
def cI.trans{h d h2:H}(a:cI h d)(c:cI d h2):cI h h2:=⟨c.b.trans a.b,yd a.le c.le,λj e=>(c.get j (xT e a.le)).trans (a.get j e),λb q=>by
 rcases c.wr b q with q|q
 .exact a.wr b q
 .exact zt (yd a.le q),λq=>c.bd (a.bd q)⟩
def cI.new{h1:H}(a:cI h h1)(o:ai):cI h (h1.w o):=a.trans ⟨by simp,by simp,λj d=>by
 rw[Sym.kP,if_neg (by omega)],λb q=>zq (by rw[ib]at q;exact q),λq b c=>by
 rw[ib]at c⊢;exact Nat.lt_succ_of_lt (q b c)⟩
def cI.az(a:cI h g){b:Nat}(cA:b<g.n):cI h (g.az b):=a.trans ⟨by simp,by simp,λj e=>by simp,λd q=>zq (by rw[nv]at q;split at q<;>exact q),λq d c=>by
 rw[nv]at c⊢;split at c
 .rw[if_pos (by assumption)];exact q d c
 .rw[if_neg (by assumption)];show d<g.n;rcases c with c|c
  .rcases qp (show(zi g.rd (bit b)).testBit d=Y from c)with c|c
   .exact q d (zq c)
   .rw[mL c];exact cA
  .exact q d (zt c)⟩
def cI.put{h h1:H}(a:cI h h1){b:Nat}(hb:h.n<=b)(cA:b<h1.n)(o:ai):cI h (h1.p b o):=⟨by simp[a.b],by simp[a.le],λj e=>by
 rw[Sym.jd,if_neg (by omega)];exact a.get j e,λd q=>by
 rw[H.p,nz,kV]at q;split at q
 .exact a.wr d q
 .have q:(zi h1.wr (bit b)).testBit d=Y:=q;rcases qp q with q|q
  .exact a.wr d q
  .rw[mL q];exact zt hb,λq d c=>by
 have q:=a.bd q;rw[H.p,nz,kV]at c⊢;split at c
 .rw[if_pos (by assumption)];exact q d c
 .rw[if_neg (by assumption)];show d<h1.n;rcases c with c|c
  .rcases qp (show(zi h1.rd (bit b)).testBit d=Y from c)with c|c
   .exact q d (zq c)
   .rw[mL c];exact cA
  .rcases qp (show(zi h1.wr (bit b)).testBit d=Y from c)with c|c
   .exact q d (zt c)
   .rw[mL c];exact cA⟩
def ZS(q:(h.fK g).rd.testBit n=Y):h.rd.testBit n=Y\/g.rd.testBit n=Y:=by
 unfold H.fK at q;cases a:cond (zV g.rd 0) (zV (di h g) 0) G with
 |true=>rw[a,cond_true]at q;exact zq q
 |false=>
  rw[a,cond_false]at q;unfold Bo at q;cases c:zV h.b 0 with
  |true=>rw[c,cond_true]at q;exact zq q
  |false=>
   rw[c,cond_false,kr,kr]at q;exact qp q
def Nq(q:(h.fK g).wr.testBit n=Y):h.wr.testBit n=Y\/g.wr.testBit n=Y:=by
 unfold H.fK at q;cases a:cond (zV g.rd 0) (zV (di h g) 0) G with
 |true=>rw[a,cond_true]at q;exact zq q
 |false=>
  rw[a,cond_false]at q;unfold Bo at q;cases c:zV h.b 0 with
  |true=>rw[c,cond_true]at q;exact zq q
  |false=>
   rw[c,cond_false,kr,kr]at q;exact qp q
def cI.mY{f:H}(a:cI h g)(c:cI g.f f):cI h (g.fK f):=⟨by simp[a.b],by have:=c.le;simp at this⊢;exact yd a.le this,λj k=>by
 have:=c.get j (by have:=a.le;simp;omega);simp at this⊢;rw[this];exact a.get j k,λb q=>by
 rcases Nq q with q|q
 .exact a.wr b q
 .rcases c.wr b q with q|q
  .rw[fm]at q;have q:(0:Nat).testBit b=Y:=q;simp at q
  .exact zt (yd a.le (by simpa using q)),λq b d=>by
 have q:=a.bd q;have i:=c.bd (Iq.fresh g);have e:=c.le;simp at e⊢;rcases d with d|d
 .rcases ZS d with d|d
  .exact xT (q b (zq d)) e
  .exact i b (zq d)
 .rcases Nq d with d|d
  .exact xT (q b (zt d)) e
  .exact i b (zt d)⟩
def cI.aaM(a:cI h g)(f:h.n<=n)(d:n<g.n)(o:ai):cI h (g.fK (g.f.p n o)):=⟨by simp[a.b],by simp;exact a.le,λj i=>by
 have:¬j=n:=by omega
 simp[this];exact a.get j i,λe q=>by
 rcases Nq q with q|q
 .exact a.wr e q
 .rw[Sym.MD d]at q;rw[mL (show(bit n).testBit e=Y from q)];exact zt f,λq e c=>by
 have q:=a.bd q;rcases c with c|c
 .rcases ZS c with c|c
  .simpa using q e (zq c)
  .rw[Sym.MD d]at c;rw[mL (show(bit n).testBit e=Y from c)];simpa using d
 .rcases Nq c with c|c
  .simpa using q e (zt c)
  .rw[Sym.MD d]at c;rw[mL (show(bit n).testBit e=Y from c)];simpa using d⟩
def Rk{a i r w n:Nat}(c:∀b,w.testBit b=Y->n<=b):∀{l:List aG},(∀x∈l,x.wr=0/\∀b,x.rd.testBit b=Y->b<n)->fe a ⟨i,r,w⟩ l=Y
 |[],_=>rfl
 |x::l,h=>by
  rw[x6,Rk c (λx q=>h x (by simp[q]))];let⟨h1,d⟩:=h x (by simp);unfold apart;rw[h1,cO,cR]
  have:dV w x.rd=Y:=by
   unfold dV;apply ek;apply xd;intro b;show(w&&&x.rd).testBit b=_;rw[ud];cases e:w.testBit b with
   |false=>simp
   |true=>
    cases f:x.rd.testBit b with
    |false=>simp
    |true=>have:=c b e;have:=d b f;omega
  rw[this];cases aN a x.i<;>rfl
def ZT{a i n:Nat}:∀{l:List aG},(∀x∈l,∀b,x.rd.testBit b=Y\/x.wr.testBit b=Y->b<n)->fe a ⟨i,0,bit n⟩ l=Y
 |[],_=>rfl
 |x::l,h=>by
  rw[x6,ZT (λx q=>h x (by simp[q]))];have h:=h x (by simp)
  have c:∀m:Nat,(∀b,m.testBit b=Y->b<n)->dV (bit n) m=Y:=λm d=>by
   unfold dV;apply ek;apply xd;intro b;show(bit n&&&m).testBit b=_;rw[ud];cases e:(bit n).testBit b with
   |false=>simp
   |true=>
    cases f:m.testBit b with
    |false=>simp
    |true=>have:=d b f;have:=mL e;omega
  unfold apart;rw[cR,c _ λb q=>h b (zq q),c _ λb q=>h b (zt q)];cases aN a x.i<;>rfl
def ZU(a:cI h.f g):∀b,(di h g).testBit b=Y->h.n<=b:=by
 intro b q;rcases qp (show(zi g.wr (dr h.n g.n)).testBit b=Y from q)with q|q
 .rcases a.wr b q with q|q
  .rw[fm]at q;have q:(0:Nat).testBit b=Y:=q;simp at q
  .simpa using q
 .exact((xy _ _ _).1 q).1
def Hj{b:Tr Nat}{l:List aG}{k:List aG->S->ag}{N R:S->Prop}{a:Nat->S->Prop}{Q:List zO->S->Prop}(e:fe (aE b i) ⟨i,g.rd,di h g⟩ l=Y)
 (f:∀c,(∀x∈c,x∈l\/x=⟨i,g.rd,di h g⟩)->ay N R a Q (k c ⟨r,X,h.fK g,o⟩)):ay N R a Q (Sym.gG k b l i r X h o g):=by
 rw[Sym.Uq e];refine f _ λx q=>?_;unfold nG at q;cases d:cond (zV g.rd 0) (zV (di h g) 0) G with
 |true=>rw[d,cond_true]at q;exact zq q
 |false=>
  rw[d,cond_false]at q;rcases zp.1 q with q|q
  .exact zt q
  .exact zq q
def asM(a:cI h.f g):∀b,g.rd.testBit b=Y\/(di h g).testBit b=Y->b<g.n:=by
 have q:=a.bd (Iq.fresh h);intro b c;rcases c with c|c
 .exact q b (zq c)
 .rcases qp (show(zi g.wr (dr h.n g.n)).testBit b=Y from c)with c|c
  .exact q b (zt c)
  .exact((xy _ _ _).1 c).2
end Go.Am
namespace Go.Am.Eu
abbrev gI(e:Int):E:=vv 229 (J e)
def YR(e:Int):bH (gI e):=.iface 229 bJ
def AG(e:Int):MO:=if e=0 then .ret (aTu [])else .aU (gI e)
end Go.Am.Eu
namespace Go.Proofs.YtpeialehpoilbaaGreat
def F157:Z.f 157=O f157:=by kernel_rfl
def auz:Bi h 229 (Z.u 229) (O (J e))=.v (gI e) h:=by kernel_rfl
def alm:kg Z prog 157 (λ_:Int=>True) (λe=>[J e]) AG:=by
 intro e _ b;refine mi tok cg aW dF 1 F157 rfl rfl ?_ b;unfold AG;by_cases a:e=0
 .rw[if_pos a];simp[f157,a,an];exact bG.Pu (.Tt .Nl) (by simp)
 .rw[if_neg a];simp[f157,a,auz,an];exact iX.pure (YR e)
def F186:Z.f 186=O f186:=by kernel_rfl
def Ck{c:List E}:zE Z 43 c n=c[n]?:=dK (show Am.zK Z 43=O G by kernel_rfl) c n
@[simp] theorem aFq{h:H}:aX Z h 196 1 (O (zM (O ⟨n,k,U⟩)))=.v (zM (O ⟨n,k+1,U⟩)) h:=by kernel_rfl
@[simp] theorem aFr{h:H}:aX Z h 196 0 (O (zM (O ⟨n,k,U⟩)))=.v (zM (O ⟨n,k,U⟩)) h:=by kernel_rfl
@[simp] theorem aFs{h:H}:aX Z h 196 2 (O (zM (O ⟨n,k,U⟩)))=.v (zM (O ⟨n,k+5,U⟩)) h:=by kernel_rfl
@[simp] theorem aHn{h:H}:aX Z h 47 0 (O (zM (O ⟨n,k,U⟩)))=.v (zM (O ⟨n,k,U⟩)) h:=by kernel_rfl
def ai8:f186.body=O (zS (z f186 pF0) (zS (z f186 pF1) (z f186 pT2))):=rfl
def K3:Array yH:=bq (z f186 pF1)
def an3:z f186 pF1=yM 1 K3 Y:=rfl
def KD:Tr Nat:=bj K3.toList 0 .Nl
def an4:(aN (aE KD 11) 4&&aN (aE KD 11) 5&&aN (aE KD 11) 10)=Y:=by kernel_rfl
section
variable{ev:zC->ag}{t:zA}{tm:Tr E}{h:H}{c:List E}{mv:E}{W T:Nat}{r:zA×Int}
def aqr(v:h.g W=O (K c 196 G))(w:c[1]?=O mv)(i:W<h.n)(j:T<h.n)(y:h.g T=O (K (ah (D t)) 31 G))(A:tm.g 0=O (pB W))(B:tm.g 3=O (pB T))(C:W≠T)
 (k:∀m,ev (aj 33 [mv,D t] m)=.r (cj r) m U):
 ay (bB λd l=>cI h l/\d.g 4=tm.g 4/\∃N,h.n<=N/\N<l.n/\d.g 5=O (pB N)/\l.g N=O (K (ah (D r.1)) 31 G)/\d.g 6=O (J r.2)) (λ_=>False) (λ_ _=>False) (λ_ _=>False) (jN Z ev ⟨186,U⟩ K3 Y ⟨tm,[],h,U⟩):=by
 rw[dJ];have p:=an4;simp only[zX]at p;let⟨⟨b4,F⟩,o⟩:=p;have e:bj K3.toList 0 .Nl=KD:=rfl;rw[e];generalize KD=H at*;have L:=(cI.refl h).mY ((cI.refl h.f).az (b:=W) (by simpa using i));have M:=L.mY ((cI.refl _).az (b:=T) (by simpa using j));simp[K3,bq,z,f186,fT,fZ,A,B,v,w,Ck,y,k,i,j,Rg];generalize P:(h.fK (h.f.az W)).fK ((h.fK (h.f.az W)).f.az T)=a at*;have f:a.n=h.n:=by rw[<-P];simp
 have Q:fe (aE H 10) ⟨10,(a.f.w (K [J 0,J 0,zN ⟨#[]⟩,zL U 0 0,zL U 0 0] 31 G)).rd,di a (a.f.w (K [J 0,J 0,zN ⟨#[]⟩,zL U 0 0,zL U 0 0] 31 G))⟩ [⟨5,bit T,0⟩,⟨4,bit W,0⟩]=Y:=by
  refine Rk (n:=a.n) (ZU ((cI.refl a.f).new _)) λx g=>?_;simp at g;rcases g with rfl|rfl
  .exact⟨rfl,λb q=>by have q:(bit T).testBit b=Y:=q;rw[mL q,f];exact j⟩
  .exact⟨rfl,λb q=>by have q:(bit W).testBit b=Y:=q;rw[mL q,f];exact i⟩
 refine Hj Q λl1 R=>?_;have S:=M.mY ((cI.refl a.f).new (K [J 0,J 0,zN ⟨#[]⟩,zL U 0 0,zL U 0 0] 31 G));generalize s:a.fK (a.f.w (K [J 0,J 0,zN ⟨#[]⟩,zL U 0 0,zL U 0 0] 31 G))=u at*;have V:u.n=h.n+1:=by rw[<-s];simp[f]
 have X:u.g h.n=O (K z5 31 G):=by rw[<-s];simp[f]
 simp[X];refine Hj (No λx g=>?_) λl2 q2=>?_
 .rcases R x g with q|q
  .simp at q;rcases q with rfl|rfl
   .exact F
   .exact b4
  .rw[q];exact o
 simp;exact .mk ⟨S.aaM (zR _) (by omega) _,by simp,h.n,zR _,by simp[V],by simp,by simp,by simp⟩
end
def asN{t:zA}{h:H}{c:List E}{mv:E}{W:Nat}{r:zA×Int}(Dm:C 186=λ_ _=>U)(w:h.g W=O (K c 196 G))(x:c[1]?=O mv)(y:W<h.n)
 (j:∀n m,af Z C n (aj 33 [mv,D t] m)=.r (cj r) m U)(nf:∀n e m,af Z C n (aj 157 [J e] m)=(AG e).bi m):
 ∃b,cI h b/\((r.2=0/\af Z C (n+2) (aj 186 [pB W,D t] h)=.r (D r.1) b U)\/(r.2≠0/\af Z C (n+2) (aj 186 [pB W,D t] h)=.p [⟨gI r.2,G,G⟩] b U)):=by
 rw[ll _ (by rw[Dm])]
 refine sY (NJ (C:=C) (n:=n) (args:=[pB W,D t]) (h:=h) (Q:=λv a=>r.2=0/\v=D r.1/\cI h a) (QP:=λs a=>r.2≠0/\s=[⟨gI r.2,G,G⟩]/\cI h a) F186 ai8 (rs:=[yB 4 31]) rfl ?_)
  (λ⟨v,a,e,k,ev,d⟩=>⟨a,d,zq ⟨k,by subst ev;exact e⟩⟩) (λ⟨s,a,e,k,A,d⟩=>⟨a,d,zt ⟨k,by subst A;exact e⟩⟩)
 refine ax (Q0:=λtm a=>cI h a/\a.n=h.n+2/\a.g h.n=O (K (ah (D t)) 31 G)/\a.g (h.n+1)=O (K z5 31 G)/\tm.g 0=O (pB W)/\tm.g 3=O (pB h.n)/\tm.g 4=O (pB (h.n+1))) ?_ λtm a⟨d,V,B,F,L,M,P⟩=>?_
 .simp[z,ak,sub,f186];exact .mk ⟨((cI.refl h).new _).new _,by simp,by simp,by simp,by simp,by simp,by simp⟩
 rw[an3];refine ax (Q0:=λf b=>cI a b/\f.g 4=tm.g 4/\∃N,a.n<=N/\N<b.n/\f.g 5=O (pB N)/\b.g N=O (K (ah (D r.1)) 31 G)/\f.g 6=O (J r.2)) ?_ λR h2⟨g,l,N,X,o,S,T,u⟩=>?_
 .rw[eg];exact(aqr (h:=a) (by rw[d.get W y];exact w) x (by omega) (by omega) B L M (by omega) (j _)).Mo (λ_ q=>q) (λ_ q=>q.elim) (λ_ _ q=>q) (λ_ _ q=>q.elim)
 rw[P]at l;have p:h2.g (h.n+1)=O (K z5 31 G):=by rw[g.get _ (by omega)];exact F
 by_cases i:r.2=0
 .have nf:∀m,af Z C (n+1) (aj 157 [J r.2] m)=.r (aTu []) m U:=λm=>by rw[nf];unfold AG;rw[if_pos i];rfl
  simp[z,ak,sub,f186,u,nf,S,T,l,p];exact nb.mk (v:=D r.1) (h2:=((h2.az N).p (h.n+1) (K (ah (D r.1)) 31 G)).az (h.n+1)) (by simp[l]) ⟨i,rfl,(((d.trans g).az o).put (by omega) (by have:=g.le;simp;omega) _).az (by have:=g.le;simp;omega)⟩
 .have nf:∀m,af Z C (n+1) (aj 157 [J r.2] m)=.p [⟨gI r.2,G,G⟩] m U:=λm=>by rw[nf];unfold AG;rw[if_neg i];rfl
  simp[z,ak,sub,f186,u,nf];exact⟨i,d.trans g⟩
end Go.Proofs.YtpeialehpoilbaaGreat
namespace Go.Am
def acw{h:H}{o:ai}:(h.f.w o).rd=0:=by rw[ib,fm]
def abI{h:H}{o:ai}:di h (h.f.w o)=bit h.n:=by rw[ib,fm];show zi 0 (dr h.n (h.n+1))=_;rw[I4,qz]
def YS{e:Tr Nat}{l:List aG}{tm:Tr E}{h:H}{c:ai}{k:List aG->S->ag}{N R:S->Prop}{a:Nat->S->Prop}{Q:List zO->S->Prop}(f:∀x∈l,∀b,x.rd.testBit b=Y\/x.wr.testBit b=Y->b<h.n)
 (g:∀d,(∀x∈d,x∈l\/x=⟨i,0,bit h.n⟩)->ay N R a Q (k d ⟨tm,X,h.fK (h.f.w c),o⟩)):ay N R a Q (Sym.gG k e l i tm X h o (h.f.w c)):=by
 refine Hj (by rw[acw,abI];exact ZT f) λd q=>g d λx j=>?_;have:=q x j;rwa[acw,abI]at this
def YT{p a:Nat}:∀{l:List aG},(∀x∈l,calm p a x=Y)->gh p a l=Y
 |[],_=>rfl
 |x::l,h=>by show cond (calm p a x) (gh p a l) G=Y;rw[h x (by simp),YT (λx q=>h x (by simp[q]))];rfl
def agj{a:Array yH}{l:List aG}{x:aG}(h:x∈qu a l):x∈l/\GP a x=G:=by unfold qu at h;rw[List.mem_filter]at h;exact⟨h.1,by simpa using h.2⟩
end Go.Am
namespace Go.Proofs.YtpeialehpoilbaaGreat
def F158:Z.f 158=O f158:=by kernel_rfl
def ai9:f158.body=O (zS (z f158 pF0) (zS (z f158 pF1) (z f158 pT2))):=rfl
def K4:Array yH:=bq (z f158 pF1)
def an5:z f158 pF1=yM 1 K4 Y:=rfl
def qO:Tr Nat:=bj K4.toList 0 .Nl
def an6:(aN (aE qO 12) 3&&aN (aE qO 12) 5&&aN (aE qO 12) 6&&aN (aE qO 12) 11&&aN (aE qO 7) 6&&aN (aE qO 8) 6&&aN (aE qO 9) 6&&aN (aE qO 10) 6&&aN (aE qO 13) 6&& !aN (aE qO 11) 6)=Y:=by kernel_rfl
def Fy{c:List E}:zE Z 22 c n=c[n]?:=dK (show Am.zK Z 22=O G by kernel_rfl) c n
section
variable{ev:zC->ag}{t:zA}{tm:Tr E}{h:H}{c:List E}{ve:E}{W T:Nat}{u:zA}{s:zA×Int}{e:Int}
def aqs(hb:h.b=0)(hg:h.g W=O (K c 196 G))(hc:c[0]?=O ve)(r:W<h.n)(y:T<h.n)(gT:h.g T=O (K (ah (D t)) 31 G))(t0:tm.g 0=O (pB W))(t3:tm.g 3=O (pB T))(hWT:W≠T)
 (k:∀i:H,i.g W=O (K c 196 G)->W<i.n->∃A,cI i A/\((e=0/\ev (aj 186 [pB W,D t] i)=.r (D u) A U)\/(e≠0/\ev (aj 186 [pB W,D t] i)=.p [⟨gI e,G,G⟩] A U)))
 (Dn:e=0->∀m,ev (aj 185 [ve,D u] m)=.r (cj s) m U):
 ay (bB λj i=>e=0/\cI h i/\j.g 4=tm.g 4/\∃N,h.n<=N/\N<i.n/\j.g 5=O (pB N)/\i.g N=O (K (ah (D s.1)) 31 G)/\j.g 6=O (J s.2)) (λ_=>False) (λ_ _=>False) (λch s=>s.df=[]/\s.ab=U/\e≠0/\ch=[⟨gI e,G,G⟩]/\cI h s.h) (jN Z ev ⟨158,U⟩ K4 Y ⟨tm,[],h,U⟩):=by
 rw[dJ];have bo:=an6;simp only[zX,Bool.not_eq_true']at bo;let⟨⟨⟨⟨⟨⟨⟨⟨⟨b3,b5⟩,b6⟩,B⟩,C⟩,F⟩,L⟩,M⟩,P⟩,Q⟩:=bo;have e0:bj K4.toList 0 .Nl=qO:=rfl;rw[e0];generalize qO=bs at*;have k1:=(cI.refl h).mY ((cI.refl h.f).az (b:=W) (by simpa using r));have k2:=k1.mY ((cI.refl _).az (b:=T) (by simpa using y));simp[K4,bq,z,f158,fT,fZ,t0,t3,hg,hc,Fy,gT,r,y,Rg];generalize hX:(h.fK (h.f.az W)).fK ((h.fK (h.f.az W)).f.az T)=f at*;have R:f.n=h.n:=by rw[<-hX];simp
 let⟨a,v,l⟩:=k f.f (by rw[<-hX];simpa using hg) (by simp[R];exact r)
 have notes:∀x∈([⟨5,bit T,0⟩,⟨3,bit W,0⟩]:List aG),x.wr=0/\∀b,x.rd.testBit b=Y->b<f.n:=λx d=>by
  simp at d;rcases d with rfl|rfl
  .exact⟨rfl,λb q=>by have q:(bit T).testBit b=Y:=q;rw[mL q,R];exact y⟩
  .exact⟨rfl,λb q=>by have q:(bit W).testBit b=Y:=q;rw[mL q,R];exact r⟩
 have o:fe (aE bs 6) ⟨6,a.rd,di f a⟩ [⟨5,bit T,0⟩,⟨3,bit W,0⟩]=Y:=Rk (n:=f.n) (ZU v) notes;have k4:=k2.mY v;have l3:f.n<=a.n:=by simpa using v.le
 have bd:∀S:List aG,(∀x∈S,x∈([⟨5,bit T,0⟩,⟨3,bit W,0⟩]:List aG)\/x=⟨6,a.rd,di f a⟩)->∀x∈S,∀b,x.rd.testBit b=Y\/x.wr.testBit b=Y->b<a.n:=λS q x d b g=>by
  rcases q x d with q|q
  .let⟨q3,q4⟩:=notes x q;rcases g with g|g
   .exact xT (q4 b g) l3
   .rw[q3]at g;simp at g
  .rw[q]at g;exact asM v b g
 rcases l with⟨w,l⟩|⟨w,l⟩
 .rw[l,Zf];refine Hj o λV p=>?_;have Dn:=Dn w;simp[Dn];have X:(f.fK a).n=a.n:=by simp
  refine YS (λx d b q=>by rw[X];exact bd V p x d b q) λl2 g=>?_;have k5:=k4.mY ((cI.refl (f.fK a).f).new (K [J 0,J 0,zN ⟨#[]⟩,zL U 0 0,zL U 0 0] 31 G));generalize hY:(f.fK a).fK ((f.fK a).f.w (K [J 0,J 0,zN ⟨#[]⟩,zL U 0 0,zL U 0 0] 31 G))=h5 at*;have n5:h5.n=a.n+1:=by rw[<-hY];simp
  have g5:h5.g a.n=O (K z5 31 G):=by rw[<-hY];simp
  simp[g5];refine Hj (No λx d=>?_) λl3 q3=>?_
  .rcases g x d with q|q
   .rcases p x q with q|q
    .simp at q;rcases q with rfl|rfl
     .exact b5
     .exact b3
    .rw[q];exact b6
   .rw[q];exact B
  simp;exact .mk ⟨w,k5.aaM (by omega) (by omega) _,by simp,a.n,by omega,by simp[n5],by simp,by simp,by simp⟩
 .rw[l,Zg];refine Hj o λV p=>?_;simp[ol,C,F,L,M];have X:(f.fK a).n=a.n:=by simp
  rw[JH (hb:=Q)];simp;refine YS (λx d b q=>by rw[X];exact bd V p x d b q) λl2 g=>?_;have k5:=k4.mY ((cI.refl (f.fK a).f).new (K [J 0,J 0,zN ⟨#[]⟩,zL U 0 0,zL U 0 0] 31 G));rw[ol (hb:=b6),ol (hb:=P),RX (hc:=?_)]
  .rw[ag0];exact⟨rfl,rfl,w,rfl,k5⟩
  .refine YT λx d=>?_;let⟨d,o⟩:=agj d;rcases g x d with q|q
   .rcases p x q with q|q
    .have:=(notes x q).1;unfold calm;rw[this];cases zV x.i 6<;>cases aN (aE bs 6) x.i<;>rfl
    .rw[q];rfl
   .rw[q]at o;cases o
end
def two(r s:zA×Int):zA×Int:=if r.2=0 then s else r
def abJ{P:E}{r s:zA×Int}(Ir:C 158=λ_ _=>U)(Dm:C 186=λ_ _=>U)(T:h.b=0)(V:h.g k=O (K l 196 G))(w:l[0]?=O P)(x:l[1]?=O N)(X:k<h.n)
 (y:∀n m,af Z C n (aj 33 [N,D a] m)=.r (cj r) m U)(nf:∀n e m,af Z C n (aj 157 [J e] m)=(AG e).bi m)(Dn:r.2=0->∀n m,af Z C n (aj 185 [P,D r.1] m)=.r (cj s) m U):
 ∃g,cI h g/\(((two r s).2=0/\af Z C (n+3) (aj 158 [pB k,D a] h)=.r (D (two r s).1) g U)\/((two r s).2≠0/\af Z C (n+3) (aj 158 [pB k,D a] h)=.p [⟨gI (two r s).2,G,G⟩] g U)):=by
 rw[ll _ (by rw[Ir])]
 refine sY (NJ (C:=C) (n:=n+1) (args:=[pB k,D a]) (h:=h) (Q:=λv d=>(two r s).2=0/\v=D (two r s).1/\cI h d) (QP:=λA d=>(two r s).2≠0/\A=[⟨gI (two r s).2,G,G⟩]/\cI h d) F158 ai9 (rs:=[yB 4 31]) rfl ?_)
  (λ⟨v,d,e,B,ev,f⟩=>⟨d,f,zq ⟨B,by subst ev;exact e⟩⟩) (λ⟨A,d,e,B,ec,f⟩=>⟨d,f,zt ⟨B,by subst ec;exact e⟩⟩)
 refine ax (Q0:=λj d=>cI h d/\d.n=h.n+2/\d.g h.n=O (K (ah (D a)) 31 G)/\d.g (h.n+1)=O (K z5 31 G)/\j.g 0=O (pB k)/\j.g 3=O (pB h.n)/\j.g 4=O (pB (h.n+1))) ?_ λj d⟨f,n1,gT,gO,t0,t3,t4⟩=>?_
 .simp[z,ak,sub,f158];exact .mk ⟨((cI.refl h).new _).new _,by simp,by simp,by simp,by simp,by simp,by simp⟩
 rw[an5];refine ax (Q0:=λi g=>r.2=0/\cI d g/\i.g 4=j.g 4/\∃b,d.n<=b/\b<g.n/\i.g 5=O (pB b)/\g.g b=O (K (ah (D s.1)) 31 G)/\i.g 6=O (J s.2)) ?_ λjH h2⟨r0,o,F,b,hN,L,t5,gN,R⟩=>?_
 .rw[eg];refine(aqs (h:=d) (e:=r.2) (u:=r.1) (s:=s) (by rw[f.b];exact T) (by rw[f.get k X];exact V) w (by omega) (by omega) gT t0 t3 (by omega) (λg g1 g2=>asN Dm g1 x g2 y nf) (λe=>Dn e _)).Mo (λ_ q=>q) (λ_ q=>q.elim) (λ_ _ q=>q) (λA s q=>?_);obtain⟨q1,q2,S,q4,q5⟩:=q;have:two r ‹zA×Int›=r:=by unfold two;rw[if_neg S]
  rw[this];exact⟨q1,q2,S,q4,f.trans q5⟩
 rw[t4]at F;have M:h2.g (h.n+1)=O (K z5 31 G):=by rw[o.get _ (by omega)];exact gO
 have ht:two r s=s:=by unfold two;rw[if_pos r0]
 rw[ht];by_cases p:s.2=0
 .have nf:∀m,af Z C (n+2) (aj 157 [J s.2] m)=.r (aTu []) m U:=λm=>by rw[nf];unfold AG;rw[if_pos p];rfl
  simp[z,ak,sub,f158,R,nf,t5,gN,F,M];exact nb.mk (v:=D s.1) (h2:=((h2.az b).p (h.n+1) (K (ah (D s.1)) 31 G)).az (h.n+1)) (by simp[F]) ⟨p,rfl,(((f.trans o).az L).put (by omega) (by have:=o.le;simp;omega) _).az (by have:=o.le;simp;omega)⟩
 .have nf:∀m,af Z C (n+2) (aj 157 [J s.2] m)=.p [⟨gI s.2,G,G⟩] m U:=λm=>by rw[nf];unfold AG;rw[if_neg p];rfl
  simp[z,ak,sub,f158,R,nf];exact⟨p,f.trans o⟩
def F127:Z.f 127=O f127:=by kernel_rfl
def F156:Z.f 156=O f156:=by kernel_rfl
def F176:Z.f 176=O f176:=by kernel_rfl
def s73:Am.zI Z 73=O 12:=by kernel_rfl
def IU:zE Z 44 l n=l[n]?:=dK (show Am.zK Z 44=O G by kernel_rfl) l n
def awJ:zE Z 233 l n=l[n]?:=dK (show Am.zK Z 233=O G by kernel_rfl) l n
def s44:Am.zI Z 44=O 1:=by kernel_rfl
@[simp] theorem aHo:aX Z h 73 1 (O (zM (O ⟨n,k,U⟩)))=.v (zM (O ⟨n,k+1,U⟩)) h:=by kernel_rfl
@[simp] theorem aHp:aX Z h 73 2 (O (zM (O ⟨n,k,U⟩)))=.v (zM (O ⟨n,k+6,U⟩)) h:=by kernel_rfl
abbrev Vg:List E:=[zL U 0 0,J 0,J 0,zN ⟨#[]⟩,zL U 0 0,zL U 0 0,J 0,J 0,zN ⟨#[]⟩,zL U 0 0,zL U 0 0,zP G]
@[simp] theorem z73:zero Z 73=O (aAg Vg):=by kernel_rfl
def aqt{c :List E}{g:Bool}(a:I c=12)(d:da c=Y)(f:ae h k (K l t g))(i:I l=12):
 zG Z h 73 (aAg c) (pB k)=O (h.p k (K c t g)):=by
 have:=dY (T:=Z) (v:=aAg c) (n:=12) (off:=0) s73 a d f (by omega);rw[this];congr 2;simp[ah,i]
def awK:dI Z h (O (zf 73)) (O (zL (pO k) 1 n)) (O (J 0))=.v (pB k) h:=by kernel_rfl
def TT.u44:Z.u 44=O (zf 73):=by kernel_rfl
def awL(a:ae h n (ad l t)):rO Z h 44 (O (zL (pO n) 1 1)) (O U) (O (O (J 0))) (O U)=.v (zL (pO n) 0 1) (h.az n):=by show CF Z h U (O (J 0)) U (Z.u 44) (zL (pO n) 1 1)=_;rw[TT.u44];show aa1 Z (h.az n) n 0 1 1 73 U (O (J 0)) U (h.g n)=_;rw[a];show GX (h.az n) ⟨n,0,U⟩ 1 (Am.zI Z 73) (O 0) (O 0) (O 1)=_;rw[s73];rfl
def aqu{c d f i j:E}{g:Bool}(l:ae h k (K [N,c,d,f,i,j] t g))(a:Option Addr)(n m:Nat):
 zG Z h 44 (zL a n m) (zM (O ⟨k,5,U⟩))=O (h.p k (K [N,c,d,f,i,zL a n m] t g)):=by
 rw[dY (v:=zL a n m) (n:=1) (off:=5) s44 rfl rfl l (by show 6<=6;omega)];rfl
def TT.awM:Z.u 231=O (zf 233):=by kernel_rfl
def auA:dI Z h (Z.u 231) (O (zL (pO n) 9 9)) (O (J 0))=.v (pB n) h:=by kernel_rfl
def auB{a b c d e g i j:zZ}{k l m n o p q r s t u v w x y A B C:Array E}:iQ Z h 9 (Z.u 231) (O [(0,zU (za f) k t),(1,zU (za a) l u),(2,zU (za b) m v),(3,zU (za c) n w),(4,zU (za d) o x),(5,zU (za e) p y),(6,zU (za g) q A),(7,zU (za i) r B),(8,zU (za j) s C)])=
 .v (zL (pO h.n) 9 9) (h.w (ad [zU (za f) k t,zU (za a) l u,zU (za b) m v,zU (za c) n w,zU (za d) o x,zU (za e) p y,zU (za g) q A,zU (za i) r B,zU (za j) s C] 233)):=by kernel_rfl
def aqv:aJ Z prog 176 (λq:ir=>q.left=q.right/\aI xe q.left) (λq=>[dB q]) (λ_=>J 1):=by rintro⟨f,l,r,g⟩ ⟨b,c⟩ d;have b:l=r:=b;subst b;have c:aI xe l:=c;obtain⟨C,e,k⟩:∃C,aR Z prog C/\Has C 161 (aI xe) (λt=>[D t,D t]) (λ_=>zP Y):=⟨_,aZ aW aqq,Has.Ad λ_ _ _=>rfl⟩;have a:∀n m,af Z C n (aj 161 [D l,D l] m)=.r (zP Y) m U:=λn m=>k.ev (T:=Z) n (x:=l) c m;refine jf tok C e (.Cs (Zo _) .Nl) 1 F176 rfl rfl ?_ d;show ay (bG Z [yx 2] _ (.ret (J 1))) (bG Z [yx 2] _ (.ret (J 1))) _ _ _;simp[a];exact bG.Pu bJ (by simp)
def aja:f156.body=O (zS (z f156 pF0) (zS (z f156 pF1) .ret)):=rfl
def an7{W:Nat}(b:C 156=λ_ _=>U):∃d,cI h d/\d.n=h.n+1/\af Z C (n+2) (aj 156 [pB W] h)=.r (zL (pO h.n) 9 9) d U/\∃rest,ae d h.n (ad (zU (za 176) #[] #[]::rest) 233):=by
 rw[ll _ (by rw[b])]
 let⟨v,a,e,ev,f,g,i⟩:=abc (C:=C) (n:=n) (args:=[pB W]) (h:=h) (Q:=λv a=>v=zL (pO h.n) 9 9/\cI h a/\a.n=h.n+1/\∃rest,ae a h.n (ad (zU (za 176) #[] #[]::rest) 233)) F156 aja (rs:=[yx 2]) rfl (by
  refine ax (Q0:=λc a=>a=h/\aa c 0 (pB W)) ?_ λc a⟨j,k⟩=>?_
  .simp[z,f156];exact .mk ⟨rfl,by simp⟩
  subst j;refine ax (Q0:=λc h2=>c.g 2=O (zL (pO a.n) 9 9)/\cI a h2/\h2.n=a.n+1/\∃rest,ae h2 a.n (ad (zU (za 176) #[] #[]::rest) 233)) ?_ λc h2⟨l,f,g,i⟩=>?_
  .simp[z,f156,k,auB];exact .mk ⟨by simp,(cI.refl _).new _,by simp,_,by simp;rfl⟩
  rw[S8,Zj];exact nb.mk (v:=zL (pO a.n) 9 9) (h2:=h2) (by simp[l]) ⟨rfl,f,g,i⟩)
 exact⟨a,f,g,by subst ev;exact e,i⟩
end Go.Proofs.YtpeialehpoilbaaGreat
namespace Go.Am
section
variable{T:au}{N R:S->Prop}{X:Nat->S->Prop}{Q:List zO->S->Prop}
def ahB{ev:zC->ag}{b:Fr}{s:S}(h:ay ca R (λi s=>(i=n->N s)/\(i≠n->X i s)) Q (aw T ev b x s)):ay N R X Q (aw T ev b (zv n (yb x)) s):=by
 rw[Sym.hU,Sym.fJ];refine mM ?_;rcases h.cases with⟨a,e,q⟩|⟨a,e,q⟩|⟨i,a,e,q⟩|⟨c,a,e,q⟩
 .exact q.elim
 .rw[e];exact q
 .rw[e];exact q
 .rw[e];exact q
def cI.kept{h :H}(W:Nat)(a:cI h g):Eu.dE W h g:=⟨a.le,λj b _=>a.get j b⟩
end
end Go.Am
namespace Go.Proofs.YtpeialehpoilbaaGreat
def an8{h:H}{q:ir}{g:Bool}(a:ae h n (K l t g))(h0:I l=12):zG Z h 73 (dB q) (pB n)=O (h.p n (K (ah (dB q)) t g)):=
 aqt (c:=ah (dB q)) rfl rfl a h0
def an9{h:H}{q:ir}{u:zA}{g:Bool}(a:ae h k (K (ah (dB q)) t g)):zG Z h 31 (D u) (zM (O ⟨k,1,U⟩))=O (h.p k (K (ah (dB ⟨q.ctx,u,q.right,q.sub⟩)) t g)):=by rw[dY (v:=D u) (n:=5) (off:=1) oa (by rw[dP];rfl) (by rw[dP];exact EE u) a (by show 6<=12;omega),dP];rfl
def aoa{h:H}{q:ir}{u:zA}{g:Bool}(a:ae h k (K (ah (dB q)) t g)):zG Z h 31 (D u) (zM (O ⟨k,6,U⟩))=O (h.p k (K (ah (dB ⟨q.ctx,q.left,u,q.sub⟩)) t g)):=by rw[dY (v:=D u) (n:=5) (off:=6) oa (by rw[dP];rfl) (by rw[dP];exact EE u) a (by show 11<=12;omega),dP];rfl
def lE:yG:=z f127 [G,Y,Y,Y,G,G]
def jl:yG:=ak [Y,G,G] lE
def E6:yG:=ak [Y,Y,Y,Y,Y,Y,G] jl
def adh:yG:=ak [Y,G,G] E6
def ajb:f127.body=O (.scope (zS (z f127 [G,G]) (zS (.label 0) (zS (z f127 [G,Y,Y,G]) (zv 0 (yb lE)))))):=rfl
def ahC:lE=zS (ak [G] lE) (zS (zv 1 jl) (ak [Y,Y] lE)):=rfl
def ahD:jl=zS (ak [G] jl) (zS (ak [Y,G] jl) (zS (ak [Y,Y,G] jl) (zS (ak [Y,Y,Y,G] jl) (zS (ak [Y,Y,Y,Y,G] jl) (zS (ak [Y,Y,Y,Y,Y,G] jl) (zS E6 (ak [Y,Y,Y,Y,Y,Y,Y] jl))))))):=rfl
def ahE:E6=zS (ak [G] E6) (zv 2 (yb adh)):=rfl
structure Wm(h0:H)(W S:Nat)(ve mv qv bv lv st:E)(q:ir)(h:H):Prop where
 b:h.b=0
 kp:dE W h0 h
 lW:W<h0.n
 lS:S<h0.n
 Gm:W≠S
 gW:ae h W (ad [ve,mv,qv,bv,lv,st] 196)
 gS:ae h S (ad (ah (dB q)) 73)
section
variable{ev:zC->ag}{h0 h:H}{W S:Nat}{ve mv qv bv lv:E}{q:ir}{tm:Tr E}
def auC:zx.wrap 0=0:=dA (n:=0) (by unfold ao;omega)
def aqw(d:Wm h0 W S ve mv qv bv lv (zL (pO S) 1 1) q h)(b:aa tm 0 (pB W))(c:aa tm 3 (J 0)):
 ay (bB λa e=>e=h/\aa a 0 (pB W)/\a.g 2=tm.g 2/\aa a 3 (J 0)/\aa a 4 (J 0)) ca ap ap (aF Z ev 127 (zS (ak [G] jl) (ak [Y,G] jl)) tm h):=by
 let⟨f,kp,lW,lS,Gm,gW,gS⟩:=d;simp[jl,lE,z,f127,b,c,fT,fZ,gW,IU,f,auC];exact .mk ⟨rfl,by simp[b],by simp,by simp[c],by simp⟩
def aqx(k:Wm h0 W S ve mv qv bv lv (zL (pO S) 1 1) q h)(d:aa tm 0 (pB W))(l:aa tm 3 (J 0))(m:aa tm 4 (J 0)):
 ay (bB λa c=>Wm h0 W S ve mv qv bv lv (zL (pO S) 0 1) q c/\aa a 0 (pB W)/\a.g 2=tm.g 2/\aa a 3 (J 0)/\∃Q,h0.n<=Q/\Q<c.n/\aa a 5 (pB Q)/\ae c Q (ad (ah (dB q)) 73)) ca ap ap
  (aF Z ev 127 (zS (ak [Y,Y,G] jl) (ak [Y,Y,Y,G] jl)) tm h):=by
 let⟨f,kp,lW,lS,b,gW,gS⟩:=k;have i:=kp.le;have n:¬W=h.n:=by omega
 have j:¬S=h.n:=by omega
 have o:¬h.n=W:=by omega
 have p:¬S=W:=λe=>b e.symm;have r:=λ(h0:H)(g:ae h0 h.n (ad Vg 73))=>an8 (q:=q) g rfl;have s:=λ(h0:H)(g:ae h0 W (ad [ve,mv,qv,bv,lv,zL (pO S) 1 1] 196))=>aqu g (pO S) 0 1;have t:=λ(h0:H)(g:ae h0 S (ad (ah (dB q)) 73))=>awL g;simp[jl,lE,z,f127,d,m,fT,fZ,gW,gS,IU,f,awK,n,j,r,s,t,bounds,iV];exact .mk ⟨⟨by simp[f],((kp.new _).put i _).Ve _,lW,lS,b,by simp,by simp[p,j,gS]⟩,by simp[d],by simp,by simp[l],h.n,i,by simp,by simp,by simp[o]⟩
def aqy(x:Wm h0 W S ve mv qv bv lv (zL (O ⟨S,0,U⟩) 0 1) q h){c:ir}{Q:Nat}{r:zA×Int}(y:h0.n<=Q)(k:Q<h.n)(l:h.g Q=O (K (ah (dB c)) 73 G))(m:tm.g 0=O (pB W))(A:tm.g 3=O (J 0))(n:tm.g 5=O (pB Q))
 (f:∃a,cI h a/\((r.2=0/\ev (aj 158 [pB W,D c.left] h)=.r (D r.1) a U)\/(r.2≠0/\ev (aj 158 [pB W,D c.left] h)=.p [⟨gI r.2,G,G⟩] a U))):
 ay (bB λb a=>r.2=0/\Wm h0 W S ve mv qv bv lv (zL (O ⟨S,0,U⟩) 0 1) q a/\b.g 0=O (pB W)/\b.g 2=tm.g 2/\b.g 3=O (J 0)/\Q<a.n/\b.g 5=O (pB Q)/\a.g Q=O (K (ah (dB ⟨c.ctx,r.1,c.right,c.sub⟩)) 73 G)) (λ_=>False) (λ_ _=>False) (λB s=>s.df=[]/\s.ab=U/\r.2≠0/\B=[⟨gI r.2,G,G⟩]/\s.h.b=0/\dE W h0 s.h)
  (aw Z ev ⟨127,U⟩ (ak [Y,Y,Y,Y,G] jl) ⟨tm,[],h,U⟩):=by
 let⟨o,kp,lW,lS,Gm,gW,gS⟩:=x;let⟨a,d,e⟩:=f;have i:=kp.trans (d.kept W);have j:a.b=0:=by rw[d.b];exact o
 have L:=kp.le;have C:=d.le;rcases e with⟨p,e⟩|⟨p,e⟩
 .have t:a.g Q=O (K (ah (dB c)) 73 G):=by rw[d.get Q k];exact l
  have v:a.g W=O (K [ve,mv,qv,bv,lv,zL (O ⟨S,0,U⟩) 0 1] 196 G):=by rw[d.get W (by omega)];exact gW
  have w:a.g S=O (K (ah (dB q)) 73 G):=by rw[d.get S (by omega)];exact gS
  have F:=λ(h0:H)(g:h0.g Q=O (K (ah (dB c)) 73 G))=>an9 (u:=r.1) g;simp[jl,lE,z,f127,m,n,l,o,e,F,t];exact .mk ⟨p,⟨by simp[j],i.put y _,lW,lS,Gm,by simp[show¬W=Q by omega,v],by simp[show¬S=Q by omega,w]⟩,by simp[m],by simp,by simp[A],by simp;omega,by simp[n],by simp⟩
 .simp[jl,lE,z,f127,m,n,l,o,e];exact⟨p,j,i⟩
end
def acx{T:au}{ev:zC->ag}{d:Fr}{b c:yG}{s:S}:aw T ev d (zS x (zS b c)) s=aw T ev d (zS (zS x b) c) s:=by
 rw[run_seq,run_seq,run_seq x];generalize aw T ev d x s=A;cases A with
 |c e s=>cases e<;>rfl
 |_=>rfl
section
variable{ev:zC->ag}{h0 h:H}{W S:Nat}{ve mv qv bv lv:E}{q:ir}{tm:Tr E}
def aqz(y:Wm h0 W S ve mv qv bv lv (zL (O ⟨S,0,U⟩) 0 1) q h){c:ir}{r:zA×Int}(A:h0.n<=n)(k:n<h.n)(l:h.g n=O (K (ah (dB c)) 73 G))(m:tm.g 0=O (pB W))(B:tm.g 3=O (J 0))(o:tm.g 5=O (pB n))
 (f:∃a,cI h a/\((r.2=0/\ev (aj 158 [pB W,D c.right] h)=.r (D r.1) a U)\/(r.2≠0/\ev (aj 158 [pB W,D c.right] h)=.p [⟨gI r.2,G,G⟩] a U))):
 ay (bB λb a=>r.2=0/\Wm h0 W S ve mv qv bv lv (zL (O ⟨S,0,U⟩) 0 1) q a/\b.g 0=O (pB W)/\b.g 2=tm.g 2/\b.g 3=O (J 0)/\n<a.n/\b.g 5=O (pB n)/\a.g n=O (K (ah (dB ⟨c.ctx,c.left,r.1,c.sub⟩)) 73 G)) (λ_=>False) (λ_ _=>False) (λC s=>s.df=[]/\s.ab=U/\r.2≠0/\C=[⟨gI r.2,G,G⟩]/\s.h.b=0/\dE W h0 s.h)
  (aw Z ev ⟨127,U⟩ (ak [Y,Y,Y,Y,Y,G] jl) ⟨tm,[],h,U⟩):=by
 let⟨p,kp,lW,lS,Gm,gW,gS⟩:=y;let⟨a,d,e⟩:=f;have i:=kp.trans (d.kept W);have j:a.b=0:=by rw[d.b];exact p
 have M:=kp.le;have F:=d.le;rcases e with⟨t,e⟩|⟨t,e⟩
 .have v:a.g n=O (K (ah (dB c)) 73 G):=by rw[d.get n k];exact l
  have w:a.g W=O (K [ve,mv,qv,bv,lv,zL (O ⟨S,0,U⟩) 0 1] 196 G):=by rw[d.get W (by omega)];exact gW
  have x:a.g S=O (K (ah (dB q)) 73 G):=by rw[d.get S (by omega)];exact gS
  have L:=λ(h0:H)(g:h0.g n=O (K (ah (dB c)) 73 G))=>aoa (u:=r.1) g;simp[jl,lE,z,f127,m,o,l,p,e,L,v];exact .mk ⟨t,⟨by simp[j],i.put A _,lW,lS,Gm,by simp[show¬W=n by omega,w],by simp[show¬S=n by omega,x]⟩,by simp[m],by simp,by simp[B],by simp;omega,by simp[o],by simp⟩
 .simp[jl,lE,z,f127,m,o,l,p,e];exact⟨t,j,i⟩
def aqA(j:Wm h0 W S ve mv qv bv lv (zL (O ⟨S,0,U⟩) 0 1) q h){f:ir}{NR:Nat}{rest:List E}(k:h.g n=O (K (ah (dB f)) 73 G))(l:h.g NR=O (K (zU (za 176) #[] #[]::rest) 233 G))(o:tm.g 0=O (pB W))(g:tm.g 2=O (zL (O ⟨NR,0,U⟩) 9 9))(p:tm.g 3=O (J 0))(r:tm.g 5=O (pB n))
 (Vh:∀m,ev (aj 176 [dB f] m)=.r (J 1) m U):
 ay (λ_=>False) (λ_=>False) (λi s=>i=1/\bB (λa b=>b=h/\a.g 0=O (pB W)/\a.g 2=tm.g 2/\a.g 3=O (J 0)) s) (λ_ _=>False) (aw Z ev ⟨127,U⟩ E6 ⟨tm,[],h,U⟩):=by
 let⟨t,kp,lW,lS,Gm,gW,gS⟩:=j;rw[ahE];refine ax (Q0:=λa b=>b=h/\a.g 0=O (pB W)/\a.g 2=tm.g 2/\a.g 3=O (J 0)/\a.g 5=O (pB n)/\a.g 53=O (zL (O ⟨NR,0,U⟩) 9 9)/\a.g 54=O (J 9)/\a.g 55=O (J 0)) ?_ λu B⟨v,w,x,y,A,c,d,e⟩=>?_
 .simp[E6,jl,lE,z,f127,g,TT.awM];exact .mk ⟨rfl,by simp[o],by simp[g],by simp[p],by simp[r],by simp,by simp,by simp⟩
 subst v;refine ahB ?_;simp[adh,E6,jl,lE,z,f127,c,d,e,A,auA,awJ,l,k,t,Vh,show zV 1 4=G from rfl,show zV 1 3=G from rfl];exact .mk ⟨rfl,by simp[w],by simp[x],by simp[y]⟩
structure WQ(C:aV)(ve mv:E)(t:zA)(r s:zA×Int):Prop where
 Ir:C 158=λ_ _=>U
 Dm:C 186=λ_ _=>U
 IV:∀n m,af Z C n (aj 33 [mv,D t] m)=.r (cj r) m U
 nf:∀n e m,af Z C n (aj 157 [J e] m)=(AG e).bi m
 Dn:r.2=0->∀n m,af Z C n (aj 185 [ve,D r.1] m)=.r (cj s) m U
 Vh:(two r s).2=0->∀n m(cx:List zA)(sb:Bool),af Z C n (aj 176 [dB ⟨cx,(two r s).1,(two r s).1,sb⟩] m)=.r (J 1) m U
def asO{NR:Nat}{r s:zA×Int}{rest:List E}(c:WQ C ve mv a r s)(j:Wm h0 W S ve mv qv bv lv (zL (O ⟨S,0,U⟩) 1 1) q h)(u:q.left=a)(v:q.right=a)(lR:NR<h0.n)(nR:NR≠W)(gR:h0.g NR=O (K (zU (za 176) #[] #[]::rest) 233 G))(P:tm.g 0=O (pB W))(t2:tm.g 2=O (zL (O ⟨NR,0,U⟩) 9 9))(t3:tm.g 3=O (J 0)):
 ay (bB λb k=>(two r s).2=0/\Wm h0 W S ve mv qv bv lv (zL (O ⟨S,0,U⟩) 0 1) q k/\b.g 0=O (pB W)) (λ_=>False) (λ_ _=>False) (λch l=>l.df=[]/\l.ab=U/\(two r s).2≠0/\ch=[⟨gI (two r s).2,G,G⟩]/\l.h.b=0/\dE W h0 l.h)
  (aw Z (af Z C (n+3)) ⟨127,U⟩ lE ⟨tm,[],h,U⟩):=by
 rw[ahC];refine ax (Q0:=λb k=>k=h/\b.g 0=O (pB W)/\b.g 2=tm.g 2/\b.g 3=O (J 0)) ?_ λfQ h1⟨e1,j0,R,j3⟩=>?_
 .obtain⟨w,T,V,X,o,x,gS⟩:=j;simp[lE,z,ak,sub,f127,P,fT,fZ,x,IU,w,an];exact .mk ⟨rfl,by simp[P],by simp,by simp[t3]⟩
 subst e1;rw[t2]at R;refine ax (Q0:=λb k=>(two r s).2=0/\Wm h0 W S ve mv qv bv lv (zL (O ⟨S,0,U⟩) 0 1) q k/\b.g 0=O (pB W)/\b.g 3=O (J 0)) ?_ λy h2⟨p,j,A,B⟩=>?_
 .rw[hU];refine mM ?_;obtain⟨qx,ql,qr,qs⟩:=q;have u:ql=a:=u;have v:qr=a:=v;subst u;subst v;rw[ahD,acx];refine ax ((aqw j j0 j3).Mo (λ_ q=>q) (λ_ q=>q.elim) (λ_ _ q=>q.elim) (λ_ _ q=>q.elim)) λy h2⟨e2,A,k2,B,k4⟩=>?_;subst e2;rw[acx];refine ax ((aqx j A B k4).Mo (λ_ q=>q) (λ_ q=>q.elim) (λ_ _ q=>q.elim) (λ_ _ q=>q.elim)) λru h3⟨d,i0,i2,i3,Q,lQ,F,i5,gQ⟩=>?_;have c0:([ve,mv,qv,bv,lv,zL (O ⟨S,0,U⟩) 0 1]:List E)[0]?=O ve:=rfl;have c1:([ve,mv,qv,bv,lv,zL (O ⟨S,0,U⟩) 0 1]:List E)[1]?=O mv:=rfl;have H:W<h3.n:=by have:=d.kp.le;have:=d.lW;omega
  refine ax ((aqy (r:=two r s) d lQ F gQ i0 i3 i5 (abJ c.Ir c.Dm d.b d.gW c0 c1 H c.IV c.nf c.Dn)).Mo (λ_ q=>q) (λ_ q=>q.elim) (λ_ _ q=>q.elim) (λ_ _ q=>q)) λCb h4⟨p,f,m0,m2,m3,mQ,m5,L⟩=>?_;have M:W<h4.n:=by have:=f.kp.le;have:=f.lW;omega
  refine ax ((aqz (r:=two r s) f lQ mQ L m0 m3 m5 (abJ c.Ir c.Dm f.b f.gW c0 c1 M c.IV c.nf c.Dn)).Mo (λ_ q=>q) (λ_ q=>q.elim) (λ_ _ q=>q.elim) (λ_ _ q=>q)) λIK h5⟨_,g,p0,p2,p3,pQ,p5,N⟩=>?_;refine iw (N':=λ_=>False) ((aqA (NR:=NR) (rest:=rest) g N (by rw[g.kp.get NR lR nR];exact gR) p0 (by rw[p2,m2,i2,k2,R]) p3 p5 (λm=>c.Vh p _ m _ _)).Mo (λ_ q=>q) (λ_ q=>q.elim) (λi l q=>?_) (λ_ _ q=>q.elim)) (λ_ q=>q.elim);obtain⟨rfl,q⟩:=q;obtain⟨IL,h6,rfl,e6,u0,u2,u3⟩:=q.elim;subst e6;exact⟨λ_=>.mk ⟨p,g,u0,u3⟩,λe=>absurd rfl e⟩
 .obtain⟨w,T,V,X,o,x,gS⟩:=j;simp[lE,z,ak,sub,f127,B];have e2:=dA (n:=1) (by unfold ao;omega);exact .mk ⟨p,⟨w,T,V,X,o,x,gS⟩,by simp[A]⟩
end
section
variable{ev:zC->ag}{h0 h:H}{W S:Nat}{ve mv qv bv lv:E}{q:ir}{tm:Tr E}
def aob(b:Wm h0 W S ve mv qv bv lv (zL (pO S) 0 1) q h)(c:aa tm 0 (pB W)):
 ay ca ca (λj s=>j=0/\bB (λ_ d=>Wm h0 W S ve mv qv bv lv (zL (pO S) 0 1) q d) s) ap (aF Z ev 127 lE tm h):=by
 have a:=b;let⟨e,kp,lW,lS,Gm,gW,gS⟩:=b;simp[lE,z,f127,c,fT,fZ,gW,IU,e,an];exact .mk a
end
def asP{h:H}{W S:Nat}{ve mv qv bv lv:E}{q:ir}{r s:zA×Int}(l:C 127=λ_ _=>U)(o:C 156=λ_ _=>U)(R:WQ C ve mv q.left r s)(T:q.right=q.left)
 (V:h.b=0)(X:W<h.n)(lS:S<h.n)(x:W≠S)(gW:ae h W (ad [ve,mv,qv,bv,lv,zL (pO S) 1 1] 196))(gS:ae h S (ad (ah (dB q)) 73)):
 ∃a,a.b=0/\dE W h a/\(((two r s).2=0/\ae a W (ad [ve,mv,qv,bv,lv,zL (pO S) 0 1] 196)/\af Z C (n+6) (aj 127 [pB W] h)=.r (aTu []) a U)\/((two r s).2≠0/\af Z C (n+6) (aj 127 [pB W] h)=.p [⟨gI (two r s).2,G,G⟩] a U)):=by
 rw[ll _ (by rw[l])]
 refine sY (NJ (C:=C) (n:=n+4) (args:=[pB W]) (h:=h) (Q:=λv c=>v=aTu []/\(two r s).2=0/\c.b=0/\dE W h c/\ae c W (ad [ve,mv,qv,bv,lv,zL (pO S) 0 1] 196)) (QP:=λp c=>(two r s).2≠0/\p=[⟨gI (two r s).2,G,G⟩]/\c.b=0/\dE W h c) F127 ajb (rs:=[]) rfl ?_)
  (λ⟨v,c,e,ev,g,y,f,g1⟩=>⟨c,y,f,zq ⟨g,g1,by subst ev;exact e⟩⟩) (λ⟨p,c,e,g,ec,y,f⟩=>⟨c,y,f,zt ⟨g,by subst ec;exact e⟩⟩)
 rw[ajr];let⟨c,f,n1,t,rest,gR⟩:=an7 (C:=C) (n:=n+3) (h:=h) (W:=W) o;refine ax (Q0:=λtm a=>a=c/\aa tm 0 (pB W)/\aa tm 2 (zL (pO h.n) 9 9)) ?_ λtm a⟨u,w,A⟩=>?_
 .simp[z,f127,t];exact .mk ⟨rfl,by simp,by simp⟩
 subst u;refine ax (Q0:=λb h2=>h2=a/\b=tm) ?_ λfQ h2⟨u,e2⟩=>?_
 .rw[ajs,Gz];exact .mk ⟨rfl,rfl⟩
 subst u;subst e2;refine ax (Q0:=λb a=>a=h2/\aa b 0 (pB W)/\aa b 2 (zL (pO h.n) 9 9)/\aa b 3 (J 0)) ?_ λtm a⟨u,w,A,t3⟩=>?_
 .simp[z,f127];exact .mk ⟨rfl,by simp[w],by simp[A],by simp⟩
 subst u;have st:Wm a W S ve mv qv bv lv (zL (pO S) 1 1) q a:=⟨by rw[f.b];exact V,dE.refl _,by omega,by omega,x,by show _=_;rw[f.get W X];exact gW,by show _=_;rw[f.get S lS];exact gS⟩
 have L:ay (bB λ_ h2=>(two r s).2=0/\Wm a W S ve mv qv bv lv (zL (pO S) 0 1) q h2) ca ap (λp d=>d.df=[]/\d.ab=U/\(two r s).2≠0/\p=[⟨gI (two r s).2,G,G⟩]/\d.h.b=0/\dE W a d.h) (aF Z (af Z C (n+5)) 127 (zv 0 (yb lE)) tm a):=by
  refine pE 3 (λj d=>(j=1/\d=⟨tm,[],a,U⟩)\/(j=0/\bB (λb h2=>(two r s).2=0/\Wm a W S ve mv qv bv lv (zL (pO S) 0 1) q h2/\aa b 0 (pB W)) d)) 1 (zq ⟨rfl,rfl⟩) (by omega) ?_;rintro j d m (⟨rfl,rfl⟩|⟨rfl,hs⟩) hm
  .obtain⟨m,rfl⟩:∃m',m=m'+3:=⟨m-3,by omega⟩;exact(asO (NR:=h.n) R st rfl T (by omega) (by omega) gR w A t3).Mo (λB q=>⟨0,by omega,zt ⟨rfl,q⟩⟩) fP aP bT
  .obtain⟨jH,h2,rfl,g,F,w⟩:=hs.elim;refine(aob F w).Mo dN fP (λi B q=>⟨q.1,?_⟩) aP;obtain⟨M,P,rfl,N⟩:=q.2.elim;exact .mk ⟨g,N⟩
 refine L.Mo (λd q=>?_) dN bT (λp d q=>?_)
 .obtain⟨M,P,rfl,g,k⟩:=q.elim;exact nb.mk (v:=aTu []) (h2:=P) (by simp) ⟨rfl,g,k.b,(f.kept W).trans k.kp,k.gW⟩
 .let⟨q1,q2,N,q4,q5,q6⟩:=q;exact⟨q1,q2,N,q4,q5,(f.kept W).trans q6⟩
end Go.Proofs.YtpeialehpoilbaaGreat
namespace Go.Am
section
variable{T:au}{α:Type}{e:zQ}{enc:α->E}{sz:Nat}
def El.aln(c:El T e enc sz){x:E}{m:List α}{b:Nat}{e2 e3:zQ}(p:h.b=0)(o:ae h b (ad [] e3))(A:0<I m)(r:I m<=1073741824)(s:zH h (I m) sz x=O (zF enc m)):
 jO T h x (O (zf e)) (O (zf e2)) (zL (pO b) 0 0) (O (I m))=.v (zL (pO h.n) (I m) (I m)) (h.w (K (zF enc m) e Y)):=by
 have f:=c.cw;have g:∀b,h.az b=h:=λb=>Ae p
 have d:∀y,cu h y=h:=λy=>by
  cases y with
  |slice a _ _=>cases a with|none=>rfl|some a=>exact g _
  |_=>rfl
 cases j:T.cw.g e with
 |none=>rw[j]at f;cases f
 |some i=>
  rw[j]at f;simp at f;have k:zV i.size 0=G:=jh (by have:=c.pos;omega);have l:ze i.bytes 65536=Y:=zb f.2;have t:zV (dh (zF enc m)) (z7 (I m) sz)=Y:=by rw[fX];exact ek (c.ia m)
  have n:ze (zl 0 (I m)) 1073741824=Y:=zb (by show 0+I m<=_;simpa using r)
  have u:zH h 0 sz (zL (pO b) 0 0)=O []:=by show rK 0 (z7 0 sz) (rD (h.g b))=_;rw[o];show cut [] 0 (0*sz)=_;rw[Nat.zero_mul,Sym.nw (by simp)];rfl
  have v:zV (dh ([]:List E)) (z7 0 sz)=Y:=ek (by show 0=0*sz;simp);show jy T h e (zL (pO b) 0 0) x (pO b) 0 0 (I m) (T.cw.g e)=_;rw[j];unfold jy;dsimp only;rw[k,l,n,c.zero,f.1,s,u];show cond (cond (zV (dh (zF enc m)) (z7 (I m) sz)) (cond (zV (dh ([]:List E)) (z7 0 sz)) (da (zF enc m)) G) G) (kq T (cu (cu h (zL (pO b) 0 0)) x) b 0 e sz 0 0 (I m) [] (zF enc m) ((cu (cu h (zL (pO b) 0 0)) x).g b)) .f=_;rw[t,v,c.qA,d,d,o];show kq T h b 0 e sz 0 0 (I m) [] (zF enc m) (O (ad [] e3))=_;unfold kq
  have w:ze (zl 0 (I m)) 0=G:=by
   cases q:ze (zl 0 (I m)) 0 with
   |false=>rfl
   |true=>have:0+I m<=0:=Nat.le_of_ble_eq_true q;omega
  show bN (mP T h b e sz (zl 0 (I m)) (zl 0 (z7 0 sz)) (il [] (zF enc m)) [] e3 G) _ (ze (zl 0 (I m)) 0)=_;rw[w];show kO h e (zl 0 (I m)) (il [] (zF enc m))=_;rw[show zl 0 (I m)=I m from Nat.zero_add _];rfl
end
end Go.Am
namespace Go.Proofs.YtpeialehpoilbaaGreat
def elM:El Z 42 fE 12:=⟨by omega,by kernel_rfl,by kernel_rfl,λx=>rfl,λx=>by show da (tc x.type++(zP x.known::(tc x.value++[zP x.e7])))=Y;rfl⟩
def F122:Z.f 122=O f122:=by kernel_rfl
abbrev ba:E:=zL U 0 0
def abK{args:List E}(a:bX args)(h:T1 (cB Z (af Z cg n) f args H.e U (Z.f f))=Y):aJ Z prog f (λ_:Unit=>True) (λ_=>args) (λ_=>ba):=by intro _ _ b;let⟨m,e⟩:=ale h;exact CK tok cg aW a n e eI b
def aoc:aJ Z prog 125 (λ_:Unit=>True) (λ_=>[ba]) (λ_=>ba):=abK (n:=20) dF (by kernel_rfl)
def aod:aJ Z prog 126 (λ_:Unit=>True) (λ_=>[ba]) (λ_=>ba):=abK (n:=20) dF (by kernel_rfl)
def aqB(h:H)(x:Tmp)(a:List E)(k:Nat):fu Z h .eql 43 (vG x) (.const ba) (O (cp a 0 (k+1) [])) (O ba)=.v (zP G) h:=by kernel_rfl
def asQ:iQ Z h 0 (O (zf 42)) (O [])=.v (zL (pO h.n) 0 0) (h.w (ad [] 42)):=by kernel_rfl
def aoe:aJ Z prog 122 (λl:List Meta=>0<I l/\I l<=1073741824) (λl=>[aC l]) aC:=by
 rintro l ⟨a,c⟩ d;refine jf tok cg aW (.Cs (Ab l) .Nl) 1 F122 rfl rfl ?_ d;show ay (bG Z [yx 2] _ (.ret (aC l))) (bG Z [yx 2] _ (.ret (aC l))) _ _ _
 have e:∀(h:H)(x:Tmp),fu Z h .eql 43 (vG x) (.const ba) (O (aC l)) (O ba)=.v (zP G) h:=λh x=>by obtain⟨k,f⟩:∃k,I l=k+1:=⟨I l-1,by omega⟩;unfold aC;rw[f];exact aqB ..
 have g:=elM.aln (h:=H.e.w (ad [] 42)) (x:=aC l) (m:=l) (b:=0) (e2:=42) (e3:=42) (by simp) (by simp) a c (by have:=Ju (enc:=fE) (sz:=12) (h:=H.e.w (ad [] 42)) (l:=l) (off:=0) (fG:=[]) (p:= #[]) (k:=I l);rw[List.drop_zero,List.take_length]at this;exact this)
 have i:lenOf (aC l)=O (I l):=rfl;simp[e,an,asQ,i,g];refine⟨rfl,rfl,zL (pO 1) (I l) (I l),aC l,(H.e.w (ad [] 42)).w (K (zF fE l) 42 Y),rfl,by simp,?_⟩;have j:eu fE 42 (zL (pO 1) (I l) (I l)) ((H.e.w (ad [] 42)).w (K (zF fE l) 42 Y)) l:=zt ⟨1,by simp,rfl,by simp⟩;exact j.dv elM (λ_ _ _=>rfl) (λx _=>Ry x)
def F98:Z.f 98=O f98:=by kernel_rfl
abbrev cM(mv:E)(aQ:Int):List E:=[mv,ba,ba,J aQ]
abbrev cJ(mv:E)(aQ:Int):E:=aAg (cM mv aQ)
abbrev z4:List E:=[ba,ba,ba,J 0]
@[simp] theorem z47:zero Z 47=O (aAg z4):=by kernel_rfl
def LJ(a:List E){c:List E}(b:List E)(h:I c=4):zE Z 47 (a++(c++b)) (I a)=O (aAg c):=by rw[fV ac1 V1,nw (by simp;omega)];simp[HI,<-h]
def p45{off:Nat}:zE Z 45 l off=l[off]?:=dK (show Am.zK Z 45=O G by kernel_rfl) l off
def pN{h:H}{c :List E}{e:zQ}{g:Bool}(a:I c=4)(d:da c=Y)(f:ae h k (K l e g))(i:I l=4):
 zG Z h 47 (aAg c) (pB k)=O (h.p k (K c e g)):=by
 have:=dY (T:=Z) (v:=aAg c) (n:=4) (off:=0) V1 a d f (by omega);rw[this];congr 2;simp[ah,i]
def asR{h:H}{env:List zB}{d e:E}{a:Option Addr}:eK Z h 196 (O (aAg [ba,ba,ba,ba,J 0,ba])) (O [(0,bw env),(1,aAg [v,N,d,e]),(2,zL a n m)])=.v (aAg [bw env,v,N,d,e,zL a n m]) h:=by kernel_rfl
@[simp] theorem aJh:zero Z 196=O (aAg [ba,ba,ba,ba,J 0,ba]):=by kernel_rfl
def asS{h:H}(q:ir):iQ Z h 1 (O (zf 73)) (O [(0,dB q)])=.v (zL (pO h.n) 1 1) (h.w (ad (ah (dB q)) 73)):=by kernel_rfl
abbrev OD:List E:=[pB 2,pB 3]
def alo:f98.body=O (zS (z f98 pF0) (zS (z f98 pF1) (zS (z f98 pF2) (zS (z f98 pF3) (zS (z f98 pF4) (zS (z f98 pF5) .ret)))))):=rfl
def LK:Array yH:=bq (z f98 pF3)
def aqC:z f98 pF3=yM 3 LK Y:=rfl
def K5:Tr Nat:=bj LK.toList 0 .Nl
def aqD:(aN (aE K5 19) 15&&aN (aE K5 23) 15&&aN (aE K5 23) 19)=Y:=by kernel_rfl
structure Qt(st:List E)(c:List E)(q:ir)(tm:Tr E)(h:H):Prop where
 b:h.b=0
 nx:h.n=6
 g0:ae h 0 (ad st 47)
 g2:ae h 2 (ad z4 47)
 g3:ae h 3 (ad [J 0] 52)
 g4:ae h 4 (ad (ah (dB q)) 73)
 g5:ae h 5 (ad c 196)
 t4:aa tm 4 (pB 0)
 t6:aa tm 6 (pB 2)
 t7:aa tm 7 (pB 3)
 t8:aa tm 8 (pB 5)
section
variable{ev:zC->ag}{df:List zc}{tm:Tr E}{h:H}{env:List zB}{mv:E}{aQ:Int}{q:ir}
def auD:ay (bB λtm h=>h.b=0/\h.n=4/\ae h 0 (ad (cM mv aQ) 47)/\ae h 1 (ad (ah (dB q)) 73)/\ae h 2 (ad z4 47)/\ae h 3 (ad [J 0] 52)/\aa tm 0 (bw env)/\aa tm 4 (pB 0)/\aa tm 5 (pB 1)/\aa tm 6 (pB 2)/\aa tm 7 (pB 3)) ca ap ap
 (aF Z ev 98 (z f98 pF0) (bF [bw env,cJ mv aQ,dB q] 0 .Nl) H.e):=by
 simp[z,f98];exact .mk ⟨by simp,by simp,by simp,by simp,by simp,by simp,by simp,by simp,by simp,by simp,by simp⟩
def auE(b:h.b=0)(a:h.n=4)(d:ae h 0 (ad (cM mv aQ) 47))(f:ae h 1 (ad (ah (dB q)) 73))(g:ae h 2 (ad z4 47))(i:ae h 3 (ad [J 0] 52))(j:aa tm 0 (bw env))(e:aa tm 4 (pB 0))(k:aa tm 5 (pB 1))(l:aa tm 6 (pB 2))(m:aa tm 7 (pB 3)):
 ay (js df (Qt (cM mv aQ) [bw env,mv,ba,ba,J aQ,zL (pO 4) 1 1] q)) ca ap ap (aw Z ev ⟨98,U⟩ (z f98 pF2) ⟨tm,df,h,U⟩):=by
 have n:zE Z 47 (cM mv aQ) 0=O (cJ mv aQ):=by have:=LJ [] (c:=cM mv aQ) [] rfl;rw[ye]at this;exact this
 simp[z,f98,j,e,k,b,a,d,f,n,asS,asR];exact .mk ⟨by simp[b],by simp[a],by simp[a,d],by simp[a,g],by simp[a,i],by simp[a],by simp[a],by simp[e],by simp[l],by simp[m],by simp⟩
def s43:Am.zI Z 43=O 1:=by kernel_rfl
def s45:Am.zI Z 45=O 1:=by kernel_rfl
def O9{h:H}{ty:zQ}{c':List E}{g:Bool}(d:Am.zI Z ty=O 1)(a:ah v=[v])(f:da [v]=Y)(i:ae h m (K l t g))(j:k+1<=I l)(o:l.take k++(v::l.drop (k+1))=c'):zG Z h ty v (zM (O ⟨m,k,U⟩))=O (h.p m (K c' t g)):=by rw[dY (v:=v) (n:=1) (off:=k) d (by rw[a];rfl) (by rw[a];exact f) i j,a];rw[<-o];rfl
def auF{l:List Meta}(a:mv=aC l)(n:Qt (cM mv aQ) [bw env,mv,ba,ba,J aQ,zL (pO 4) 1 1] q tm h)(b:∀m,ev (aj 122 [mv] m)=.r mv m U)(c:∀m,ev (aj 125 [ba] m)=.r ba m U)(d:∀m,ev (aj 126 [ba] m)=.r ba m U):
 ay (js df (Qt (cM mv aQ) [bw env,mv,ba,ba,J aQ,zL (pO 4) 1 1] q)) ca ap ap (jN Z ev ⟨98,U⟩ LK Y ⟨tm,df,h,U⟩):=by
 let⟨i,nx,g0,g2,g3,g4,g5,t4,t6,t7,t8⟩:=n;rw[dJ];have j:=aqD;simp only[zX]at j;let⟨⟨b1,b2⟩,b3⟩:=j;have e:bj LK.toList 0 .Nl=K5:=rfl;rw[e];generalize K5=u at*;have o:0<h.n:=by omega
 have p:5<h.n:=by omega
 have r:=λ(f:H)(g:ae f 5 (ad [bw env,mv,ba,ba,J aQ,zL (pO 4) 1 1] 196))=>O9 (c':=[bw env,mv,ba,ba,J aQ,zL (pO 4) 1 1]) (k:=1) (ty:=43) (v:=mv) s43 (by rw[a];rfl) (by rw[a];rfl) g (by simp) rfl;have s:=λ(f:H)(g:ae f 5 (ad [bw env,mv,ba,ba,J aQ,zL (pO 4) 1 1] 196))=>O9 (c':=[bw env,mv,ba,ba,J aQ,zL (pO 4) 1 1]) (k:=2) (ty:=44) (v:=ba) s44 rfl rfl g (by simp) rfl;have t:=λ(f:H)(g:ae f 5 (ad [bw env,mv,ba,ba,J aQ,zL (pO 4) 1 1] 196))=>O9 (c':=[bw env,mv,ba,ba,J aQ,zL (pO 4) 1 1]) (k:=3) (ty:=45) (v:=ba) s45 rfl rfl g (by simp) rfl;simp[LK,bq,z,f98,fT,fZ,t4,t8,i,g0,g5,o,p,Ck,IU,p45,b,c,d,r,s,t,cV,cZ,cY,dc,dt,cO,cR,b1,b2,b3];exact .mk ⟨by simp[i],by simp[nx],by simp[g0],by simp[g2],by simp[g3],by simp[g4],by simp,by simp[t4],by simp[t6],by simp[t7],by simp[t8]⟩
end
end Go.Proofs.YtpeialehpoilbaaGreat
namespace Go.Am.Eu
end Go.Am.Eu
namespace Go.Proofs.YtpeialehpoilbaaGreat
def F123:Z.f 123=O f123:=by kernel_rfl
def F124:Z.f 124=O f124:=by kernel_rfl
def asT{x y:zh}:fu Z h sL 20 x y (O (vv 229 (J e))) (O .nilIface)=.v (zP Y) h:=by kernel_rfl
def aqE:rJ Z h 229 Y (Z.u 229) (O (vv 229 (J e)))=.v (aTu [J e,zP Y]) h:=by kernel_rfl
def alp:aJ Z prog 124 (λ_:Int=>True) (λe=>[gI e]) (λe=>J e):=by intro e _;refine ku (v:=J e) tok cg aW (.Cs (YR e) .Nl) bJ 1 F124 rfl rfl ?_;simp[gI,aqE,Jb,an]
def acy:eK Z h 47 (O (aAg z4)) (O [])=.v (aAg z4) h:=by kernel_rfl
def aqF(a:C 123=λ_ _=>U):af Z C (n+2) (.call (bK 123 [pB k,pB m]) [] h U)=.r (aTu []) h U:=by rw[oy _ (by rw[a]),dx (vs:=[]) (h2:=h) (ab:=U) F123 rfl rfl (by simp[f123,HA,an])];rfl
def aqG{x:Int}(b:Has C 124 (λ_:Int=>True) (λe=>[gI e]) (λe=>J e))(t:h.b=0)(j:ae h k (ad l 47))(o:I l=4)(p:ae h i (ad [J x] 52))(f:¬i=k):
 af Z C (n+2) (.call (bK 123 [pB k,pB i]) [] h (O [⟨gI e,G,G⟩]))=.r (aTu []) ((h.p k (ad z4 47)).p i (ad [J e] 52)) (O [⟨gI e,Y,G⟩]):=by
 have d:∀n m,af Z C n (aj 124 [vv 229 (J e)] m)=.r (J e) m U:=λn m=>b.ev (T:=Z) n (x:=e) trivial m;have r:=λ(g:H)(q:ae g k (ad l 47))=>pN (c:=z4) rfl rfl q o;have s:=λ(g:H)(q:ae g i (ad [J x] 52))=>qF (n:=e) q
 have a:∃tm,aw Z (af Z C (n+1)) ⟨123,U⟩ (f123.body.getD we) ⟨bF [pB k,pB i] 0 .Nl,[],h,O [⟨gI e,G,G⟩]⟩=.c .Nr ⟨tm,[],(h.p k (ad z4 47)).p i (ad [J e] 52),O [⟨gI e,Y,G⟩]⟩:=by simp[f123,gI,asT,an,d,acy,j,p,r,s,f]
 let⟨tm,a⟩:=a;rw[G2];show cB Z (af Z C (n+1)) 123 [pB k,pB i] h (O [⟨gI e,G,G⟩]) (Z.f 123)=_;rw[Hb (vs:=[]) F123 rfl rfl (zq rfl) a (by simp[f123])];rfl
def Pa{c:List E}(a:h.b=0)(b:ae h 2 (ad c 47))(d:I c=4)(f:ae h 3 (ad [J e] 52))(g:aa r 6 (pB 2))(i:aa r 7 (pB 3)):
 fw U (Am.zJ Z r [yB 6 47,yB 7 52] h)=.r (aTu [aAg c,J e]) h U:=by
 have p:zE Z 47 c 0=O (aAg c):=by have:=LJ [] (c:=c) [] d;rw[ye]at this;exact this
 simp[g,i,a,b,f,p];rfl
abbrev LL(b:E)(a:Int)(e:Int):E:=aTu [if e=0 then cJ b a else aAg z4,J e]
def ahF{i:List zB}{l:List Meta}{b:Int}{q:ir}{j:E×zA->zA×Int}{o:zA->zA×Int}(WR:aJ Z prog 33 Aw (λx=>[x.1,D x.2]) (λx=>cj (j x)))(r:∀x,j x=(x.2,0)\/j x=(zT,11))
 (hw:aJ Z prog 185 AT (λt=>[bw i,D t]) (λt=>cj (o t)))(B6:∀t,AT t->aI cC (o t).1)(hl:0<I l/\I l<=1073741824)(hq:q.right=q.left)(Gk:Aw (aC l,q.left))(u:AT q.left):
 ∀p,bP Z prog (zU (za 98) #[] #[]) [bw i,cJ (aC l) b,dB q] p U (.r (LL (aC l) b (two (j (aC l,q.left)) (o q.left)).2) p U):=by
 obtain⟨C,hC,Mq,v,w,A,B,F,L,M,Ir,Dm,N,P,Q⟩:∃C,aR Z prog C/\Has C 33 Aw (λx=>[x.1,D x.2]) (λx=>cj (j x))/\bS C 157 (λ_:Int=>True) (λe=>[J e]) AG/\Has C 185 AT (λt=>[bw i,D t]) (λt=>cj (o t))/\
  Has C 176 (λq:ir=>q.left=q.right/\aI xe q.left) (λq=>[dB q]) (λ_=>J 1)/\Has C 122 (λl:List Meta=>0<I l/\I l<=1073741824) (λl=>[aC l]) aC/\Has C 125 (λ_:Unit=>True) (λ_=>[ba]) (λ_=>ba)/\Has C 126 (λ_:Unit=>True) (λ_=>[ba]) (λ_=>ba)/\
  Has C 124 (λ_:Int=>True) (λe=>[gI e]) (λe=>J e)/\C 158=(λ_ _=>U)/\C 186=(λ_ _=>U)/\C 127=(λ_ _=>U)/\C 156=(λ_ _=>U)/\C 123=(λ_ _=>U):=by
  refine⟨_,aZ (aZ (aZ (aZ (aZ (aZ (jL (aZ aW WR) alm) hw) aqv) aoe) aoc) aod) alp,?_,?_,?_,?_,?_,?_,?_,?_,rfl,rfl,rfl,rfl,rfl⟩
  .exact Has.Sk (by decide) (Has.Sk (by decide) (Has.Sk (by decide) (Has.Sk (by decide) (Has.Sk (by decide) (Has.Sk (by decide) (Has.Sk (by decide) (Has.Ad λx y e=>(by let⟨x1,x2⟩:=x;let⟨y1,y2⟩:=y;simp at e;rw[e.1,cf e.2]))))))))
  .exact bS.skip (by decide) (bS.skip (by decide) (bS.skip (by decide) (bS.skip (by decide) (bS.skip (by decide) (bS.skip (by decide) (bS.add λx y _ _ e=>(by simp at e;rw[e])))))))
  .exact Has.Sk (by decide) (Has.Sk (by decide) (Has.Sk (by decide) (Has.Sk (by decide) (Has.Sk (by decide) (Has.Ad λx y e=>(by simp at e;rw[cf e]))))))
  .exact Has.Sk (by decide) (Has.Sk (by decide) (Has.Sk (by decide) (Has.Sk (by decide) (Has.Ad λx y e=>rfl))))
  .exact Has.Sk (by decide) (Has.Sk (by decide) (Has.Sk (by decide) (Has.Ad λx y e=>(by simp at e;rw[Jw e]))))
  .exact Has.Sk (by decide) (Has.Sk (by decide) (Has.Ad λx y e=>rfl))
  .exact Has.Sk (by decide) (Has.Ad λx y e=>rfl)
  .exact Has.Ad λx y e=>(by simp at e;rw[e])
 have hW:WQ C (bw i) (aC l) q.left (j (aC l,q.left)) (o q.left):=by
  refine⟨Ir,Dm,λn m=>Mq.ev (T:=Z) n (x:=(aC l,q.left)) Gk m,λn e m=>v.ev (T:=Z) n (x:=e) trivial m,λh n m=>?_,λh n m cx sb=>?_⟩
  .have e:(j (aC l,q.left)).1=q.left:=by
    rcases r (aC l,q.left)with e|e
    .rw[e]
    .rw[e]at h;exact absurd (show(11:Int)=0 from h) (by decide)
   rw[e];exact w.ev (T:=Z) n (x:=q.left) u m
  .refine A.ev (T:=Z) n (x:=⟨cx,_,_,sb⟩) ⟨rfl,?_⟩ m;show aI xe (two _ _).1;unfold two;unfold two at h;split
   .exact(B6 _ u).imp λ_ h=>auy h
   .rename_i R;rw[if_neg R]at h;exact absurd h R
 generalize hE:two (j (aC l,q.left)) (o q.left)=a at*;have V:∀n m,af Z C n (aj 122 [aC l] m)=.r (aC l) m U:=λn m=>B.ev (T:=Z) n (x:=l) hl m;have X:∀n m,af Z C n (aj 125 [ba] m)=.r ba m U:=λn m=>F.ev (T:=Z) n (x:=()) trivial m;have awN:∀n m,af Z C n (aj 126 [ba] m)=.r ba m U:=λn m=>L.ev (T:=Z) n (x:=()) trivial m;refine GU (gd:=123) (cap:=OD) tok C hC (.Cs (me i) (.Cs (.agg (.Cs (Ab l) (.Cs (.Gd rfl) (.Cs (.Gd rfl) (.Cs (.Gd rfl) .Nl))))) (.Cs (Zo q) .Nl))) 10 F98 alo rfl ?_;refine ax (auD.Mo (λ_ q=>q) (λ_ q=>q.elim) (λ_ _ q=>q) (λ_ _ q=>q.elim)) λtm h⟨hb,hn,g0,g1,g2,g3,t0,t4,t5,t6,t7⟩=>?_;refine iw (N':=js (lK 123 OD) λf h'=>h'=h/\f.g 0=tm.g 0/\f.g 4=tm.g 4/\f.g 5=tm.g 5/\f.g 6=tm.g 6/\f.g 7=tm.g 7) ?_ λs k=>?_
 .simp[z,f98,t6,t7];exact .mk ⟨rfl,by simp,by simp,by simp,by simp[t6],by simp[t7]⟩
 obtain⟨fQ,h1,rfl,e1,j0,j4,j5,j6,j7⟩:=k.elim;subst e1;refine iw ((auE hb hn g0 g1 g2 g3 (j0.trans t0) (j4.trans t4) (j5.trans t5) (j6.trans t6) (j7.trans t7)).Mo (λ_ q=>q) (λ_ q=>q.elim) (λ_ _ q=>q.elim) (λ_ _ q=>q.elim)) λs k=>?_;obtain⟨jH,h2,rfl,st⟩:=k.elim;rw[aqC];refine iw (N':=js (lK 123 OD) (Qt (cM (aC l) b) [bw i,aC l,ba,ba,J b,zL (O ⟨4,0,U⟩) 1 1] q)) ?_ λs k=>?_
 .rw[eg];exact(auF rfl st (V _) (X _) (awN _)).Mo (λ_ q=>q) (λ_ q=>q.elim) (λ_ _ q=>q.elim) (λ_ _ q=>q.elim)
 obtain⟨ru,h3,rfl,st⟩:=k.elim;let⟨b3,nx3,g03,g23,g33,g43,g53,t43,t63,t73,t83⟩:=st;let⟨h4,b4,k4,d⟩:=asP (n:=6) (W:=5) (S:=4) N P hW hq b3 (by omega) (by omega) (by decide) g53 g43;rw[hE]at d;have g24:h4.g 2=O (K z4 47 G):=by rw[k4.get 2 (by omega) (by decide)];exact g23
 have g34:h4.g 3=O (K [J 0] 52 G):=by rw[k4.get 3 (by omega) (by decide)];exact g33
 rcases d with⟨e0,g54,d⟩|⟨e0,d⟩
 .refine iw (N':=js (lK 123 OD) λf h'=>h'=h4/\f.g 6=O (pB 2)/\f.g 7=O (pB 3)/\f.g 8=O (pB 5)) ?_ λs k=>?_
  .simp[z,f98,t83,d];exact .mk ⟨rfl,by simp[t63],by simp[t73],by simp[t83]⟩
  obtain⟨Cb,h5,rfl,e5,u6,u7,u8⟩:=k.elim;subst e5;have WS:zE Z 47 [bw i,aC l,ba,ba,J b,zL (O ⟨4,0,U⟩) 0 1] 1=O (cJ (aC l) b):=LJ [bw i] (c:=cM (aC l) b) [zL (O ⟨4,0,U⟩) 0 1] rfl;have s1:=λ(p:H)(g:p.g 2=O (K z4 47 G))=>pN (c:=cM (aC l) b) rfl rfl g rfl;have s2:=λ(p:H)(g:p.g 3=O (K [J 0] 52 G))=>qF (n:=0) g;simp[z,f98,u6,u7,u8,fT,fZ,b4,g54,WS,g24,g34,s1,s2];refine⟨rfl,rfl,_,_,_,_,aqF Q,Pa (c:=cM (aC l) b) (e:=0) (by simp[b4]) (by simp) rfl (by simp) (by simp[u6]) (by simp[u7]),?_⟩;rw[e0];exact .Tt (.Cs (.Pu (.agg (.Cs (Ab l) (.Cs (.Gd rfl) (.Cs (.Gd rfl) (.Cs (.Gd rfl) .Nl)))))) (.Cs (.Pu (.Gd rfl)) .Nl))
 .refine iw (N':=λ_=>False) ?_ (λ_ q=>q.elim);simp[z,f98,t83,d];refine⟨rfl,rfl,_,_,_,_,_,aqG M b4 g24 rfl g34 (by decide),rfl,Pa (c:=z4) (e:=a.2) (by simp[b4]) (by simp) rfl (by simp) (by simp[t63]) (by simp[t73]),?_⟩;show DV _ _ (aTu [if a.2=0 then cJ (aC l) b else aAg z4,J a.2])
  rw[if_neg e0];exact .Tt (.Cs (.Pu (.agg (.Cs (.Gd rfl) (.Cs (.Gd rfl) (.Cs (.Gd rfl) (.Cs (.Gd rfl) .Nl)))))) (.Cs (.Pu (.Gd rfl)) .Nl))
end Go.Proofs.YtpeialehpoilbaaGreat
namespace Go.Am
def UF:ag->Option (Nat×Nat×E×Option ai)
 |.r (.tuple ⟨[zL (O ⟨b,0,U⟩) n k,e]⟩) h U=>O (n,k,e,h.g b)
 |_=>U
def aof{a:ag}{e:E}{o:Option ai}(h:UF a=O (n,k,e,o)):∃b m,a=.r (aTu [zL (pO b) n k,e]) m U/\m.g b=o:=by
 unfold UF at h;split at h
 .injection h with h;injection h with c h;injection h with d h;injection h with f g;subst c;subst d;subst f;exact⟨_,_,rfl,g⟩
 .cases h
end Go.Am
namespace Go.Proofs.YtpeialehpoilbaaGreat
section
abbrev dl(t v:zA)(c:Bool):Meta:=⟨t,G,v,c⟩
abbrev fI(t:zA)(c:Bool):Meta:=⟨t,Y,eR,c⟩
def Aj(l:List Meta)(a:Int):bH (cJ (aC l) a):=.agg (.Cs (Ab l) HY)
def x99(b:List zB)(t v:zA)(c:Bool)(a:Int):Ps (cB Z (af Z cg 200) 99 [bw b,cJ (aC [dl t v c]) a] H.e U (Z.f 99))=O (aTu [cJ (aC [dl t v c]) a,J 0]):=by kernel_rfl
def aqH:aJ Z prog 99 (λ_:(List zB×zA×zA)×Bool×Int=>True) (λx=>[bw x.1.1,cJ (aC [dl x.1.2.1 x.1.2.2 x.2.1]) x.2.2]) (λx=>aTu [cJ (aC [dl x.1.2.1 x.1.2.2 x.2.1]) x.2.2,J 0]):=by rintro⟨⟨a,t,v⟩,c,b⟩ _ d;let⟨m,e⟩:=Zy (x99 a t v c b);exact CK tok cg aW (.Cs (me a) (.Cs (Aj _ _) .Nl)) _ e (.Pu (.Tt (.Cs (Aj _ _) dF))) d
def awO(t v:zA)(c:Bool):UF (cB Z (af Z cg 2000) 100 [aC [dl t v c],J 0,D eR] H.e U (Z.f 100))=O (1,1,J 0,O (K (ah (fE (fI t c))) 42 Y)):=by kernel_rfl
def alq:aJ Z prog 100 (λ_:zA×zA×Bool=>True) (λx=>[aC [dl x.1 x.2.1 x.2.2],J 0,D eR]) (λx=>aTu [aC [fI x.1 x.2.2],J 0]):=by rintro⟨t,v,c⟩ _ a;let⟨b,m,e,d⟩:=aof (awO t v c);refine CK tok cg aW (.Cs (Ab _) (.Cs bJ (.Cs (bg _) .Nl))) _ e (.Tt (.Cs ?_ ka)) a;exact .slice (pre:=[]) (post:=[]) (es:=[fE (fI t c)]) (sz:=12) (e:=42) (gr:=Y) (by rw[d];simp) rfl (λx f=>by rw[yi.1 f];rfl) rfl (zR _) (.Cs (.Pu (Ry _)) .Nl)
end
def aog:aJ Z prog 117 LI (λx=>[bw x.1,zN x.2,ba]) (λx=>cj (nk x,0)):=by
 rintro⟨a,s⟩ ⟨i,e,g,r,o⟩ j;have i:nA a:=i;have g:fM s 0 a=O e:=g;let⟨p,b⟩:=adV
 obtain⟨C,u,k,c⟩:∃C,aR Z prog C/\Has C 95 (λx:List zB×ByteArray=>nA x.1) (λx=>[bw x.1,zN x.2]) (λx=>nH x.1 x.2)/\C 154=HZ (gq C2 (λx:zA×List aB=>[D x.1,aO x.2]) (λx=>cj (p x.1 x.2))):=
  ⟨_,Q4 (aZ (aZ aW Ks) b.fn),Has.Sk (by decide) (Has.Ad λx y e=>(by let⟨v,w⟩:=x;let⟨A,B⟩:=y;simp at e;rw[pF e.1,e.2])),rfl⟩
 have l:∀n m,af Z C n (aj 95 [bw a,zN s] m)=.r (aTu [ee e,J 0]) m U:=λn m=>by have:=k.ev (T:=Z) n (x:=(a,s)) i m;unfold nH at this;simp only[g]at this;exact this
 have d:∀n m,af Z C n (aj 154 [D e.type,ba] m)=.r (cj (e.type,0)) m U:=λn m=>by
  refine TJ c n ?_;have F:[D e.type,ba].map dj=[D e.type,aO []]:=by rw[eD];rfl
  rw[F]
  have:=Bl (pre:=C2) (enc:=λx:zA×List aB=>[D x.1,aO x.2]) (f:=λx=>cj (p x.1 x.2)) (λx y e=>by let⟨v,w⟩:=x;let⟨A,B⟩:=y;simp at e;rw[cf e.1,qy e.2]) (x:=(e.type,[])) (o.imp λt h=>jI.Qh (by unfold ao;simp) (by simp) (h.1.pr 0)) m
  rw[this,b.nil o]
 have L:nk (a,s)=e.type:=by unfold nk;simp only[g]
 refine jf tok C u (.Cs (me a) pZ) 1 F117 rfl rfl ?_ j;show ay (bG Z [yB 6 31,yx 7] _ (.ret (cj (nk (a,s),0)))) (bG Z [yB 6 31,yx 7] _ (.ret (cj (nk (a,s),0)))) _ _ _;rw[L];have M:=λ(j:H)(q:ae j 1 (ad z9 163))=>mS (x:=e) q rfl;simp[l,d,an,M,r];exact bG.Pu (JN _) (by simp)
def F96:Z.f 96=O f96:=by kernel_rfl
abbrev cU(s:St)(k:Int):List E:=jt s++[J k]
def Eo{s:St}(h:s.Ok)(k:Int):bX (cU s k):=by have:=Ej h;exact bX.append (.Cs (me _) (.Cs h.impl (.Cs (lj _) (.Cs (lj _) (.Cs h.lL (.Cs h.ns (.Cs h.opens .Nl))))))) dF
@[simp] theorem aFt:aX Z h 110 0 (O (zM (O ⟨n,k,U⟩)))=.v (zM (O ⟨n,k,U⟩)) h:=by kernel_rfl
@[simp] theorem aFu:aX Z h 110 1 (O (zM (O ⟨n,k,U⟩)))=.v (zM (O ⟨n,k+7,U⟩)) h:=by kernel_rfl
@[simp] theorem aDr:aX Z h 130 0 (O (zM (O ⟨n,k,U⟩)))=.v (zM (O ⟨n,k,U⟩)) h:=by kernel_rfl
@[simp] theorem aDs:aX Z h 130 1 (O (zM (O ⟨n,k,U⟩)))=.v (zM (O ⟨n,k+1,U⟩)) h:=by kernel_rfl
abbrev l9:E:=aAg [J 0,zN bR]
def aaN:bH l9:=.agg pZ
structure IW where
 st:St
 k:Int
 KL:List Meta
 aQ:Int
def IW.Ok(x:IW):Prop:=x.st.Ok/\LI (x.st.env,bR)
abbrev Cl(x:IW):E:=aTu [cJ (aC x.KL) x.aQ,D eR,D (nk (x.st.env,bR)),J 0]
def alr:f96.body=O (zS (z f96 pF0) (zS (z f96 pF1) (zS (z f96 pF2) (zS (z f96 pF3) (zS (z f96 pF4) (zS (z f96 pF5) (zS (z f96 pF6) (zS (z f96 pF7) .ret)))))))):=rfl
def Pb:Array yH:=bq (z f96 pF2)
def OE:Array yH:=bq (z f96 pF6)
def OF:Array yH:=bq (z f96 pF7)
def aoh:z f96 pF2=yM 4 Pb Y:=rfl
def als:z f96 pF6=yM 13 OE Y:=rfl
def alt:z f96 pF7=yM 14 OF Y:=rfl
def UG:Tr Nat:=bj Pb.toList 0 .Nl
def T3:Tr Nat:=bj OE.toList 0 .Nl
def KE:Tr Nat:=bj OF.toList 0 .Nl
def aoi:(aN (aE UG 12) 11)=Y:=by kernel_rfl
def alu:(aN (aE T3 14) 13)=Y:=by kernel_rfl
def alv:(aN (aE KE 5) 4&&aN (aE KE 6) 4&&aN (aE KE 6) 5)=Y:=by kernel_rfl
def p28(c:List E)(a:Nat):zE Z 28 c a=c[a]?:=dK (show Am.zK Z 28=O G by kernel_rfl) c a
def Pc:zE Z 9 [J 0,zN bR] 1=O (zN bR):=by kernel_rfl
abbrev BE:List E:=[J 3,J 0,zN bR,ba,ba]
def aqI:eK Z h 31 (O (aAg z5)) (O [(0,J 3),(2,zN bR)])=.v (aAg BE) h:=by kernel_rfl
structure Hd(s:St)(k:Int)(l:List Meta)(aQ:Int)(n:Nat)(tm:Tr E)(h:H):Prop where
 b:h.b=0
 nx:h.n=n
 g0:ae h 0 (ad (cU s k) 110)
 g1:ae h 1 (ad (cM (aC l) aQ) 47)
 g2:ae h 2 (ad [J 0,zN bR] 130)
 g3:ae h 3 (ad z4 47)
 g4:ae h 4 (ad z5 31)
 g5:ae h 5 (ad z5 31)
 t0:aa tm 0 (pB 0)
 t5:aa tm 5 (pB 1)
 t7:aa tm 7 (pB 2)
 t8:aa tm 8 (pB 3)
 t9:aa tm 9 (pB 4)
 t10:aa tm 10 (pB 5)
 t11:aa tm 11 (J 0)
abbrev Vi(b:Nat)(x:IW):List E:=[pB b,cJ (aC x.KL) x.aQ,al [],l9]
def asU:AY Z prog 96 110 G IW.Ok Vi (λx=>cU x.st x.k) (λx=>cU x.st x.k) (λx=>.ret (Cl x)):=by
 rintro⟨s,k,l,a⟩ ⟨M,N,e,P,V,ht⟩ h b f;have M:s.Ok:=M;have N:nA s.env:=N;have P:fM bR 0 s.env=O e:=P;have hT:LI (s.env,bR):=⟨N,e,P,V,ht⟩
 obtain⟨C,hC,Q,v⟩:∃C,aR Z prog C/\Has C 95 (λx:List zB×ByteArray=>nA x.1) (λx=>[bw x.1,zN x.2]) (λx=>nH x.1 x.2)/\Has C 117 LI (λx=>[bw x.1,zN x.2,ba]) (λx=>cj (nk x,0)):=
  ⟨_,aZ (aZ aW Ks) aog,Has.Sk (by decide) (Has.Ad λx y e=>(by let⟨x1,x2⟩:=x;let⟨y1,y2⟩:=y;simp at e;rw[pF e.1,e.2])),Has.Ad λx y e=>(by let⟨x1,x2⟩:=x;let⟨y1,y2⟩:=y;simp at e;rw[pF e.1,e.2])⟩
 have R:∀n m,af Z C n (aj 95 [bw s.env,zN bR] m)=.r (aTu [ee e,J 0]) m U:=λn m=>by have:=Q.ev (T:=Z) n (x:=(s.env,bR)) N m;unfold nH at this;simp only[P]at this;exact this
 have w:∀n m,af Z C n (aj 117 [bw s.env,zN bR,ba] m)=.r (cj (nk (s.env,bR),0)) m U:=λn m=>v.ev (T:=Z) n (x:=(s.env,bR)) hT m;refine gJ.toM (a0:=Vi 0 ⟨s,k,l,a⟩) (C:=C) (n:=4) tok hC (lm F96 alr rfl ?_) (.Cs (.ptr 0) (.Cs (.pure (Aj _ _)) (.Cs (.pure (fb _)) (.Cs (.pure aaN) .nil)))) (λm a' q=>nV m a' q) (Eo M k) (Eo M k) f;show ay (cn Z [yB 8 47,yB 9 31,yB 10 31,yx 11] 110 G (.ret (Cl ⟨s,k,l,a⟩)) (cU s k)) (cn Z [yB 8 47,yB 9 31,yB 10 31,yx 11] 110 G (.ret (Cl ⟨s,k,l,a⟩)) (cU s k)) ap (dD 110 G (.ret (Cl ⟨s,k,l,a⟩)) (cU s k)) _;refine ax (Q0:=Hd s k l a 6) ?_ λd h o=>?_
 .simp[z,f96];exact .mk ⟨by simp,by simp,by simp,by simp,by simp,by simp,by simp,by simp,by simp,by simp,by simp,by simp,by simp,by simp,by simp⟩
 refine ax (Q0:=Hd s k l a 6) ?_ λd h o=>?_
 .let⟨f,nx,g0,g1,g2,g3,g4,g5,t0,t5,t7,t8,t9,t10,t11⟩:=o;simp[z,f96,t7,f,g2,Pc];exact .mk ⟨f,nx,g0,g1,g2,g3,g4,g5,by simp[t0],by simp[t5],by simp[t7],by simp[t8],by simp[t9],by simp[t10],by simp[t11]⟩
 refine ax (Q0:=λd h=>Hd s k l a 7 d h/\ae h 6 (ad (ew e) 163)/\aa d 14 (pB 6)/\aa d 15 (J 0)) ?_ λd h⟨o,r,j,i⟩=>?_
 .let⟨f,nx,g0,g1,g2,g3,g4,g5,t0,t5,t7,t8,t9,t10,t11⟩:=o;rw[aoh,eg,dJ];have A:=aoi;have B:bj Pb.toList 0 .Nl=UG:=rfl;rw[B];generalize UG=W at*;have l0:0<h.n:=by omega
  have l2:2<h.n:=by omega
  have F:=λ(t:H)(q:ae t 6 (ad z9 163))=>mS (x:=e) q rfl;simp[Pb,bq,z,f96,fT,fZ,t0,t7,f,nx,g0,g2,Fy,Pc,R,F,cV,cZ,cY,dc,dt,cO,cR,A];exact .mk ⟨⟨by simp[f],by simp[nx],by simp[nx,g0],by simp[nx,g1],by simp[nx,g2],by simp[nx,g3],by simp[nx,g4],by simp[nx,g5],by simp[t0],by simp[t5],by simp[t7],by simp[t8],by simp[t9],by simp[t10],by simp[t11]⟩,by simp,by simp,by simp⟩
 refine ax (Q0:=λd h=>Hd s k l a 7 d h/\ae h 6 (ad (ew e) 163)/\aa d 14 (pB 6)/\aa d 15 (J 0)) ?_ λd h⟨o,r,j,i⟩=>?_
 .let⟨f,nx,g0,g1,g2,g3,g4,g5,t0,t5,t7,t8,t9,t10,t11⟩:=o;simp[z,f96,i,an];exact .mk ⟨⟨f,nx,g0,g1,g2,g3,g4,g5,by simp[t0],by simp[t5],by simp[t7],by simp[t8],by simp[t9],by simp[t10],by simp[t11]⟩,r,by simp[j],by simp[i]⟩
 refine ax (Q0:=λd h=>Hd s k l a 8 d h/\ae h 6 (ad (ew e) 163)/\ae h 7 (ad BE 31)/\aa d 14 (pB 6)/\aa d 15 (J 0)/\aa d 16 (pB 7)) ?_ λd h⟨o,r,u,j,i,p⟩=>?_
 .let⟨f,nx,g0,g1,g2,g3,g4,g5,t0,t5,t7,t8,t9,t10,t11⟩:=o;have F:=λ(t:H)(q:ae t 7 (ad z5 31))=>fp (c:=BE) rfl rfl q rfl;simp[z,f96,t7,f,nx,g2,Pc,aqI,F];exact .mk ⟨⟨by simp[f],by simp[nx],by simp[nx,g0],by simp[nx,g1],by simp[nx,g2],by simp[nx,g3],by simp[nx,g4],by simp[nx,g5],by simp[t0],by simp[t5],by simp[t7],by simp[t8],by simp[t9],by simp[t10],by simp[t11]⟩,by simp[nx,r],by simp,by simp[j],by simp[i],by simp⟩
 refine ax (Q0:=λd h=>Hd s k l a 8 d h/\ae h 6 (ad (ew e) 163)/\ae h 7 (ad BE 31)/\aa d 14 (pB 6)/\aa d 15 (J 0)/\aa d 16 (pB 7)) ?_ λd h⟨o,r,u,j,i,p⟩=>?_
 .let⟨f,nx,g0,g1,g2,g3,g4,g5,t0,t5,t7,t8,t9,t10,t11⟩:=o;simp[z,f96,j,r,f,V,an,fJ];exact .mk ⟨⟨f,nx,g0,g1,g2,g3,g4,g5,by simp[t0],by simp[t5],by simp[t7],by simp[t8],by simp[t9],by simp[t10],by simp[t11]⟩,r,u,by simp[j],by simp[i],by simp[p]⟩
 refine ax (Q0:=λd h=>Hd s k l a 9 d h/\ae h 7 (ad BE 31)/\ae h 8 (ad (ah (D (nk (s.env,bR)))) 31)/\aa d 16 (pB 7)/\aa d 17 (pB 8)/\aa d 15 (J 0)) ?_ λd h⟨o,u,g8,p,S,i⟩=>?_
 .let⟨f,nx,g0,g1,g2,g3,g4,g5,t0,t5,t7,t8,t9,t10,t11⟩:=o;rw[als,eg,dJ];have A:=alu;have B:bj OE.toList 0 .Nl=T3:=rfl;rw[B];generalize T3=W at*;have l0:0<h.n:=by omega
  have l2:2<h.n:=by omega
  have l7:7<h.n:=by omega
  simp[OE,bq,z,f96,fT,fZ,t0,t7,p,f,nx,g0,g2,u,Fy,p28,Pc,w,cV,cZ,cY,dc,dt,cO,cR,A];exact .mk ⟨⟨by simp[f],by simp[nx],by simp[nx,g0],by simp[nx,g1],by simp[nx,g2],by simp[nx,g3],by simp[nx,g4],by simp[nx,g5],by simp[t0],by simp[t5],by simp[t7],by simp[t8],by simp[t9],by simp[t10],by simp[t11]⟩,by simp[nx,u],by simp,by simp[p],by simp,by simp⟩
 rw[alt];let⟨f,nx,g0,g1,g2,g3,g4,g5,t0,t5,t7,t8,t9,t10,t11⟩:=o;rw[run_seq,eg,dJ];have X:=alv;simp only[zX]at X;let⟨⟨A,b2⟩,b3⟩:=X;have B:bj OF.toList 0 .Nl=KE:=rfl;rw[B];generalize KE=W at*;have l1:1<h.n:=by omega
 have l7:7<h.n:=by omega
 have l8:8<h.n:=by omega
 have l3:3<h.n:=by omega
 have l4:4<h.n:=by omega
 have l5:5<h.n:=by omega
 have pL:=fh (c:=BE) rfl
 have L:zE Z 47 (cM (aC l) a) 0=O (cJ (aC l) a):=by have:=LJ [] (c:=cM (aC l) a) [] rfl;rw[ye]at this;exact this
 have F:=λ(t:H)(g:ae t 3 (ad z4 47))=>pN (c:=cM (aC l) a) rfl rfl g rfl;have s2:=λ(t:H)(g:ae t 4 (ad z5 31))=>fp (c:=BE) rfl rfl g rfl;simp[OF,bq,z,f96,t5,t8,t9,t10,i,p,S,f,nx,g1,g3,g4,g5,u,g8,pL,L,F,s2,cV,cZ,cY,dc,dt,cO,cR,A,b2,b3];refine⟨rfl,rfl,aTu [cJ (aC l) a,aAg BE,D (nk (s.env,bR)),J 0],_,((h.p 3 (ad (cM (aC l) a) 47)).p 4 (ad BE 31)).p 5 (ad (ah (D (nk (s.env,bR)))) 31),rfl,?_,?_,by simp[g0]⟩
 .simp[t8,t9,t10,f,pL,L]
 .refine .Tt (.Cs (.Pu (Aj _ _)) (.Cs ?_ (.Cs (.Pu (bg _)) ka)));rw[eR,By];exact .agg (.Cs eI (.Cs eI (.Cs eI (.Cs .cP (.Cs .cP .Nl)))))
end Go.Proofs.YtpeialehpoilbaaGreat
namespace Go.Am.Eu
abbrev ik(e:Int):E:=vv 106 (aAg [J e])
def RB(e:Int):bH (ik e):=.iface 106 (.agg dF)
def C4(e:Int):MO:=if e=11 then .aU (ik 11)else .ret (zP (decide (e≠0)))
end Go.Am.Eu
namespace Go.Proofs.YtpeialehpoilbaaGreat
def F68:Z.f 68=O f68:=by kernel_rfl
def F72:Z.f 72=O f72:=by kernel_rfl
def asV:eK Z h 106 (O (aAg [J 0])) (O [(0,J e)])=.v (aAg [J e]) h:=by kernel_rfl
@[simp] theorem aJi:zero Z 106=O (aAg [J 0]):=by kernel_rfl
def auG:Bi h 106 (Z.u 106) (O (aAg [J e]))=.v (ik e) h:=by kernel_rfl
def aaO:kg Z prog 68 (λ_:Int=>True) (λe=>[J e]) C4:=by
 intro e _ b;refine mi tok cg aW dF 1 F68 rfl rfl ?_ b;unfold C4;by_cases a:e=11
 .rw[if_pos a];subst a;simp[f68,asV,auG,an];exact iX.pure (RB 11)
 .rw[if_neg a];simp[f68,a,an];exact bG.Pu bJ (by simp)
def adi:eK Z h 73 (O (aAg Vg)) (O [(0,al []),(1,D a),(2,D d)])=.v (dB ⟨[],a,d,G⟩) h:=by rw[eD,eD];kernel_rfl
structure xh where
 st:St
 k:Int
 t:zA
 v:zA
 c:Bool
 aQ:Int
 bU:Int
abbrev PF(b:Nat)(x:xh):List E:=[pB b,cJ (aC [dl x.t x.v x.c]) x.aQ,J 0,J x.bU,al [],D x.t,l9]
abbrev C5(x:xh)(e:Int):MO:=if e=0 then .ret (aTu [cJ (aC [fI x.t x.c]) x.aQ,zP Y])else .aU (ik e)
def alw:f72.body=O (zS (z f72 pF0) (zS (z f72 pF1) (zS (z f72 pF2) (zS (z f72 pF3) (zS (z f72 pF4) (zS (z f72 pF5) (zS (z f72 pF6) (zS (z f72 pF7) (zS (z f72 pF8) (zS (z f72 pF9) .ret)))))))))):=rfl
structure TrB(x:xh)(mv:E)(n:Nat)(tm:Am.Tr E)(h:H):Prop where
 b:h.b=0
 nx:h.n=n
 g0:ae h 0 (ad (cU x.st x.k) 110)
 g1:ae h 1 (ad (cM mv x.aQ) 47)
 g2:ae h 2 (ad (ah (D x.t)) 31)
 g3:ae h 3 (ad [J 0,zN bR] 130)
 g4:ae h 4 (ad z4 47)
 t0:aa tm 0 (pB 0)
 t2:aa tm 2 (J 0)
 t4:aa tm 4 (al [])
 t8:aa tm 8 (pB 1)
 t12:aa tm 12 (pB 2)
 t13:aa tm 13 (pB 3)
 t14:aa tm 14 (pB 4)
 t15:aa tm 15 (zP G)
def BY(l:List E)(h:I l=4):zE Z 47 l 0=O (aAg l):=by have:=LJ [] (c:=l) [] h;rw[ye]at this;exact this
def UH:zE Z 130 [J 0,zN bR] 0=O l9:=by kernel_rfl
section
variable{ev:zC->ag}{x:xh}{tm:Am.Tr E}{h:H}{l:List Meta}
def auH:ay (bB (TrB x (aC [dl x.t x.v x.c]) 5)) ca ap ap (aF Z ev 72 (z f72 pF0) (bF (PF 0 x) 0 .Nl) (H.e.w (ad (cU x.st x.k) 110))):=by simp[z,f72];exact .mk ⟨by simp,by simp,by simp,by simp,by simp,by simp,by simp,by simp,by simp,by simp,by simp,by simp,by simp,by simp,by simp⟩
def auI(d:TrB x (aC l) 5 tm h)(a:∀m:H,ae m 0 (ad (cU x.st x.k) 110)->ev (aj 96 [pB 0,cJ (aC l) x.aQ,al [],l9] m)=.r (aTu [cJ (aC l) x.aQ,D eR,D x.t,J 0]) (m.p 0 (ad (cU x.st x.k) 110)) U):
 ay (bB λtm h=>TrB x (aC l) 7 tm h/\ae h 5 (ad (ah (D eR)) 31)/\ae h 6 (ad (ah (D x.t)) 31)/\aa tm 16 (pB 5)/\aa tm 17 (pB 6)/\aa tm 18 (J 0)) ca ap ap (aF Z ev 72 (z f72 pF1) tm h):=by
 let⟨b,nx,g0,g1,g2,g3,g4,t0,t2,t4,t8,t12,t13,t14,t15⟩:=d;have e:=BY (cM (aC l) x.aQ) rfl;have f:=λ(i:H)(g:ae i 1 (ad (cM (aC l) x.aQ) 47))=>pN (c:=cM (aC l) x.aQ) rfl rfl g rfl;simp[z,f72,t0,t8,t4,t13,b,nx,g0,g1,g3,e,UH,a,f];exact .mk ⟨⟨by simp[b],by simp[nx],by simp[nx],by simp,by simp[nx,g2],by simp[nx,g3],by simp[nx,g4],by simp[t0],by simp[t2],by simp[t4],by simp[t8],by simp[t12],by simp[t13],by simp[t14],by simp[t15]⟩,by simp,by simp,by simp,by simp,by simp⟩
structure Tq(x:xh)(mv:E)(tm:Am.Tr E)(h:H):Prop where
 st:TrB x mv 7 tm h
 g5:ae h 5 (ad (ah (D eR)) 31)
 g6:ae h 6 (ad (ah (D x.t)) 31)
 t16:aa tm 16 (pB 5)
 t17:aa tm 17 (pB 6)
def auJ(q:Tq x v tm h)(a:aa tm 18 (J 0))(b:∀m,ev (aj 68 [J 0] m)=.r (zP G) m U):
 ay (bB (Tq x v)) ca ap ap (aF Z ev 72 (z f72 pF2) tm h):=by
 let⟨st,g5,g6,t16,t17⟩:=q;let⟨c,nx,g0,g1,g2,g3,g4,t0,t2,t4,t8,t12,t13,t14,t15⟩:=st;simp[z,f72,a,b,an];exact .mk ⟨⟨c,nx,g0,g1,g2,g3,g4,by simp[t0],by simp[t2],by simp[t4],by simp[t8],by simp[t12],by simp[t13],by simp[t14],by simp[t15]⟩,g5,g6,by simp[t16],by simp[t17]⟩
def auK(q:Tq x v tm h):ay (bB λtm h=>Tq x v tm h/\aa tm 19 ba) ca ap ap (aF Z ev 72 (z f72 pF3) tm h):=by let⟨st,g5,g6,t16,t17⟩:=q;let⟨a,nx,g0,g1,g2,g3,g4,t0,t2,t4,t8,t12,t13,t14,t15⟩:=st;simp[z,f72];exact .mk ⟨⟨⟨a,nx,g0,g1,g2,g3,g4,by simp[t0],by simp[t2],by simp[t4],by simp[t8],by simp[t12],by simp[t13],by simp[t14],by simp[t15]⟩,g5,g6,by simp[t16],by simp[t17]⟩,by simp⟩
def auL(q:Tq x v tm h)(a:aa tm 19 ba)(c:x.t.w≠6):ay (bB λtm h=>Tq x v tm h/\aa tm 19 ba) ca ap ap (aF Z ev 72 (z f72 pF4) tm h):=by let⟨st,g5,g6,t16,t17⟩:=q;let⟨b,nx,g0,g1,g2,g3,g4,t0,t2,t4,t8,t12,t13,t14,t15⟩:=st;simp[z,f72,t17,g6,b,c,an,fJ];exact .mk ⟨⟨⟨b,nx,g0,g1,g2,g3,g4,by simp[t0],by simp[t2],by simp[t4],by simp[t8],by simp[t12],by simp[t13],by simp[t14],by simp[t15]⟩,g5,g6,by simp[t16],by simp[t17]⟩,by simp[a]⟩
def HG:Array yH:=bq (z f72 [Y,Y,Y,Y,Y,G,G])
def OG:Array yH:=bq (z f72 [Y,Y,Y,Y,Y,Y,G,G])
def OH:Array yH:=bq (z f72 [Y,Y,Y,Y,Y,Y,Y,G,G])
def asW:z f72 pF5=zS (yM 17 HG Y) (z f72 [Y,Y,Y,Y,Y,G,Y]):=rfl
def asX:z f72 pF6=zS (yM 20 OG Y) (z f72 [Y,Y,Y,Y,Y,Y,G,Y]):=rfl
def asY:z f72 pF7=zS (yM 23 OH Y) (z f72 [Y,Y,Y,Y,Y,Y,Y,G,Y]):=rfl
def T4:Am.Tr Nat:=bj HG.toList 0 .Nl
def T5:Am.Tr Nat:=bj OG.toList 0 .Nl
def T6:Am.Tr Nat:=bj OH.toList 0 .Nl
def aqJ:aN (aE T4 14) 5=Y:=by kernel_rfl
def aqK:aN (aE T5 10) 5=Y:=by kernel_rfl
def aqL:aN (aE T6 11) 1=Y:=by kernel_rfl
def auM(q:Tq x (aC l) tm h)(j:aa tm 19 ba)(b:∀m,ev (aj 98 [bw x.st.env,cJ (aC l) x.aQ,dB ⟨[],x.t,x.t,G⟩] m)=.r (LL (aC l) x.aQ e) m U)(B:e=0\/e=11)(d:∀m,ev (aj 68 [J e] m)=(C4 e).bi m):
 ay (bB λtm h=>e=0/\Tq x (aC l) tm h/\aa tm 19 ba) ca ap (λQ s=>s.df=[]/\s.ab=U/\e=11/\Q=[⟨ik 11,G,G⟩]/\s.h.g 0=O (ad (cU x.st x.k) 110)) (aF Z ev 72 (z f72 pF5) tm h):=by
 let⟨st,g5,g6,t16,t17⟩:=q;let⟨k,nx,g0,g1,g2,g3,g4,t0,t2,t4,t8,t12,t13,t14,t15⟩:=st;rw[asW];have C:0<h.n:=by omega
 have F:1<h.n:=by omega
 have L:2<h.n:=by omega
 have M:6<h.n:=by omega
 have N:=BY (cM (aC l) x.aQ) rfl
 have n:ay (bB λa o=>o=h.p 1 (ad (if e=0 then cM (aC l) x.aQ else z4) 47)/\aa a 18 (J e)/\a.g 0=tm.g 0/\a.g 2=tm.g 2/\a.g 4=tm.g 4/\a.g 8=tm.g 8/\a.g 12=tm.g 12/\a.g 13=tm.g 13/\a.g 14=tm.g 14/\a.g 15=tm.g 15/\a.g 16=tm.g 16/\a.g 17=tm.g 17/\a.g 19=tm.g 19) ca ap ap (jN Z ev ⟨72,U⟩ HG Y ⟨tm,[],h,U⟩):=by
  rw[dJ];have P:=aqJ;have R:bj HG.toList 0 .Nl=T4:=rfl;rw[R];generalize T4=bs at*;have S:=λ(p:H)(g:ae p 1 (ad (cM (aC l) x.aQ) 47))=>pN (c:=cM (aC l) x.aQ) rfl rfl g rfl;have T:=λ(p:H)(g:ae p 1 (ad (cM (aC l) x.aQ) 47))=>pN (c:=z4) rfl rfl g rfl;rcases B with rfl|rfl
  .have b:∀m,ev (aj 98 [bw x.st.env,cJ (aC l) x.aQ,dB ⟨[],x.t,x.t,G⟩] m)=.r (aTu [cJ (aC l) x.aQ,J 0]) m U:=b;simp[HG,bq,z,f72,fT,fZ,t0,t4,t8,t12,t17,k,g0,g1,g2,g6,C,F,L,M,Fy,N,adi,b,S,cV,cZ,cY,dc,dt,cO,cR,P];exact .mk ⟨rfl,by simp,by simp[t0],by simp,by simp[t4],by simp[t8],by simp[t12],by simp,by simp,by simp,by simp,by simp[t17],by simp⟩
  .have b:∀m,ev (aj 98 [bw x.st.env,cJ (aC l) x.aQ,dB ⟨[],x.t,x.t,G⟩] m)=.r (aTu [aAg z4,J 11]) m U:=b;simp[HG,bq,z,f72,fT,fZ,t0,t4,t8,t12,t17,k,g0,g1,g2,g6,C,F,L,M,Fy,N,adi,b,T,cV,cZ,cY,dc,dt,cO,cR,P];exact .mk ⟨rfl,by simp,by simp[t0],by simp,by simp[t4],by simp[t8],by simp[t12],by simp,by simp,by simp,by simp,by simp[t17],by simp⟩
 refine ax (Q0:=λa o=>o=h.p 1 (ad (if e=0 then cM (aC l) x.aQ else z4) 47)/\aa a 18 (J e)/\a.g 0=tm.g 0/\a.g 2=tm.g 2/\a.g 4=tm.g 4/\a.g 8=tm.g 8/\a.g 12=tm.g 12/\a.g 13=tm.g 13/\a.g 14=tm.g 14/\a.g 15=tm.g 15/\a.g 16=tm.g 16/\a.g 17=tm.g 17/\a.g 19=tm.g 19) ?_ λV h1⟨f,i,W,X,j4,j8,r,t,u,v,w,y,A⟩=>?_
 .rw[eg];exact n.Mo fP dN aP aP
 rcases B with rfl|rfl
 .have d:∀m,ev (aj 68 [J 0] m)=.r (zP G) m U:=λm=>by rw[d];rfl
  simp[z,f72,i,d,an];refine .mk ⟨⟨⟨by simp[f,k],by simp[f,nx],by simp[f,g0],by simp[f],by simp[f,g2],by simp[f,g3],by simp[f,g4],by simp[W,t0],by simp[X,t2],by simp[j4,t4],by simp[j8,t8],by simp[r,t12],by simp[t,t13],by simp[u,t14],by simp[v,t15]⟩,by simp[f,g5],by simp[f,g6],by simp[w,t16],by simp[y,t17]⟩,by simp[A,j]⟩
 .have d:∀m,ev (aj 68 [J 11] m)=.p [⟨ik 11,G,G⟩] m U:=λm=>by rw[d];rfl
  simp[z,f72,i,d];simp[f,g0]
def auN(q:Tq x (aC l) tm h)(d:aa tm 19 ba)(e:∀m,ev (aj 99 [bw x.st.env,cJ (aC l) x.aQ] m)=.r (aTu [cJ (aC l) x.aQ,J 0]) m U)(f:∀m,ev (aj 68 [J 0] m)=.r (zP G) m U):
 ay (bB λtm h=>Tq x (aC l) tm h/\aa tm 19 ba) ca ap ap (aF Z ev 72 (z f72 pF6) tm h):=by
 let⟨st,g5,g6,t16,t17⟩:=q;let⟨t,nx,g0,g1,g2,g3,g4,t0,t2,t4,t8,t12,t13,t14,t15⟩:=st;rw[asX];have u:0<h.n:=by omega
 have v:1<h.n:=by omega
 have w:=BY (cM (aC l) x.aQ) rfl;refine ax (Q0:=λa y=>y=h.p 1 (ad (cM (aC l) x.aQ) 47)/\aa a 18 (J 0)/\a.g 0=tm.g 0/\a.g 2=tm.g 2/\a.g 4=tm.g 4/\a.g 8=tm.g 8/\a.g 12=tm.g 12/\a.g 13=tm.g 13/\a.g 14=tm.g 14/\a.g 15=tm.g 15/\a.g 16=tm.g 16/\a.g 17=tm.g 17/\a.g 19=tm.g 19) ?_ λA R⟨b,i,B,C,F,L,j,k,n,o,p,r,s⟩=>?_
 .rw[eg,dJ];have M:=aqK;have N:bj OG.toList 0 .Nl=T5:=rfl;rw[N];generalize T5=S at*;have P:=λ(Q:H)(g:ae Q 1 (ad (cM (aC l) x.aQ) 47))=>pN (c:=cM (aC l) x.aQ) rfl rfl g rfl;simp[OG,bq,z,f72,fT,fZ,t0,t8,t,g0,g1,u,v,Fy,w,e,P,cV,cZ,cY,dc,dt,cO,cR,M];exact .mk ⟨rfl,by simp,by simp[t0],by simp,by simp,by simp[t8],by simp,by simp,by simp,by simp,by simp,by simp,by simp⟩
 simp[z,f72,i,f,an];exact .mk ⟨⟨⟨by simp[b,t],by simp[b,nx],by simp[b,g0],by simp[b],by simp[b,g2],by simp[b,g3],by simp[b,g4],by simp[B,t0],by simp[C,t2],by simp[F,t4],by simp[L,t8],by simp[j,t12],by simp[k,t13],by simp[n,t14],by simp[o,t15]⟩,by simp[b,g5],by simp[b,g6],by simp[p,t16],by simp[r,t17]⟩,by simp[s,d]⟩
def auO{c:List Meta}(q:Tq x (aC l) tm h)(f:aa tm 19 ba)(d:∀m,ev (aj 101 [al [],D eR] m)=.r (D eR) m U)(e:∀m,ev (aj 100 [aC l,J 0,D eR] m)=.r (aTu [aC c,J 0]) m U)(i:∀m,ev (aj 68 [J 0] m)=.r (zP G) m U):
 ay (bB λtm h=>Tq x (aC c) tm h/\aa tm 19 ba) ca ap ap (aF Z ev 72 (z f72 pF7) tm h):=by
 let⟨st,g5,g6,t16,t17⟩:=q;let⟨w,nx,g0,g1,g2,g3,g4,t0,t2,t4,t8,t12,t13,t14,t15⟩:=st;rw[asY];have y:1<h.n:=by omega
 have A:5<h.n:=by omega
 refine ax (Q0:=λa B=>B=h.p 1 (ad (cM (aC c) x.aQ) 47)/\aa a 18 (J 0)/\a.g 0=tm.g 0/\a.g 2=tm.g 2/\a.g 4=tm.g 4/\a.g 8=tm.g 8/\a.g 12=tm.g 12/\a.g 13=tm.g 13/\a.g 14=tm.g 14/\a.g 15=tm.g 15/\a.g 16=tm.g 16/\a.g 17=tm.g 17/\a.g 19=tm.g 19) ?_ λC T⟨b,j,F,L,M,N,n,o,p,r,s,t,u⟩=>?_
 .rw[eg,dJ];have P:=aqL;have Q:bj OH.toList 0 .Nl=T6:=rfl;rw[Q];generalize T6=V at*;have R:=λ(S:H)(g:ae S 1 (ad (cM (aC l) x.aQ) 47))=>O9 (c':=cM (aC c) x.aQ) (k:=0) (ty:=43) (v:=aC c) s43 rfl rfl g (by simp) rfl;simp[OH,bq,z,f72,t2,t4,t8,t16,w,g1,g5,y,A,Ck,d,e,R,cV,cZ,cY,dc,dt,cO,cR,P];exact .mk ⟨rfl,by simp,by simp,by simp[t2],by simp[t4],by simp[t8],by simp,by simp,by simp,by simp,by simp[t16],by simp,by simp⟩
 simp[z,f72,j,i,an];exact .mk ⟨⟨⟨by simp[b,w],by simp[b,nx],by simp[b,g0],by simp[b],by simp[b,g2],by simp[b,g3],by simp[b,g4],by simp[F,t0],by simp[L,t2],by simp[M,t4],by simp[N,t8],by simp[n,t12],by simp[o,t13],by simp[p,t14],by simp[r,t15]⟩,by simp[b,g5],by simp[b,g6],by simp[s,t16],by simp[t,t17]⟩,by simp[u,f]⟩
def auP(q:Tq x (aC l) tm h)(a:aa tm 19 ba):ay (bB (Tq x (aC l))) ca ap ap (aF Z ev 72 (z f72 pF8) tm h):=by let⟨st,g5,g6,t16,t17⟩:=q;let⟨b,nx,g0,g1,g2,g3,g4,t0,t2,t4,t8,t12,t13,t14,t15⟩:=st;simp[z,f72,a,an,fJ];exact .mk ⟨⟨b,nx,g0,g1,g2,g3,g4,by simp[t0],by simp[t2],by simp[t4],by simp[t8],by simp[t12],by simp[t13],by simp[t14],by simp[t15]⟩,g5,g6,by simp[t16],by simp[t17]⟩
def auQ(q:Tq x (aC l) tm h):ay (bB λtm h=>h.b=0/\ae h 0 (ad (cU x.st x.k) 110)/\ae h 4 (ad (cM (aC l) x.aQ) 47)/\aa tm 14 (pB 4)/\aa tm 15 (zP Y)) ca ap ap (aF Z ev 72 (z f72 pF9) tm h):=by let⟨st,g5,g6,t16,t17⟩:=q;let⟨a,nx,g0,g1,g2,g3,g4,t0,t2,t4,t8,t12,t13,t14,t15⟩:=st;have b:=BY (cM (aC l) x.aQ) rfl;have d:=λ(e:H)(g:ae e 4 (ad z4 47))=>pN (c:=cM (aC l) x.aQ) rfl rfl g rfl;simp[z,f72,t8,t14,a,g1,g4,b,d];exact .mk ⟨by simp[a],by simp[g0],by simp,by simp[t14],by simp⟩
end
structure Gn(env:List zB)(ff:E×zA->zA×Int)(wE:zA->zA×Int):Prop where
 f:aJ Z prog 33 Aw (λx=>[x.1,D x.2]) (λx=>cj (ff x))
 f2:∀x,ff x=(x.2,0)\/ff x=(zT,11)
 w:aJ Z prog 185 AT (λt=>[bw env,D t]) (λt=>cj (wE t))
 w2:∀t,AT t->aI cC (wE t).1
 w3:∀t,(wE t).2=0\/(wE t).2=11
def xh.Ok(x:xh):Prop:=x.st.Ok/\LI (x.st.env,bR)/\nk (x.st.env,bR)=x.t/\x.t.w≠6/\Aw (aC [dl x.t x.v x.c],x.t)/\AT x.t
def kZ(a:E×zA->zA×Int)(b:zA->zA×Int)(x:xh):Int:=(two (a (aC [dl x.t x.v x.c],x.t)) (b x.t)).2
def Gn.two{a:List zB}{b:E×zA->zA×Int}{c:zA->zA×Int}(F:Gn a b c)(x:xh):kZ b c x=0\/kZ b c x=11:=by
 unfold kZ YtpeialehpoilbaaGreat.two;split
 .exact F.w3 _
 .rcases F.f2 (aC [dl x.t x.v x.c],x.t)with e|e
  .rw[e];exact zq rfl
  .rw[e];exact zt rfl
def alx{k:E×zA->zA×Int}{o:zA->zA×Int}(x:xh)(F:Gn x.st.env k o)(hx:x.Ok):AY Z prog 72 110 G (λ_:Unit=>True) (λb _=>PF b x) (λ_=>cU x.st x.k) (λ_=>cU x.st x.k) (λ_=>C5 x (kZ k o x)):=by
 let⟨w,hT,A,hk,B,L⟩:=hx;rintro⟨⟩ _ h b M
 have N:aJ Z prog 98 (λ_:Unit=>True) (λ_=>[bw x.st.env,cJ (aC [dl x.t x.v x.c]) x.aQ,dB ⟨[],x.t,x.t,G⟩]) (λ_=>LL (aC [dl x.t x.v x.c]) x.aQ (kZ k o x)):=λ_ _ h0=>
  ahF (l:=[dl x.t x.v x.c]) (q:=⟨[],x.t,x.t,G⟩) F.f F.f2 F.w F.w2 ⟨by simp,by simp⟩ rfl B L h0
 obtain⟨C,hC,P,Q,R,S,p,r⟩:∃C,aR Z prog C/\bQ C 96 110 G IW.Ok Vi (λx=>cU x.st x.k) (λx=>cU x.st x.k) (λx=>.ret (Cl x))/\bS C 68 (λ_:Int=>True) (λe=>[J e]) C4/\
  Has C 98 (λ_:Unit=>True) (λ_=>[bw x.st.env,cJ (aC [dl x.t x.v x.c]) x.aQ,dB ⟨[],x.t,x.t,G⟩]) (λ_=>LL (aC [dl x.t x.v x.c]) x.aQ (kZ k o x))/\
  Has C 99 (λ_:(List zB×zA×zA)×Bool×Int=>True) (λx=>[bw x.1.1,cJ (aC [dl x.1.2.1 x.1.2.2 x.2.1]) x.2.2]) (λx=>aTu [cJ (aC [dl x.1.2.1 x.1.2.2 x.2.1]) x.2.2,J 0])/\
  Has C 100 (λ_:zA×zA×Bool=>True) (λx=>[aC [dl x.1 x.2.1 x.2.2],J 0,D eR]) (λx=>aTu [aC [fI x.1 x.2.2],J 0])/\Has C 101 (λ_:Unit=>True) (λ_=>[al [],D eR]) (λ_=>D eR):=by
  refine⟨_,aZ (aZ (aZ (aZ (jL (iv aW asU) aaO) N) aqH) alq) aqp,?_,?_,?_,?_,?_,?_⟩
  .refine bQ.skip (by decide) (bQ.skip (by decide) (bQ.skip (by decide) (bQ.skip (by decide) (bQ.skip (by decide) (bQ.add λb b' x y e=>?_)))));let⟨x1,x2,x3,x4⟩:=x;let⟨y1,y2,y3,y4⟩:=y;injection e with i f;injection f with f _;injection i with i;injection i with i;injection i with i;injection f with f;injection f with f;injection f with f g;injection g with _ g;injection g with _ g;injection g with g;injection g with _ g;refine⟨i,λq=>⟨?_,q⟩⟩;injection q with q _;have q:=pF q;show MO.ret (Cl _)=MO.ret (Cl _);unfold Cl;rw[Jw f,g,q]
  .exact bS.skip (by decide) (bS.skip (by decide) (bS.skip (by decide) (bS.skip (by decide) (bS.add λx y _ _ e=>(by simp at e;rw[e])))))
  .exact Has.Sk (by decide) (Has.Sk (by decide) (Has.Sk (by decide) (Has.Ad λ_ _ _=>rfl)))
  .refine Has.Sk (by decide) (Has.Sk (by decide) (Has.Ad λx y e=>?_));injection e with _ e;injection e with e _;rw[e]
  .refine Has.Sk (by decide) (Has.Ad λx y e=>?_);injection e with e _;have e:=Jw e;injection e with e _;injection e with i f g e4;rw[i,e4]
  .exact Has.Ad λ_ _ _=>rfl
 have V:∀n(m:H),m.g 0=O (K (cU x.st x.k) 110 G)->af Z C n (aj 96 [pB 0,cJ (aC [dl x.t x.v x.c]) x.aQ,al [],l9] m)=.r (aTu [cJ (aC [dl x.t x.v x.c]) x.aQ,D eR,D x.t,J 0]) (m.p 0 (K (cU x.st x.k) 110 G)) U:=λn m hg=>by
  have:=P.ev (T:=Z) n (x:=⟨x.st,x.k,[dl x.t x.v x.c],x.aQ⟩) ⟨w,hT⟩ hg
  have e:(MO.ret (Cl ⟨x.st,x.k,[dl x.t x.v x.c],x.aQ⟩))=.ret (aTu [cJ (aC [dl x.t x.v x.c]) x.aQ,D eR,D x.t,J 0]):=by show MO.ret (aTu [_,_,D (nk (x.st.env,bR)),_])=_;rw[A]
  rw[e]at this;exact this
 have t:∀n e m,af Z C n (aj 68 [J e] m)=(C4 e).bi m:=λn e m=>Q.ev (T:=Z) n (x:=e) trivial m;have d:∀n m,af Z C n (aj 68 [J 0] m)=.r (zP G) m U:=λn m=>by rw[t];rfl
 have W:∀n m,af Z C n (aj 98 [bw x.st.env,cJ (aC [dl x.t x.v x.c]) x.aQ,dB ⟨[],x.t,x.t,G⟩] m)=.r (LL (aC [dl x.t x.v x.c]) x.aQ (kZ k o x)) m U:=λn m=>R.ev (T:=Z) n (x:=()) trivial m;have X:∀n m,af Z C n (aj 99 [bw x.st.env,cJ (aC [dl x.t x.v x.c]) x.aQ] m)=.r (aTu [cJ (aC [dl x.t x.v x.c]) x.aQ,J 0]) m U:=λn m=>S.ev (T:=Z) n (x:=((x.st.env,x.t,x.v),x.c,x.aQ)) trivial m;have u:∀n m,af Z C n (aj 100 [aC [dl x.t x.v x.c],J 0,D eR] m)=.r (aTu [aC [fI x.t x.c],J 0]) m U:=λn m=>p.ev (T:=Z) n (x:=(x.t,x.v,x.c)) trivial m;have v:∀n m,af Z C n (aj 101 [al [],D eR] m)=.r (D eR) m U:=λn m=>r.ev (T:=Z) n (x:=()) trivial m;have hE:=F.two x;generalize kZ k o x=a at*;refine gJ.toM (a0:=PF 0 x) (C:=C) (n:=10) tok hC (lm F72 alw rfl ?_) (.Cs (.ptr 0) (.Cs (.pure (Aj _ _)) (.Cs (.pure (.Gd rfl)) (.Cs (.pure (.Gd rfl)) (.Cs (.pure (fb _)) (.Cs (.pure (bg _)) (.Cs (.pure aaN) .nil))))))) (λm a' q=>nV m a' q) (Eo w x.k) (Eo w x.k) M;refine ax (auH.Mo (λ_ q=>q) (λ_ q=>q.elim) (λ_ _ q=>q) (λ_ _ q=>q.elim)) λj h st=>?_;refine ax ((auI st (V _)).Mo (λ_ q=>q) (λ_ q=>q.elim) (λ_ _ q=>q) (λ_ _ q=>q.elim)) λj h⟨st,g5,g6,t16,t17,t18⟩=>?_;refine ax ((auJ ⟨st,g5,g6,t16,t17⟩ t18 (d _)).Mo (λ_ q=>q) (λ_ q=>q.elim) (λ_ _ q=>q) (λ_ _ q=>q.elim)) λj h q=>?_;refine ax ((auK q).Mo (λ_ q=>q) (λ_ q=>q.elim) (λ_ _ q=>q) (λ_ _ q=>q.elim)) λj h⟨q,c⟩=>?_;refine ax ((auL q c hk).Mo (λ_ q=>q) (λ_ q=>q.elim) (λ_ _ q=>q) (λ_ _ q=>q.elim)) λj h⟨q,c⟩=>?_;refine ax ((auM q c (W _) hE (t _ a)).Mo (λ_ q=>q) (λ_ q=>q.elim) (λ_ _ q=>q) (λch s q=>?_)) λj h⟨e0,q,c⟩=>?_
 .let⟨q1,q2,q3,q4,q5⟩:=q;subst q4;refine⟨q1,q2,_,_,?_,rfl,.Pu (RB 11),q5⟩;show C5 x a=_;rw[q3];rfl
 subst e0;refine ax ((auN q c (X _) (d _)).Mo (λ_ q=>q) (λ_ q=>q.elim) (λ_ _ q=>q) (λ_ _ q=>q.elim)) λj h⟨q,c⟩=>?_;refine ax ((auO q c (v _) (u _) (d _)).Mo (λ_ q=>q) (λ_ q=>q.elim) (λ_ _ q=>q) (λ_ _ q=>q.elim)) λj h⟨q,c⟩=>?_;refine ax ((auP q c).Mo (λ_ q=>q) (λ_ q=>q.elim) (λ_ _ q=>q) (λ_ _ q=>q.elim)) λj h q=>?_;refine ax ((auQ q).Mo (λ_ q=>q) (λ_ q=>q.elim) (λ_ _ q=>q) (λ_ _ q=>q.elim)) λj h⟨M,g0,g4,t14,t15⟩=>?_;rw[S8,Zj];have p1:=BY (cM (aC [fI x.t x.c]) x.aQ) rfl;exact cn.pure (.Tt (.Cs (Aj _ _) (.Cs (.Gd rfl) .Nl))) ⟨h,by simp[t14,t15,M,g4,p1],g0⟩
end Go.Proofs.YtpeialehpoilbaaGreat
namespace Go.Am
section
variable{T:au}{P:zo}{C:aV}
def Yf{e:Func}{d:List zO}:∀(a:List Nat)(n:Nat)(c:Tr E)(h:H),a.Nodup->(∀b∈a,h.g b=O (.Df (O [])))->
 af T C (n+I a+1) (.unwind e ⟨c,eJ a,h,U⟩ (O d))=.p d (iR h a) U
 |[],n,c,h,_,_=>by rw[Re];rfl
 |b::a,n,c,h,f,g=>by rw[Re];show Jq (af T C (n+I (b::a))) e (eJ a) c h U (O d) b (h.g b)=_;rw[g b (by simp)];show af T C (n+(I a+1)) (.unwind e ⟨c,eJ a,h.p b (.Df U),U⟩ (O d))=_;have i:=(List.nodup_cons.1 f);rw[<-Nat.add_assoc,Yf a n c _ i.2 (λj k=>by rw[rF h _ (λq=>by subst q;exact i.1 k)];exact g j (by simp[k]))];rfl
def K6(T:au)(d:List yR)(Q:E->H->Prop)(s:S):Prop:=s.ab=U/\∃a,s.df=eJ a/\I a<=1/\a.Nodup/\(∀b∈a,s.h.g b=O (.Df (O [])))/\∃v c,fw U (zJ T s.tm d (iR s.h a))=.r v c U/\Q v c
def UI(c:List zO->H->Prop)(d:List zO)(s:S):Prop:=s.ab=U/\∃a,s.df=eJ a/\I a<=1/\a.Nodup/\(∀b∈a,s.h.g b=O (.Df (O [])))/\c d (iR s.h a)
def aaP{r:Func}{args:List E}{Q:E->H->Prop}{QP:List zO->H->Prop}(N:T.f f=O r)(P:r.body=O x){rs:List yR}(R:r.results.toList=rs)
 (o:ay (K6 T rs Q) (K6 T rs Q) (λ_ _=>False) (UI QP) (aw T (af T C (n+2)) ⟨f,U⟩ x ⟨bF args 0 .Nl,[],h,U⟩)):
 (∃v d,cB T (af T C (n+2)) f args h U (T.f f)=.r v d U/\Q v d)\/∃s d,cB T (af T C (n+2)) f args h U (T.f f)=.p s d U/\QP s d:=by
 have t:∀(a:List Nat)(i:Tr E)(d l:H)(v:E),I a<=1->a.Nodup->(∀b∈a,d.g b=O (.Df (O [])))->fw U (zJ T i rs (iR d a))=.r v l U->af T C (n+2) (.unwind r ⟨i,eJ a,d,U⟩ U)=.r v l U:=λa i d l v X S V W=>by obtain⟨m,L⟩:∃m,n+2=m+I a+1:=⟨n+1-I a,by omega⟩;rw[L,MV a m i d U S V,R,W]
 rw[N,Sym.rC,P,Sym.rB];rcases o.cases with⟨⟨i,u,p,w⟩,e,j,a,k,F,y,A,v,l,B,M⟩|⟨⟨i,u,p,w⟩,e,j,a,k,F,y,A,v,l,B,M⟩|⟨_,_,_,q⟩|⟨s,⟨i,u,p,w⟩,e,j,a,k,F,y,A,B⟩
 .have j:w=U:=j;have k:u=eJ a:=k;subst j;subst k;rw[e,Sym.xv,t a i p l v F y A B];exact zq ⟨v,l,rfl,M⟩
 .have j:w=U:=j;have k:u=eJ a:=k;subst j;subst k;rw[e,Sym.zg,t a i p l v F y A B];exact zq ⟨v,l,rfl,M⟩
 .cases q
 .have j:w=U:=j;have k:u=eJ a:=k;subst j;subst k;obtain⟨m,L⟩:∃m,n+2=m+I a+1:=⟨n+1-I a,by omega⟩;rw[e,Sym.DW];refine zt ⟨s,iR p a,?_,B⟩;show af T C (n+2) (.unwind r ⟨i,eJ a,p,U⟩ (O s))=_;rw[L,Yf a m i p y A]
def acz{g:zZ}{fn:Func}{ps:Array Tmp}{a b:yG}{tm:Tr E}{args:List E}{c:kz}(t:c={state:=wM,pending:=U,fn:=g,tmps:=q,params:=ps,assign:=a,body:=b,defers:=m})
 (u:ae h k (.Lo c))(v:h.b=0)(w:T.f g=O fn)(x:oT ps.toList args q=O tm)(j:(ck fn.ntmps a&&ck fn.ntmps b)=Y){d:Tr E}{e:H}(y:aw T (af T C n) ⟨g,O k⟩ a ⟨tm,[],h,U⟩=.c .Nr ⟨d,[],e,U⟩)
 (o:ae e k (.Lo c)){f:Tr E}{i:H}{p:List zO}(r:aw T (af T C n) ⟨g,O k⟩ b ⟨d,[],e.p k (.Lo {c with state:=wP}),U⟩=.c (.panic p) ⟨f,[],i,U⟩)
 (s:ae i k (.Lo {c with state:=wP})):
 af T C (n+1) (.call (zU (yc k) #[] #[]) args h U)=.p p i U:=by
 subst t;rw[Zi,u];show JT T (af T C n) k h _ (oT ps.toList args q) (T.f g)=_;rw[x,w];show cond (ck fn.ntmps a&&ck fn.ntmps b) (JD T (af T C n) k _ (aw T (af T C n) ⟨g,O k⟩ a ⟨tm,[],h.az k,U⟩)) .f=_;rw[j,cond_true,Ae v,y];show Jp T (af T C n) ⟨d,[],e,U⟩ k _ (e.g k)=_;rw[o];show JS k (aw T (af T C n) ⟨g,O k⟩ b ⟨d,[],e.p k (.Lo {state:=wP,pending:=U,fn:=g,tmps:=q,params:=ps,assign:=a,body:=b,defers:=m}),U⟩)=_;rw[r];show JC ⟨f,[],i,U⟩ k (.panic p) (i.g k)=_;rw[s];rfl
def acA{g:zZ}{f:zh}{ps:Array Tmp}{a b:yG}{tm:Tr E}{df:List zc}{c:H}{d:List zO}(e:aA tm f=O v)
 (i:af T C (n+1) (.call v [zU (yc (h.n+1)) #[] #[]] ((h.w (.Df (O []))).w (.Lo {state:=wM,pending:=U,fn:=g,tmps:=tm,params:=ps,assign:=a,body:=b,defers:=h.n})) U)=.p d c o):
 aw T (af T C (n+1)) ⟨g,U⟩ (v7 f ps a b) ⟨tm,df,h,U⟩=.c (.panic d) ⟨tm,{target:=.collected h.n,args:= #[]}::df,c,U⟩:=by
 rw[Sym.Xx];show Jo (af T C (n+1)) ⟨g,U⟩ ps a b ⟨tm,df,h,U⟩ (aA tm f)=_;rw[e];have j:(h.w (.Df (O []))).n=h.n+1:=jR _ _;show NP (af T C (n+1)) ⟨g,U⟩ ⟨tm,{target:=.collected h.n,args:= #[]}::df,h.w (.Df (O [])),U⟩ (h.w (.Df (O []))).n (af T C (n+1) (.call v [zU (yc (h.w (.Df (O []))).n) #[] #[]] ((h.w (.Df (O []))).w (.Lo {state:=wM,pending:=U,fn:=g,tmps:=tm,params:=ps,assign:=a,body:=b,defers:=h.n})) U))=_;rw[j,i];rfl
end
end Go.Am
namespace Go.Proofs.YtpeialehpoilbaaGreat
def F94:Z.f 94=O f94:=by kernel_rfl
def F115:Z.f 115=O f115:=by kernel_rfl
abbrev Gp(l:List ByteArray):E:=zU (za 115) ⟨[]⟩ ⟨[ar (bL l) 0]⟩
def ajc:aJ Z prog 94 (λ_:List ByteArray=>True) (λl=>[bL l]) Gp:=by
 intro l _ h
 have a:cB Z (af Z cg 1) 94 [bL l] H.e U (Z.f 94)=.r (zU (za 115) ⟨[]⟩ ⟨[pB 0]⟩) (H.e.w (ad (ah (bL l)) 24)) U:=by rw[dx (vs:=[zU (za 115) ⟨[]⟩ ⟨[pB 0]⟩]) (h2:=H.e.w (ad (ah (bL l)) 24)) (ab:=U) F94 rfl rfl (by simp[f94])];rfl
 exact CK tok cg aW (.Cs (lj l) .Nl) 1 a (.func 115 .Nl (.Cs (.box (x:=bL l) (e:=24) (gr:=G) (c:=ah (bL l)) (by simp) rfl (.Pu (lj l))) .Nl)) h
def asZ{l:List ByteArray}{s:ByteArray}{yv:E}(Fz:C 115=λ_ _=>U)(q:0<I l)(r:I l<ao)(e:l[I l-1]?=O s):
 (∀a,af Z C (n+1) (.call yv [J (I l-1:Nat),zN s] h U)=.r (zP G) a U->af Z C (n+2) (.call (Gp l) [yv] h U)=.r (aTu []) a U)/\
   ∀d a,af Z C (n+1) (.call yv [J (I l-1:Nat),zN s] h U)=.p d a U->af Z C (n+2) (.call (Gp l) [yv] h U)=.p d a U:=by
 obtain⟨k,m⟩:∃k,I l=k+1:=⟨I l-1,by omega⟩;have o:zx.wrap (k:Int)=(k:Int):=dA (n:=k) (by omega);have f:I l-1=k:=by omega
 rw[f]at e⊢;have c:k<I l:=by omega
 have g:l[k]=s:=by rw[List.getElem?_eq_getElem c]at e;injection e
 have i:=λ(h:H)=>al8 (h:=h) (l:=l) (k:=zx) c;simp only[g]at i;have p:(0:Int)<=k:=by omega
 refine⟨λa j=>?_,λd a j=>?_⟩
 .rw[oy _ (by rw[Fz]),dx (vs:=[]) (h2:=a) (ab:=U) F115 rfl rfl (by simp[f115,fJ,m,o,p,i,j,an,mG,show ah (bL l)=[bL l] from rfl])]
  rfl
 .rw[oy _ (by rw[Fz])]
  have b:∃tm,aF Z (af Z C (n+1)) 115 (f115.body.getD we) (bF [yv,ar (bL l) 0] 0 .Nl) h=.c (.panic d) ⟨tm,[],a,U⟩:=by simp[f115,fJ,m,o,p,i,j,an,mG,show ah (bL l)=[bL l] from rfl]
  let⟨tm,b⟩:=b;exact ZP F115 rfl b
def F91:Z.f 91=O f91:=by kernel_rfl
def BZ{c:List E}:zE Z 108 c n=c[n]?:=dK (show Am.zK Z 108=O G by kernel_rfl) c n
def p27(s:St):zE Z 27 [bw s.env,s.impl,bL s.dZ,bL s.cH,s.lL,s.ns,s.opens,J c] 0=O (dO s):=by rw[fV (show Am.zK Z 27=O Y by kernel_rfl) (show Am.zI Z 27=O 7 by kernel_rfl),nw (by simp)];rfl
def auR{s:St}{t:zA}{X a c:Nat}{b:ByteArray}(d:C 91=λ_ _=>U)(g:h.b=0)(v:X<h.n)(w:a<h.n)(x:c<h.n)(i:ae h X (ad (cU s e) 110))(j:ae h a (ad [pB X] 108))(l:ae h c (ad [zN b] 9))
 (f:∀n m,af Z C n (aj 70 [dO s,D t] m)=.r (aTu [zN b,zP Y]) m U):
 af Z C (n+2) (.call (zU (za 91) ⟨[]⟩ ⟨[pB a,pB c]⟩) [D t] h U)=.r (zP Y) (h.w (ad (ah (D t)) 31)) U:=by
 have o:¬X=h.n:=by omega
 have p:¬a=h.n:=by omega
 have q:¬c=h.n:=by omega
 have r:X<h.n+1:=by omega
 have u:a<h.n+1:=by omega
 have y:c<h.n+1:=by omega
 rw[oy _ (by rw[d]),dx (vs:=[zP Y]) (h2:=h.w (ad (ah (D t)) 31)) (ab:=U) F91 rfl rfl (by simp[f91,fT,fZ,g,i,j,l,o,p,q,r,u,BZ,p27,f])]
 rfl
def F71:Z.f 71=O f71:=by kernel_rfl
@[simp] theorem aJj:zero Z 119=O zj:=by kernel_rfl
abbrev PG(a c:Nat):E:=zU (za 91) ⟨[]⟩ ⟨[pB a,pB c]⟩
abbrev FA(x f s:Nat):E:=zU (za 92) ⟨[]⟩ ⟨[pB x,pB f,pB s]⟩
def auS{X:Nat}{e7:ByteArray}(d:C 71=λ_ _=>U)(s:h.b=0):∃a,af Z C (n+2) (aj 71 [pB X,al [],zN e7] h)=.r (FA (h.n+1) (h.n+3) h.n) a U/\cI h a/\a.n=h.n+4/\ae a h.n (ad [pB X] 108)/\ae a (h.n+1) (ad [al []] 29)/\ae a (h.n+2) (ad [zN e7] 9)/\ae a (h.n+3) (ad [PG h.n (h.n+2)] 119):=by
 have c:∃tm a,aF Z (af Z C (n+1)) 71 (f71.body.getD we) (bF [pB X,al [],zN e7] 0 .Nl) h=.c .ret ⟨tm,[],a,U⟩/\aa tm 6 (FA (h.n+1) (h.n+3) h.n)/\cI h a/\a.n=h.n+4/\ae a h.n (ad [pB X] 108)/\ae a (h.n+1) (ad [al []] 29)/\ae a (h.n+2) (ad [zN e7] 9)/\ae a (h.n+3) (ad [PG h.n (h.n+2)] 119):=by have e:=λ(g:H)(b:Nat)(q:ae g b (ad [zj] 119))(f:Fn)(x y:Array E)=>DJ (ty:=119) (v:=zU f x y) (by kernel_rfl) rfl rfl q;simp[f71,show ah zj=[zj] from rfl,show ah (al [])=[al []] from rfl,e];exact⟨_,_,⟨rfl,rfl⟩,by simp,((((cI.refl h).new _).new _).new _).new _|>.put (by omega) (by simp) _,by simp,by simp[show¬h.n=h.n+1+1+1 by omega,show¬h.n=h.n+1+1 by omega],by simp,by simp;rfl,by simp⟩
 let⟨tm,a,c,i,j,k,l,m,o,p⟩:=c;refine⟨a,?_,j,k,l,m,o,p⟩
 have r:AL Z [yx 6] [FA (h.n+1) (h.n+3) h.n] a U (aF Z (af Z C (n+1)) 71 (f71.body.getD we) (bF [pB X,al [],zN e7] 0 .Nl) h):=by rw[c];simp[AL,i]
 rw[ll _ (by rw[d]),dx (vs:=[FA (h.n+1) (h.n+3) h.n]) (h2:=a) (ab:=U) F71 rfl rfl r];rfl
def F92:Z.f 92=O f92:=by kernel_rfl
def C6:yG:=z f92 pF3
def FB:yG:=FX C6
def qa:yG:=nZ C6
def aly:f92.body=O (zS (z f92 pF0) (zS (z f92 pF1) (zS (z f92 pF2) (zv 2 C6)))):=rfl
def aoj:C6=v7 (vG 43) #[44,45] FB qa:=rfl
def ajd:qa=zv 3 (zS (ak [G,G] qa) (zS (ak [G,Y,G] qa) (ak [G,Y,Y] qa))):=rfl
def acB:(ck f92.ntmps FB&&ck f92.ntmps qa)=Y:=by kernel_rfl
structure Yg(N0:Nat)(h h':H):Prop where
 b:h'.b=0
 le:h.n<=h'.n
 get:∀j,N0<=j->j<h.n->h'.g j=h.g j
def Yg.trans{N0:Nat}{h b h2:H}(a:Yg N0 h b)(c:Yg N0 b h2):Yg N0 h h2:=⟨c.b,yd a.le c.le,λj b h2=>(c.get j b (xT h2 a.le)).trans (a.get j b h2)⟩
structure Od(N0:Nat)(g0:Nat->Option ai)(h:H):Prop where
 b:h.b=0
 le:N0<=h.n
 get:∀j,j<N0->h.g j=g0 j
def Od.Qu{N0:Nat}{g0:Nat->Option ai}{h :H}(a:Od N0 g0 h)(n:cI h g):Od N0 g0 g:=⟨by rw[n.b];exact a.b,yd a.le n.le,λj b=>(n.get j (xT b a.le)).trans (a.get j b)⟩
def WT(N0:Nat)(b:zC->ag)(c:E)(Q:H->Prop)(QP:List zO->H->Prop)(h:H):Prop:=
 (∃a,b (.call c [l9] h U)=.r (zP G) a U/\Yg N0 h a/\Q a)\/∃d a,b (.call c [l9] h U)=.p d a U/\Yg N0 h a/\QP d a
structure WU(st:St)(k:Int)(e7:ByteArray)(X x f s c N0:Nat)(g0:Nat->Option ai):Prop where
 lX:X<N0
 lx:x<N0
 lf:f<N0
 ls:s<N0
 lc:c<N0
 gX:g0 X=O (ad (cU st k) 110)
 gx:g0 x=O (ad [al []] 29)
 gf:g0 f=O (ad [PG s c] 119)
 gs:g0 s=O (ad [pB X] 108)
 gc:g0 c=O (ad [zN e7] 9)
structure Qv(C:aV)(st:St)(e7:ByteArray)(e:cK):Prop where
 n91:C 91=λ_ _=>U
 Fz:C 115=λ_ _=>U
 e70:∀n m,af Z C n (aj 70 [dO st,D e.type] m)=.r (.tuple ⟨[zN e7,zP Y]⟩) m U
 Qw:∀n m,af Z C n (aj 94 [bL st.cH] m)=.r (Gp st.cH) m U
 e95:∀n m,af Z C n (aj 95 [bw st.env,zN bR] m)=.r (.tuple ⟨[ee e,J 0]⟩) m U
def ad4{c:List E}:zE Z 119 c n=c[n]?:=dK (show Am.zK Z 119=O G by kernel_rfl) c n
def ad5{c:List E}:zE Z 157 c n=c[n]?:=dK (show Am.zK Z 157=O G by kernel_rfl) c n
def awP{c:List E}:zE Z 24 c n=c[n]?:=mG c n
def acC{h:H}:eK Z h 130 (O (aAg [J 0,zN ⟨#[]⟩])) (O [(1,zN bR)])=.v l9 h:=by kernel_rfl
@[simp] theorem aJk:zero Z 130=O (aAg [J 0,zN ⟨#[]⟩]):=by kernel_rfl
section
variable{C:aV}{m:Nat}{st:St}{k:Int}{e7:ByteArray}{e:cK}{X x f s c N0 L:Nat}{g0:Nat->Option ai}{tm:Am.Tr E}{h:H}{Q:H->Prop}{QP:List zO->H->Prop}{l:Nat}
def auT(b:WU st k e7 X x f s c N0 g0)(hC:Qv C st e7 e)(r:Od N0 g0 h)(lN:N0<h.n)(gN:h.g N0=O (K [zU (yc L) #[] #[]] 157 G))(t2:tm.g 2=O (pB f))(t3:tm.g 3=O (pB s))(t4:tm.g 4=O (pB N0))(t9:tm.g 9=O (zN bR))
 (hy:∀P,Od N0 g0 P->WT N0 (af Z C (m+2)) (zU (yc L) #[] #[]) Q QP P):
 ay (λ_=>False) (λs=>s.df=[]/\s.ab=U/\Yg N0 h s.h/\Q s.h) (λ_ _=>False) (λch s=>s.df=[]/\s.ab=U/\Yg N0 h s.h/\QP ch s.h) (aw Z (af Z C (m+2)) ⟨92,O l⟩ qa ⟨tm,[],h,U⟩):=by
 obtain⟨lX,lx,lf,ls,lc,gX,gx,gf,gs,gc⟩:=b;obtain⟨R,Fz,S,Qw,T⟩:=hC;have hb:=r.b;have le:=r.le;rw[ajd,hU];refine mM ?_;refine ax (Q0:=λi P=>P=(h.w (K z9 163 G)).p h.n (K (ew e) 163 G)/\i.g 2=O (pB f)/\i.g 4=O (pB N0)/\i.g 9=O (zN bR)/\i.g 10=O (pB h.n)/\i.g 11=O (J 0)) ?_ λfQ g⟨u,j2,j4,j9,v,w⟩=>?_
 .have V:h.g s=O (K [pB X] 108 G):=by rw[r.get s ls];exact gs
  have W:h.g X=O (K (cU st k) 110 G):=by rw[r.get X lX];exact gX
  have s1:=λ(h0:H)(q:h0.g h.n=O (K z9 163 G))=>mS (x:=e) q rfl;simp[qa,nZ,C6,z,ak,sub,f92,fT,fZ,t3,t9,hb,V,W,BZ,Fy,T,s1];exact .mk ⟨rfl,by simp[t2],by simp[t4],by simp[t9],by simp,by simp⟩
 have d:Od N0 g0 g:=by rw[u];exact r.Qu (((cI.refl h).new _).put (zR _) (by simp) _)
 have n1:g.n=h.n+1:=by rw[u];simp
 have gE:g.g h.n=O (K (ew e) 163 G):=by rw[u];simp
 have y:g.g f=O (K [PG s c] 119 G):=by rw[d.get f lf];exact gf
 have A:g.g N0=O (K [zU (yc L) #[] #[]] 157 G):=by rw[u];simp[show¬N0=h.n by omega,gN]
 have yg1:Yg N0 h g:=⟨d.b,by omega,λj _ hj=>by rw[u];simp[show¬j=h.n by omega]⟩;have B:=auR (C:=C) (n:=m) (h:=g) (t:=e.type) (X:=X) (a:=s) (c:=c) R d.b (by omega) (by omega) (by omega) (by show _=_;rw[d.get X lX];exact gX) (by show _=_;rw[d.get s ls];exact gs) (by show _=_;rw[d.get c lc];exact gc) S;have F:Od N0 g0 (g.w (K (ah (D e.type)) 31 G)):=d.Qu ((cI.refl g).new _);have M:Yg N0 h (g.w (K (ah (D e.type)) 31 G)):=yg1.trans ⟨F.b,by simp,λj _ hj=>by simp[show¬j=g.n by omega]⟩;have N:=d.b;have nn:¬N0=g.n:=by omega
 have o:zE Z 31 (ew e) 4=O (D e.type):=by have:=Kn e.type [J e.kind,J e.decl,J e.item,J e.params] [];rw[ye]at this;exact this
 rcases hy _ F with⟨h3,ey,p,q3⟩|⟨ch,h3,ey,p,q3⟩
 .simp[qa,nZ,C6,z,ak,sub,f92,j2,j4,j9,v,w,N,gE,y,A,nn,ad4,ad5,o,B,acC,ey,an];exact⟨M.trans p,q3⟩
 .simp[qa,nZ,C6,z,ak,sub,f92,j2,j4,j9,v,w,N,gE,y,A,nn,ad4,ad5,o,B,acC,ey,an];exact⟨M.trans p,q3⟩
end
def Od.put{h:H}(a:Od n B h){b:Nat}(hb:n<=b)(o:ai):Od n B (h.p b o):=⟨by simp[a.b],by simp[a.le],λj c=>by simp[show¬j=b by omega,a.get j c]⟩
section
variable{C:aV}{m:Nat}{st:St}{k:Int}{e7:ByteArray}{e:cK}{X x f s c L:Nat}{h:H}{Q:H->Prop}{QP:List zO->H->Prop}
def auU{ev:zC->ag}{tm:Am.Tr E}{l:Nat}{h:H}(i:Int):∃a,aw Z ev ⟨92,O l⟩ FB ⟨(tm.s 44 (J i)).s 45 (zN bR),[],h,U⟩=.c .Nr ⟨a,[],h,U⟩/\a.g 2=tm.g 2/\a.g 3=tm.g 3/\a.g 4=tm.g 4/\aa a 9 (zN bR):=by simp[FB,FX,C6,z,f92]
def auV(d:WU st k e7 X x f s c h.n h.g)(hC:Qv C st e7 e)(Mr:C 92=λ_ _=>U)(hb:h.b=0)(hi:0<I st.cH)(IY:I st.cH<ao)(hl:st.cH[I st.cH-1]?=O bR)
 (hQ:∀p o:H,Q p->(∀j,j<h.n->o.g j=p.g j)->Q o)(hQP:∀M(p o:H),QP M p->(∀j,j<h.n->o.g j=p.g j)->QP M o)
 (hy:∀u,Od h.n h.g u->WT h.n (af Z C (m+2)) (zU (yc L) #[] #[]) Q QP u):
 (∃u,af Z C (m+5) (.call (FA x f s) [zU (yc L) #[] #[]] h U)=.r (aTu []) u U/\Yg h.n h u/\Q u)\/∃M u,af Z C (m+5) (.call (FA x f s) [zU (yc L) #[] #[]] h U)=.p M u U/\Yg h.n h u/\QP M u:=by
 rw[oy _ (by rw[Mr])]
 refine sY (aaP (C:=C) (n:=m+2) (args:=[zU (yc L) #[] #[],pB x,pB f,pB s]) (h:=h) (Q:=λv p=>v=aTu []/\Yg h.n h p/\Q p) (QP:=λM p=>Yg h.n h p/\QP M p) F92 aly (rs:=[]) rfl ?_)
  (λ⟨v,p,e,ev,N,q⟩=>zq ⟨p,by subst ev;exact e,N,q⟩) (λ⟨M,p,e,N,q⟩=>zt ⟨M,p,e,N,q⟩)
 have od0:Od h.n h.g h:=⟨hb,zR _,λ_ _=>rfl⟩;refine ax (Q0:=λtm u=>u=h.w (K [zU (yc L) #[] #[]] 157 G)/\tm.g 1=O (pB x)/\tm.g 2=O (pB f)/\tm.g 3=O (pB s)/\tm.g 4=O (pB h.n)) ?_ λtm p⟨e1,t1,t2,t3,t4⟩=>?_
 .simp[z,f92];exact .mk ⟨rfl,by simp,by simp,by simp,by simp⟩
 have P:Od h.n h.g p:=by rw[e1];exact od0.Qu ((cI.refl h).new _)
 have n1:p.n=h.n+1:=by rw[e1];simp
 have gN:p.g h.n=O (K [zU (yc L) #[] #[]] 157 G):=by rw[e1];simp
 have IR:=P.b;have gx1:p.g x=O (K [al []] 29 G):=by rw[P.get x d.lx];exact d.gx
 have gs1:p.g s=O (K [pB X] 108 G):=by rw[P.get s d.ls];exact d.gs
 have gX1:p.g X=O (K (cU st k) 110 G):=by rw[P.get X d.lX];exact d.gX
 refine ax (Q0:=λt u=>u=p/\t.g 2=O (pB f)/\t.g 3=O (pB s)/\t.g 4=O (pB h.n)) ?_ λtm u⟨e2,t2,t3,t4⟩=>?_
 .have el:(I ([]:List zA):Int)=0:=rfl;simp[z,f92,t1,IR,gx1,ob,an,fJ];exact .mk ⟨rfl,by simp[t2],by simp[t3],by simp[t4]⟩
 subst e2;refine ax (Q0:=λt o=>o=u/\t.g 2=O (pB f)/\t.g 3=O (pB s)/\t.g 4=O (pB h.n)/\t.g 43=O (Gp st.cH)) ?_ λtm o⟨e2,t2,t3,t4,t43⟩=>?_
 .simp[z,f92,t3,fT,fZ,IR,gs1,gX1,BZ,awP,hC.Qw];exact .mk ⟨rfl,by simp[t2],by simp[t3],by simp[t4],by simp⟩
 subst e2;obtain⟨R,S⟩:∃R:kz,R={state:=wM,pending:=U,fn:=92,tmps:=tm,params:= #[44,45],assign:=FB,body:=qa,defers:=o.n}:=⟨_,rfl⟩;obtain⟨F,w⟩:∃F:H,F=(o.w (.Df (O []))).w (.Lo R):=⟨_,rfl⟩;have nhh:F.n=o.n+2:=by rw[w];simp
 have W:Od h.n h.g F:=by rw[w];exact P.Qu (((cI.refl o).new _).new _)
 have gL:F.g (o.n+1)=O (.Lo R):=by rw[w];simp
 have gD:F.g o.n=O (.Df (O [])):=by rw[w];simp
 have gNh:F.g h.n=O (K [zU (yc L) #[] #[]] 157 G):=by rw[w];simp[show¬h.n=o.n+1 by omega,show¬h.n=o.n by omega,gN]
 let⟨fQ,eA,a2,a3,a4,a9⟩:=auU (ev:=af Z C (m+2)) (tm:=tm) (l:=o.n+1) (h:=F) ((I st.cH-1:Nat):Int);have odb:Od h.n h.g (F.p (o.n+1) (.Lo {R with state:=wP})):=W.put (by omega) _;have i:=auT (C:=C) (m:=m) (l:=o.n+1) (tm:=fQ) (L:=L) (Q:=Q) (QP:=QP) d hC odb (by simp;omega) (by simp[show¬h.n=o.n+1 by omega,gNh]) (by rw[a2];exact t2) (by rw[a3];exact t3) (by rw[a4];exact t4) a9 hy;have xa:oT (#[44,45]:Array Tmp).toList [J ((I st.cH-1:Nat):Int),zN bR] tm=O ((tm.s 44 (J ((I st.cH-1:Nat):Int))).s 45 (zN bR)):=rfl;have B:=asZ (C:=C) (n:=m+2) (h:=F) (l:=st.cH) (s:=bR) (yv:=zU (yc (o.n+1)) #[] #[]) hC.Fz hi IY hl;have rel:∀A,Yg h.n (F.p (o.n+1) (.Lo {R with state:=wP})) A->A.g (o.n+1)=O (.Lo {R with state:=wP})/\A.g o.n=O (.Df (O []))/\h.n<=A.n:=λA y=>⟨by rw[y.get _ (by omega) (by simp;omega)];simp,by rw[y.get _ (by omega) (by simp;omega)];simp[gD],by have:=y.le;simp at this;omega⟩;rw[hU,aoj];refine mM ?_;rcases i.cases with⟨s',_,q⟩|⟨⟨jH,df,A,ab⟩,eY,N,k2,V,q⟩|⟨_,_,_,q⟩|⟨M,⟨jH,df,A,ab⟩,eY,N,k2,V,q⟩
 .exact q.elim
 .have N:df=[]:=N;have k2:ab=U:=k2;subst N;subst k2;have V:Yg h.n (F.p (o.n+1) (.Lo {R with state:=wP})) A:=V;have q:Q A:=q;let⟨g1,g2,g3⟩:=rel A V;have y:=Kj (n:=m+2) (T:=Z) (C:=C) S gL W.b F92 xa acB eA gL (zt rfl) eY g1;have b:=B.1 _ y;have hr:=Hs (T:=Z) (C:=C) (n:=m+3) (g:=92) (f:=vG 43) (ps:= #[44,45]) (a:=FB) (b:=qa) (tm:=tm) (df:=[]) (h:=o) (r:=qX R .ret) (show aA tm (vG 43)=_ from t43) (by rw[<-S,<-w];exact b) (by simp) (zt ⟨rfl,rfl⟩);refine cast (congrArg (ay _ _ _ _) hr.symm) ?_;refine⟨rfl,[o.n],rfl,by simp,by simp,λb hb=>?_,aTu [],_,by simp;rfl,rfl,?_,?_⟩
  .rw[yi.1 hb];simp[g2]
  .exact⟨by rw[I9];simp[V.b],by rw[Q2];simp;omega,λj p o=>by omega⟩
  .refine hQ A _ q λj hj=>?_;rw[Cv _ _ _ (by simp;omega)];simp[show¬j=o.n+1 by omega]
 .exact q.elim
 .have N:df=[]:=N;have k2:ab=U:=k2;subst N;subst k2;have V:Yg h.n (F.p (o.n+1) (.Lo {R with state:=wP})) A:=V;have q:QP M A:=q;let⟨g1,g2,g3⟩:=rel A V;have y:=acz (n:=m+2) (T:=Z) (C:=C) S gL W.b F92 xa acB eA gL eY g1;have b:=B.2 _ _ y;have hr:=acA (T:=Z) (C:=C) (n:=m+3) (g:=92) (f:=vG 43) (ps:= #[44,45]) (a:=FB) (b:=qa) (tm:=tm) (df:=[]) (h:=o) (show aA tm (vG 43)=_ from t43) (by rw[<-S,<-w];exact b);refine cast (congrArg (ay _ _ _ _) hr.symm) ?_;refine⟨rfl,[o.n],rfl,by simp,by simp,λb hb=>?_,?_,?_⟩
  .rw[yi.1 hb];exact g2
  .exact⟨by rw[I9];simp[V.b],by rw[Q2];simp;omega,λj p o=>by omega⟩
  .refine hQP M A _ q λj hj=>?_;rw[Cv _ _ _ (by simp;omega)]
end
def F52:Z.f 52=O f52:=by kernel_rfl
def qb:yG:=z f52 pF7
def AH:yG:=ak [Y,G] qb
def FC:yG:=FX AH
def nY:yG:=nZ AH
def alz:f52.body=O (zS (z f52 pF0) (zS (z f52 pF1) (zS (z f52 pF2) (zS (z f52 pF3) (zS (z f52 pF4) (zS (z f52 pF5) (zS (z f52 pF6) (zS qb (z f52 pT8))))))))):=rfl
def aje:qb=zS (ak [G] qb) (zv 0 AH):=rfl
def aok:AH=v7 (vG 58) #[59] FC nY:=rfl
def acD:(ck f52.ntmps FC&&ck f52.ntmps nY)=Y:=by kernel_rfl
def Pd:Array yH:=bq (z f52 pF2)
def Pe:Array yH:=bq (z f52 pF5)
def aol:z f52 pF2=yM 3 Pd Y:=rfl
def aom:z f52 pF5=yM 7 Pe Y:=rfl
def UJ:Am.Tr Nat:=bj Pd.toList 0 .Nl
def adj:Am.Tr Nat:=bj Pe.toList 0 .Nl
def as0:aN (aE UJ 13) 12=Y:=by kernel_rfl
structure Fd(s:St)(k:Int)(m:Meta)(aQ:Int)(n:Nat)(tm:Am.Tr E)(h:H):Prop where
 b:h.b=0
 nx:h.n=n
 g0:ae h 0 (ad (cU s k) 110)
 g1:ae h 1 (ad [pB 0] 108)
 g2:ae h 2 (ad (cM (aC [m]) aQ) 47)
 g3:ae h 3 (ad [J 0] 3)
 g4:ae h 4 (ad [J 0] 3)
 g5:ae h 5 (ad z4 47)
 g6:ae h 6 (ad [J 0] 52)
 t4:aa tm 4 (pB 1)
 t5:aa tm 5 (pB 2)
 t6:aa tm 6 (pB 3)
 t7:aa tm 7 (pB 4)
 t8:aa tm 8 (pB 5)
 t9:aa tm 9 (pB 6)
@[simp] theorem z29:zero Z 29=O ba:=by kernel_rfl
@[simp] theorem aHq{h:H}:aX Z h 42 0 (O (ar v n))=.v (ar v (n+0)) h:=by kernel_rfl
@[simp] theorem aHr{h:H}:aX Z h 42 1 (O (ar v n))=.v (ar v (n+5)) h:=by kernel_rfl
section
variable{ev:zC->ag}{s:St}{k aQ:Int}{m:Meta}{tm:Am.Tr E}{h:H}
def auW:ay (bB (Fd s k m aQ 7)) ca ap ap (aF Z ev 52 (z f52 pF0) (bF [pB 0,cJ (aC [m]) aQ,J 0,J 0] 0 .Nl) (H.e.w (ad (cU s k) 110))):=by simp[z,f52];exact .mk ⟨by simp,by simp,by simp,by simp,by simp,by simp,by simp,by simp,by simp,by simp,by simp,by simp,by simp,by simp,by simp⟩
def auX(b:Fd s k m aQ 7 tm h):ay (bB (Fd s k m aQ 7)) ca ap ap (aF Z ev 52 (z f52 pF1) tm h):=by let⟨a,nx,g0,g1,g2,g3,g4,g5,g6,t4,t5,t6,t7,t8,t9⟩:=b;simp[z,f52,t7,a,g4,an];exact .mk ⟨a,nx,g0,g1,g2,g3,g4,g5,g6,by simp[t4],by simp[t5],by simp[t6],by simp[t7],by simp[t8],by simp[t9]⟩
def auY(c:Fd s k m aQ 7 tm h){r:zA×Int}(a:∀q,ev (aj 33 [aC [m],D m.type] q)=.r (cj r) q U):ay (bB λtm h=>Fd s k m aQ 8 tm h/\h.g 7=O (K (ah (D r.1)) 31 G)/\tm.g 10=O (pB 7)/\tm.g 11=O (J r.2)) (λ_=>False) (λ_ _=>False) (λ_ _=>False) (aw Z ev ⟨52,U⟩ (z f52 pF2) ⟨tm,[],h,U⟩):=by
 let⟨b,nx,g0,g1,g2,g3,g4,g5,g6,t4,t5,t6,t7,t8,t9⟩:=c;rw[aol,eg,dJ];have d:=as0;have e:bj Pd.toList 0 .Nl=UJ:=rfl;rw[e];generalize UJ=g at*;have j:2<h.n:=by omega
 have n:3<h.n:=by omega
 have f:∀h:H,dI Z h (O (zf 42)) (O (aC [m])) (O (J 0))=.v (ar (fE m) 0) h:=λh=>GV (h:=h) (l:=[m]) (k:=zx) (i:=0) (by simp);simp[Pd,bq,z,f52,t5,t6,b,nx,g2,g3,Ck,f,a,cV,cZ,cY,dc,dt,cO,cR,d];exact .mk ⟨⟨by simp[b],by simp[nx],by simp[nx,g0],by simp[nx,g1],by simp[nx,g2],by simp[nx,g3],by simp[nx,g4],by simp[nx,g5],by simp[nx,g6],by simp[t4],by simp[t5],by simp[t6],by simp[t7],by simp[t8],by simp[t9]⟩,by simp,by simp,by simp⟩
def auZ(g:Fd s k m aQ 8 tm h)(i:ae h 7 (ad (ah (D a)) 31))(d:aa tm 10 (pB 7))(c:aa tm 11 (J e))(j:e=0\/e=11)(b:∀q,ev (aj 68 [J e] q)=(C4 e).bi q):
 ay (bB λtm h=>e=0/\Fd s k m aQ 8 tm h/\ae h 7 (ad (ah (D a)) 31)/\aa tm 10 (pB 7)) ca ap (λl f=>f.df=[]/\f.ab=U/\e=11/\l=[⟨ik 11,G,G⟩]/\f.h.g 0=O (ad (cU s k) 110)) (aF Z ev 52 (z f52 pF3) tm h):=by
 let⟨n,nx,g0,g1,g2,g3,g4,g5,g6,t4,t5,t6,t7,t8,t9⟩:=g;rcases j with rfl|rfl
 .have b:∀q,ev (aj 68 [J 0] q)=.r (zP G) q U:=λq=>by rw[b];rfl
  simp[z,f52,c,b,an];exact .mk ⟨⟨n,nx,g0,g1,g2,g3,g4,g5,g6,by simp[t4],by simp[t5],by simp[t6],by simp[t7],by simp[t8],by simp[t9]⟩,i,by simp[d]⟩
 .have b:∀q,ev (aj 68 [J 11] q)=.p [⟨ik 11,G,G⟩] q U:=λq=>by rw[b];rfl
  simp[z,f52,c,b];simp[g0]
def au0(e:Fd s k m aQ 8 tm h)(f:ae h 7 (ad (ah (D a)) 31))(b:aa tm 10 (pB 7))(c:∀q,ev (aj 69 [D a] q)=.r (aTu [al [],D a]) q U):
 ay (bB λtm h=>Fd s k m aQ 10 tm h/\ae h 8 (ad [al []] 29)/\ae h 9 (ad (ah (D a)) 31)/\aa tm 12 (pB 8)/\aa tm 13 (pB 9)) ca ap ap (aF Z ev 52 (z f52 pF4) tm h):=by
 let⟨d,nx,g0,g1,g2,g3,g4,g5,g6,t4,t5,t6,t7,t8,t9⟩:=e;have g:=λ(i:H)(q:ae i 8 (ad [ba] 29))=>DJ (ty:=29) (v:=al []) adP rfl rfl q;simp[z,f52,b,d,nx,f,c,g];exact .mk ⟨⟨by simp[d],by simp[nx],by simp[nx,g0],by simp[nx,g1],by simp[nx,g2],by simp[nx,g3],by simp[nx,g4],by simp[nx,g5],by simp[nx,g6],by simp[t4],by simp[t5],by simp[t6],by simp[t7],by simp[t8],by simp[t9]⟩,by simp,by simp,by simp,by simp⟩
end
section
variable{ev:zC->ag}{s:St}{k aQ:Int}{m:Meta}{tm:Am.Tr E}{h:H}{t:zA}{e7:ByteArray}
def au1(g:Fd s k m aQ 10 tm h)(p:h.g 8=O (K [al []] 29 G))(i:h.g 9=O (K (ah (D t)) 31 G))(c:tm.g 12=O (pB 8))(b:tm.g 13=O (pB 9))(d:∀q,ev (aj 70 [dO s,D t] q)=.r (aTu [zN e7,zP Y]) q U):
 ay (bB λa e=>e=h/\Fd s k m aQ 10 a e/\a.g 12=O (pB 8)/\a.g 13=O (pB 9)/\a.g 14=O (zN e7)/\a.g 15=O (zP Y)) (λ_=>False) (λ_ _=>False) (λ_ _=>False) (aw Z ev ⟨52,U⟩ (z f52 pF5) ⟨tm,[],h,U⟩):=by
 let⟨f,nx,g0,g1,g2,g3,g4,g5,g6,t4,t5,t6,t7,t8,t9⟩:=g;rw[aom,eg,dJ];have j:bj Pe.toList 0 .Nl=adj:=rfl;rw[j];generalize adj=r at*;have l:0<h.n:=by omega
 have n:1<h.n:=by omega
 have o:9<h.n:=by omega
 simp[Pe,bq,z,f52,fT,fZ,t4,b,f,g0,g1,i,l,n,o,BZ,p27,d];exact .mk ⟨rfl,⟨f,nx,g0,g1,g2,g3,g4,g5,g6,by simp[t4],by simp[t5],by simp[t6],by simp[t7],by simp[t8],by simp[t9]⟩,by simp[c],by simp[b],by simp,by simp⟩
def au2(g:Fd s k m aQ 10 tm h)(b:aa tm 12 (pB 8))(c:aa tm 13 (pB 9))(d:aa tm 14 (zN e7))(e:aa tm 15 (zP Y)):
 ay (bB λa f=>f=h/\Fd s k m aQ 10 a f/\aa a 12 (pB 8)/\aa a 13 (pB 9)/\aa a 14 (zN e7)) ca ap ap (aF Z ev 52 (z f52 pF6) tm h):=by
 let⟨i,nx,g0,g1,g2,g3,g4,g5,g6,t4,t5,t6,t7,t8,t9⟩:=g;simp[z,f52,e,an];exact .mk ⟨rfl,⟨i,nx,g0,g1,g2,g3,g4,g5,g6,by simp[t4],by simp[t5],by simp[t6],by simp[t7],by simp[t8],by simp[t9]⟩,by simp[b],by simp[c],by simp[d]⟩
def au3{l:Nat}(d:h.b=0):∃a,aw Z ev ⟨52,O l⟩ FC ⟨tm.s 59 l9,[],h,U⟩=.c .Nr ⟨a,[],(h.w (ad [J 0,zN ⟨#[]⟩] 130)).p h.n (ad [J 0,zN bR] 130),U⟩/\aa a 16 (pB h.n)/\a.g 4=tm.g 4/\a.g 5=tm.g 5/\a.g 6=tm.g 6/\a.g 7=tm.g 7/\a.g 8=tm.g 8/\a.g 9=tm.g 9/\a.g 12=tm.g 12/\a.g 13=tm.g 13:=by
 have c:∀(b:H),ae b h.n (ad [J 0,zN ⟨#[]⟩] 130)->zG Z b 130 l9 (pB h.n)=O (b.p h.n (ad [J 0,zN bR] 130)):=λb q=>by rw[dY (v:=l9) (n:=2) (off:=0) (show Am.zI Z 130=O 2 by kernel_rfl) rfl rfl q (by show 2<=2;omega)];rfl
 simp[FC,FX,AH,qb,z,f52,c]
structure Fb(s:St)(k:Int)(m:Meta)(aQ:Int)(t:zA)(B:Nat)(tm:Am.Tr E)(h:H):Prop where
 b:h.b=0
 g0:h.g 0=O (K (cU s k) 110 G)
 g1:h.g 1=O (K [pB 0] 108 G)
 g2:h.g 2=O (K (cM (aC [m]) aQ) 47 G)
 g3:h.g 3=O (K [J 0] 3 G)
 g4:h.g 4=O (K [J 0] 3 G)
 g5:h.g 5=O (K z4 47 G)
 g6:h.g 6=O (K [J 0] 52 G)
 g8:h.g 8=O (K [al []] 29 G)
 g9:h.g 9=O (K (ah (D t)) 31 G)
 gB:h.g B=O (K [J 0,zN bR] 130 G)
 t4:tm.g 4=O (pB 1)
 t5:tm.g 5=O (pB 2)
 t6:tm.g 6=O (pB 3)
 t7:tm.g 7=O (pB 4)
 t8:tm.g 8=O (pB 5)
 t9:tm.g 9=O (pB 6)
 t12:tm.g 12=O (pB 8)
 t13:tm.g 13=O (pB 9)
 t16:tm.g 16=O (pB B)
def ajf:nY=zv 1 (zS (ak [G,G] nY) (zS (ak [G,Y,G] nY) (zS (ak [G,Y,Y,G] nY) (ak [G,Y,Y,Y] nY)))):=rfl
def au4{h:H}{j:Int}{e:zQ}(a:ae h 0 (K [bw s.env,s.impl,bL s.dZ,bL s.cH,s.lL,s.ns,s.opens,J k] e b)):zG Z h 3 (J j) (zM (O ⟨0,7,U⟩))=O (h.p 0 (K (cU s j) e b)):=by rw[dY (v:=J j) (n:=1) (off:=7) IG rfl rfl a (by show 8<=8;omega)];rfl
def au5{l :Nat}{Q:MO}{v:List Meta}(st:Fb s 0 m aQ t i tm h)(lB:16<=i)(lB2:i<h.n)
 (b:∀q:H,q.g 0=O (K (cU s 1) 110 G)->af Z C n (aj 72 [pB 0,cJ (aC [m]) aQ,J 0,J 0,al [],D t,l9] q)=Q.bi (q.p 0 (K (cU s 1) 110 G)))(W:Q=.ret (aTu [cJ (aC v) e,zP Y])\/Q=.aU (ik 11)):
 ay (λ_=>False) (λo=>o.df=[]/\o.ab=U/\Q=.ret (aTu [cJ (aC v) e,zP Y])/\Yg 7 h o.h/\o.h.g 0=O (K (cU s 1) 110 G)/\o.h.g 5=O (K (cM (aC v) e) 47 G)/\o.h.g 6=O (K [J 0] 52 G)) (λ_ _=>False)
  (λch o=>o.df=[]/\o.ab=U/\Q=.aU (ik 11)/\ch=[⟨ik 11,G,G⟩]/\Yg 7 h o.h/\o.h.g 0=O (K (cU s 1) 110 G)) (aw Z (af Z C n) ⟨52,O l⟩ nY ⟨tm,[],h,U⟩):=by
 obtain⟨hb,g0,R,X,g3,g4,g5,g6,g8,g9,gB,w,L,M,N,x,y,d,f,g⟩:=st;rw[ajf,hU];refine mM ?_;have e1:zx.wrap 1=1:=dA (n:=1) (by unfold ao;omega);refine ax (Q0:=λa r=>r=h.p 0 (K (cU s 1) 110 G)/\a.g 4=O (pB 1)/\a.g 5=O (pB 2)/\a.g 6=O (pB 3)/\a.g 7=O (pB 4)/\a.g 8=O (pB 5)/\a.g 9=O (pB 6)/\a.g 12=O (pB 8)/\a.g 13=O (pB 9)/\a.g 16=O (pB i)) ?_ λfQ P⟨A,w,L,M,N,x,y,d,f,g⟩=>?_
 .have S:=λ(F:H)(q:F.g 0=O (K [bw s.env,s.impl,bL s.dZ,bL s.cH,s.lL,s.ns,s.opens,J 0] 110 G))=>au4 (j:=1) q;simp[nY,nZ,AH,qb,z,ak,sub,f52,fT,fZ,w,hb,g0,R,BZ,p3,e1,S];exact .mk ⟨rfl,by simp[w],by simp[L],by simp[M],by simp[N],by simp[x],by simp[y],by simp[d],by simp[f],by simp[g]⟩
 have k:P.b=0:=by rw[A];simp[hb]
 have u0:P.g 0=O (K (cU s 1) 110 G):=by rw[A];simp
 have u:∀j,j≠0->P.g j=h.g j:=λj hj=>by rw[A];simp[hj]
 have n1:P.n=h.n:=by rw[A];simp
 have y1:Yg 7 h P:=⟨k,by omega,λj hj _=>u j (by omega)⟩;clear A;rw[<-u 1 (by omega)]at R;rw[<-u 2 (by omega)]at X;rw[<-u 3 (by omega)]at g3;rw[<-u 4 (by omega)]at g4;rw[<-u 5 (by omega)]at g5;rw[<-u 6 (by omega)]at g6;rw[<-u 8 (by omega)]at g8;rw[<-u 9 (by omega)]at g9;rw[<-u i (by omega)]at gB;refine ax (Q0:=λa r=>r=P/\a.g 4=O (pB 1)/\a.g 5=O (pB 2)/\a.g 6=O (pB 3)/\a.g 7=O (pB 4)/\a.g 8=O (pB 5)/\a.g 9=O (pB 6)/\a.g 12=O (pB 8)/\a.g 13=O (pB 9)/\a.g 16=O (pB i)) ?_ λjH p⟨A,w,L,M,N,x,y,d,f,g⟩=>?_
 .simp[nY,nZ,AH,qb,z,ak,sub,f52,fT,fZ,w,k,u0,R,BZ,p3,an];exact .mk ⟨rfl,by simp[w],by simp[L],by simp[M],by simp[N],by simp[x],by simp[y],by simp[d],by simp[f],by simp[g]⟩
 subst A;have T:=BY (cM (aC [m]) aQ) rfl;have V:=BY (cM (aC v) e) rfl;have b:=b p u0;rcases W with rfl|rfl
 .have b:af Z C n (aj 72 [pB 0,cJ (aC [m]) aQ,J 0,J 0,al [],D t,l9] p)=.r (aTu [cJ (aC v) e,zP Y]) (p.p 0 (K (cU s 1) 110 G)) U:=b;refine ax (Q0:=λa r=>Yg 7 h r/\r.g 0=O (K (cU s 1) 110 G)/\r.g 5=O (K z4 47 G)/\r.g 6=O (K [J 0] 52 G)/\p.n<r.n/\r.g p.n=O (K (cM (aC v) e) 47 G)/\a.g 8=O (pB 5)/\a.g 9=O (pB 6)/\a.g 17=O (pB p.n)/\a.g 18=O (zP Y)) ?_ λru h3⟨y3,v0,v5,v6,ln,vN,x,y,t17,t18⟩=>?_
  .have S:=λ(F:H)(q:F.g p.n=O (K z4 47 G))=>pN (c:=cM (aC v) e) rfl rfl q rfl;have nh:∀j,j<16->¬j=p.n:=λj hj=>by omega
   simp[nY,nZ,AH,qb,z,ak,sub,f52,w,L,M,N,d,f,g,k,R,X,g3,g4,g8,g9,gB,BZ,ob,T,UH,b,S];refine .mk ⟨y1.trans ⟨by simp[k],by simp,λj q1 q2=>by simp[show¬j=p.n by omega,show¬j=0 by omega]⟩,by simp[nh 0 (by omega)],by simp[nh 5 (by omega),g5],by simp[nh 6 (by omega),g6],by simp,by simp,by simp[x],by simp[y],by simp,by simp⟩
  have b3:=y3.b;have S:=λ(F:H)(q:F.g 5=O (K z4 47 G))=>pN (c:=cM (aC v) e) rfl rfl q rfl;have s2:=λ(F:H)(q:F.g 6=O (K [J 0] 52 G))=>qF (n:=0) q;simp[nY,nZ,AH,qb,z,ak,sub,f52,x,y,t17,t18,b3,v5,v6,vN,V,S,s2,an];exact⟨y3.trans ⟨by simp[b3],by simp,λj q1 q2=>by simp[show¬j=5 by omega,show¬j=6 by omega]⟩,v0⟩
 .have b:af Z C n (aj 72 [pB 0,cJ (aC [m]) aQ,J 0,J 0,al [],D t,l9] p)=.p [⟨ik 11,G,G⟩] (p.p 0 (K (cU s 1) 110 G)) U:=b;refine ax (Q0:=λ_ _=>False) ?_ λ_ _ q=>q.elim;simp[nY,nZ,AH,qb,z,ak,sub,f52,w,L,M,N,d,f,g,k,R,X,g3,g4,g8,g9,gB,BZ,ob,T,UH,b];exact y1.trans ⟨by simp[k],by simp,λj q1 q2=>by simp[show¬j=0 by omega]⟩
end
section
variable{C:aV}{m:Nat}{st:St}{aQ:Int}{mt:Meta}{t:zA}{e7:ByteArray}{tm:Am.Tr E}{h:H}{l2:List Meta}{mo:MO}{e:cK}
def au6(std:Fd st 0 mt aQ 10 tm h)(g8:h.g 8=O (K [al []] 29 G))(g9:h.g 9=O (K (ah (D t)) 31 G))(W:tm.g 12=O (pB 8))(t13:tm.g 13=O (pB 9))(t14:tm.g 14=O (zN e7))
 (hC:Qv C st e7 e)(Mr:C 92=λ_ _=>U)(WV:C 71=λ_ _=>U)(hi:0<I st.cH)(IY:I st.cH<ao)(hl:st.cH[I st.cH-1]?=O bR)
 (WW:∀n(q:H),q.g 0=O (K (cU st 1) 110 G)->af Z C n (aj 72 [pB 0,cJ (aC [mt]) aQ,J 0,J 0,al [],D t,l9] q)=mo.bi (q.p 0 (K (cU st 1) 110 G)))(Ci:mo=.ret (aTu [cJ (aC l2) aQ,zP Y])\/mo=.aU (ik 11)):
 ay (λ_=>False) (K6 Z [yB 8 47,yB 9 52] (λv h1=>mo=.ret (aTu [cJ (aC l2) aQ,zP Y])/\v=aTu [cJ (aC l2) aQ,J 0]/\h1.g 0=O (K (cU st 1) 110 G))) (λ_ _=>False) (UI (λch h1=>mo=.aU (ik 11)/\ch=[⟨ik 11,G,G⟩]/\h1.g 0=O (K (cU st 1) 110 G)))
  (aw Z (af Z C (m+5)) ⟨52,U⟩ qb ⟨tm,[],h,U⟩):=by
 rw[aje];let⟨hb,nx,g0,g1,g2,g3,g4,g5,g6,t4,t5,t6,t7,t8,t9⟩:=std;let⟨h1,e71,S,V,c0,c1,c2,c3⟩:=auS (C:=C) (n:=m+3) (h:=h) (X:=0) (e7:=e7) WV hb;rw[nx]at e71 V c0 c1 c2 c3;refine ax (Q0:=λk s=>s=h1/\k.g 4=O (pB 1)/\k.g 5=O (pB 2)/\k.g 6=O (pB 3)/\k.g 7=O (pB 4)/\k.g 8=O (pB 5)/\k.g 9=O (pB 6)/\k.g 12=O (pB 8)/\k.g 13=O (pB 9)/\k.g 58=O (FA 11 13 10)) ?_ λo w⟨eh,t4,t5,t6,t7,t8,t9,W,t13,t58⟩=>?_
 .simp[qb,z,f52,t4,W,t14,hb,g1,g8,BZ,ob,e71];exact .mk ⟨rfl,by simp[t4],by simp[t5],by simp[t6],by simp[t7],by simp[t8],by simp[t9],by simp[W],by simp[t13],by simp⟩
 subst eh;have IR:w.b=0:=by rw[S.b];exact hb
 have ko:∀j,j<10->w.g j=h.g j:=λj M=>S.get j (by omega);obtain⟨u,Qx⟩:∃u:kz,u={state:=wM,pending:=U,fn:=52,tmps:=o,params:= #[59],assign:=FC,body:=nY,defers:=w.n}:=⟨_,rfl⟩;obtain⟨N,x⟩:∃N:H,N=(w.w (.Df (O []))).w (.Lo u):=⟨_,rfl⟩;have nhh:N.n=16:=by rw[x];simp[V]
 have hbh:N.b=0:=by rw[x];simp[IR]
 have kh:∀j,j<14->N.g j=w.g j:=λj M=>by rw[x];simp[V,show¬j=15 by omega,show¬j=14 by omega]
 have gL:N.g 15=O (.Lo u):=by rw[x];simp[V]
 have gD:N.g 14=O (.Df (O [])):=by rw[x];simp[V]
 have c:WU st 0 e7 0 11 13 10 12 N.n N.g:=⟨by omega,by omega,by omega,by omega,by omega,by rw[kh 0 (by omega),ko 0 (by omega)];exact g0,by rw[kh 11 (by omega)];exact c1,by rw[kh 13 (by omega)];exact c3,by rw[kh 10 (by omega)];exact c0,by rw[kh 12 (by omega)];exact c2⟩;let Q:H->Prop:=λh=>mo=.ret (aTu [cJ (aC l2) aQ,zP Y])/\h.g 0=O (K (cU st 1) 110 G)/\h.g 5=O (K (cM (aC l2) aQ) 47 G)/\h.g 6=O (K [J 0] 52 G)/\h.g 14=O (.Df (O []))/\h.g 15=O (.Lo (qX u .ret));let QP:List zO->H->Prop:=λch h=>mo=.aU (ik 11)/\ch=[⟨ik 11,G,G⟩]/\h.g 0=O (K (cU st 1) 110 G)/\h.g 14=O (.Df (O []))
 have hy:∀s,Od N.n N.g s->WT N.n (af Z C (m+2)) (zU (yc 15) #[] #[]) Q QP s:=by
  intro s od;have Qy:=od.b;have le:=od.le;have WX:s.g 15=O (.Lo u):=by rw[od.get 15 (by omega)];exact gL
  let⟨tmA,eA,a16,a4,a5,a6,a7,a8,a9,a12,a13⟩:=au3 (ev:=af Z C (m+1)) (tm:=o) (l:=15) (h:=s) Qy;obtain⟨F,P⟩:∃F:H,F=(s.w (K [J 0,zN ⟨#[]⟩] 130 G)).p s.n (K [J 0,zN bR] 130 G):=⟨_,rfl⟩;rw[<-P]at eA;have n2:F.n=s.n+1:=by rw[P];simp
  have k2:∀j,j<s.n->F.g j=s.g j:=λj M=>by rw[P];simp[show¬j=s.n by omega]
  have gB:F.g s.n=O (K [J 0,zN bR] 130 G):=by rw[P];simp
  have kk:∀j,j<10->(F.p 15 (.Lo {u with state:=wP})).g j=h.g j:=λj M=>by simp[show¬j=15 by omega];rw[k2 j (by omega),od.get j (by omega),kh j (by omega),ko j M]
  have gL2:F.g 15=O (.Lo u):=by rw[k2 15 (by omega)];exact WX
  have gD2:F.g 14=O (.Df (O [])):=by rw[k2 14 (by omega),od.get 14 (by omega)];exact gD
  have st:Fb st 0 mt aQ t s.n tmA (F.p 15 (.Lo {u with state:=wP})):=⟨by rw[P];simp[Qy],by rw[kk 0 (by omega)];exact g0,by rw[kk 1 (by omega)];exact g1,by rw[kk 2 (by omega)];exact g2,by rw[kk 3 (by omega)];exact g3,by rw[kk 4 (by omega)];exact g4,by rw[kk 5 (by omega)];exact g5,by rw[kk 6 (by omega)];exact g6,by rw[kk 8 (by omega)];exact g8,by rw[kk 9 (by omega)];exact g9,by simp[show¬s.n=15 by omega,gB],by rw[a4];exact t4,by rw[a5];exact t5,by rw[a6];exact t6,by rw[a7];exact t7,by rw[a8];exact t8,by rw[a9];exact t9,by rw[a12];exact W,by rw[a13];exact t13,a16⟩;have i:=au5 (C:=C) (n:=m+1) (l:=15) st (by omega) (by simp;omega) (λq g=>WW (m+1) q g) Ci;have xa:oT (#[59]:Array Tmp).toList [l9] o=O (o.s 59 l9):=rfl
  have ygh:∀p,Yg 7 (F.p 15 (.Lo {u with state:=wP})) p->p.g 15=O (.Lo {u with state:=wP})/\p.g 14=O (.Df (O []))/\Yg N.n s p:=λp y=>by refine⟨by rw[y.get 15 (by omega) (by simp;omega)];simp,by rw[y.get 14 (by omega) (by simp;omega)];simp[gD2],y.b,by have:=y.le;simp at this;omega,λj q1 q2=>?_⟩;rw[y.get j (by omega) (by simp;omega)];simp[show¬j=15 by omega];exact k2 j q2
  rcases i.cases with⟨s',_,q⟩|⟨⟨jH,df,p,ab⟩,eY,S,A,B,yg,q0,q5,q6⟩|⟨_,_,_,q⟩|⟨ch,⟨jH,df,p,ab⟩,eY,S,A,B,WY,yg,q0⟩
  .exact q.elim
  .have S:df=[]:=S;have A:ab=U:=A;subst S;subst A;let⟨y1,y2,y3⟩:=ygh p yg;have y:=Kj (n:=m+1) (T:=Z) (C:=C) Qx WX Qy F52 xa acD eA gL2 (zt rfl) eY y1;refine zq ⟨_,y,⟨by simp[y3.b],by simp;exact y3.le,λj q1 q2=>?_⟩,B,by simp;exact q0,by simp;exact q5,by simp;exact q6,by simp;exact y2,by simp⟩;simp[show¬j=15 by omega];exact y3.get j q1 q2
  .exact q.elim
  .have S:df=[]:=S;have A:ab=U:=A;subst S;subst A;let⟨y1,y2,y3⟩:=ygh p yg;have y:=acz (n:=m+1) (T:=Z) (C:=C) Qx WX Qy F52 xa acD eA gL2 eY y1;exact zt ⟨ch,p,y,y3,B,WY,q0,y2⟩
 have R:=auV (C:=C) (m:=m) (L:=15) (Q:=Q) (QP:=QP) c hC Mr hbh hi IY hl (λh1 F q M=>⟨q.1,by rw[M 0 (by omega)];exact q.2.1,by rw[M 5 (by omega)];exact q.2.2.1,by rw[M 6 (by omega)];exact q.2.2.2.1,by rw[M 14 (by omega)];exact q.2.2.2.2.1,by rw[M 15 (by omega)];exact q.2.2.2.2.2⟩)
  (λch h1 F q M=>⟨q.1,q.2.1,by rw[M 0 (by omega)];exact q.2.2.1,by rw[M 14 (by omega)];exact q.2.2.2⟩) hy
 rw[hU,aok];refine mM ?_;have WS:=BY (cM (aC l2) aQ) rfl;rcases R with⟨p,WZ,y3,B,q0,q5,q6,qD,qL⟩|⟨ch,p,WZ,y3,B,WY,q0,qD⟩
 .have hr:=Hs (T:=Z) (C:=C) (n:=m+4) (g:=52) (f:=vG 58) (ps:= #[59]) (a:=FC) (b:=nY) (tm:=o) (df:=[]) (h:=w) (r:=qX u .ret) (show aA o (vG 58)=_ from t58) (by rw[<-Qx,<-x,V];exact WZ) (by rw[V];exact qL) (zt ⟨rfl,rfl⟩);rw[V]at hr;refine cast (congrArg (ay _ _ _ _) hr.symm) ?_;refine⟨rfl,[14],rfl,by simp,by simp,λb hb=>?_,aTu [cJ (aC l2) aQ,J 0],iR (p.p 15 (.Lo {qX u .ret with state:=xU})) [14],?_,B,rfl,?_⟩
  .rw[yi.1 hb];simp[qD]
  .have d:∀j,j≠14->j≠15->(iR (p.p 15 (.Lo {qX u .ret with state:=xU})) [14]).g j=p.g j:=λj h1 F=>by rw[Cv _ _ _ (by simpa using h1)];simp[F]
   have db:(iR (p.p 15 (.Lo {qX u .ret with state:=xU})) [14]).b=0:=by rw[I9];simp[y3.b]
   have d5:=d 5 (by decide) (by decide);have d6:=d 6 (by decide) (by decide);rw[q5]at d5;rw[q6]at d6;show fw U (Am.zJ Z o _ (iR (p.p 15 (.Lo {qX u .ret with state:=xU})) [14]))=_;generalize iR (p.p 15 (.Lo {qX u .ret with state:=xU})) [14]=hd at*;simp[t8,t9,db,d5,d6,WS];rfl
  .rw[Cv _ _ _ (by decide)];simp[q0]
 .have hr:=acA (T:=Z) (C:=C) (n:=m+4) (g:=52) (f:=vG 58) (ps:= #[59]) (a:=FC) (b:=nY) (tm:=o) (df:=[]) (h:=w) (show aA o (vG 58)=_ from t58) (by rw[<-Qx,<-x,V];exact WZ);rw[V]at hr;refine cast (congrArg (ay _ _ _ _) hr.symm) ?_;refine⟨rfl,[14],rfl,by simp,by simp,λb hb=>?_,B,WY,?_⟩
  .rw[yi.1 hb];exact qD
  .rw[Cv _ _ _ (by decide)];exact q0
end
structure xi where
 st:St
 t:zA
 v:zA
 c:Bool
 aQ:Int
 e7:ByteArray
def xi.tr(x:xi):xh:=⟨x.st,1,x.t,x.v,x.c,x.aQ,0⟩
structure xi.Ok(x:xi):Prop where
 tr:x.tr.Ok
 cl:o8 x.st.dZ x.t=(x.e7,Y)
 tel:cQ x.t=([],x.t)
 nd:zD x.t<1073741824
 hi:0<I x.st.cH
 IY:I x.st.cH<ao
 hl:x.st.cH[I x.st.cH-1]?=O bR
def rf(a:E×zA->zA×Int)(x:xi):List E:=if(a (aC [dl x.t x.v x.c],x.t)).2=0 then cU x.st 1 else cU x.st 0
def E7(a:E×zA->zA×Int)(b:zA->zA×Int)(x:xi):MO:=if kZ a b x.tr=0 then .ret (aTu [cJ (aC [fI x.t x.c]) x.aQ,J 0])else .aU (ik 11)
abbrev PH(b:Nat)(x:xi):List E:=[pB b,cJ (aC [dl x.t x.v x.c]) x.aQ,J 0,J 0]
def ajg{c:E×zA->zA×Int}{f:zA->zA×Int}(x:xi)(F:Gn x.st.env c f)(hx:x.Ok):AY Z prog 52 110 G (λ_:Unit=>True) (λb _=>PH b x) (λ_=>cU x.st 0) (λ_=>rf c x) (λ_=>E7 c f x):=by
 let⟨w,oI,A,B,hi,IY,hl⟩:=hx;have h72:=alx x.tr F w;let⟨p,hT,Gq,hk,Gk,hwo⟩:=w;let⟨hE,e,hf,hp,hcv⟩:=hT;have p:x.st.Ok:=p;have hE:nA x.st.env:=hE;have hf:fM bR 0 x.st.env=O e:=hf
 have het:e.type=x.t:=by have:nk (x.st.env,bR)=x.t:=Gq;unfold nk at this;simp only[hf]at this;exact this
 rintro⟨⟩ _ h b hb
 obtain⟨C,hC,Mq,k68,Ws,k70,k94,k95,k72,WV,n91,Mr,Fz⟩:∃C,aR Z prog C/\Has C 33 Aw (λx=>[x.1,D x.2]) (λx=>cj (c x))/\bS C 68 (λ_:Int=>True) (λe=>[J e]) C4/\Has C 69 (λt=>zD t<1073741824) (λt=>[D t]) (λt=>aTu [al (cQ t).1,D (cQ t).2])/\
  Has C 70 (λx:St×zA=>x.1.Ok/\zD x.2<1073741824) (λx=>[dO x.1,D x.2]) (λx=>pU (o8 x.1.dZ x.2))/\Has C 94 (λ_:List ByteArray=>True) (λl=>[bL l]) Gp/\Has C 95 (λx:List zB×ByteArray=>nA x.1) (λx=>[bw x.1,zN x.2]) (λx=>nH x.1 x.2)/\
  bQ C 72 110 G (λ_:Unit=>True) (λb _=>PF b x.tr) (λ_=>cU x.st 1) (λ_=>cU x.st 1) (λ_=>C5 x.tr (kZ c f x.tr))/\C 71=(λ_ _=>U)/\C 91=(λ_ _=>U)/\C 92=(λ_ _=>U)/\C 115=(λ_ _=>U):=by
  refine⟨_,iv (aZ (aZ (aZ (aZ (jL (aZ aW F.f) aaO) OX) apc) ajc) Ks) h72,?_,?_,?_,?_,?_,?_,?_,rfl,rfl,rfl,rfl⟩
  .exact Has.Sk (by decide) (Has.Sk (by decide) (Has.Sk (by decide) (Has.Sk (by decide) (Has.Sk (by decide) (Has.Sk (by decide) (Has.Ad λx y e=>(by let⟨x1,x2⟩:=x;let⟨y1,y2⟩:=y;simp at e;rw[e.1,cf e.2])))))))
  .exact bS.skip (by decide) (bS.skip (by decide) (bS.skip (by decide) (bS.skip (by decide) (bS.skip (by decide) (bS.add λx y _ _ e=>(by simp at e;rw[e]))))))
  .exact Has.Sk (by decide) (Has.Sk (by decide) (Has.Sk (by decide) (Has.Sk (by decide) (Has.Ad λx y e=>(by simp at e;rw[cf e])))))
  .refine Has.Sk (by decide) (Has.Sk (by decide) (Has.Sk (by decide) (Has.Ad λx y e=>?_)));let⟨x1,x2⟩:=x;let⟨y1,y2⟩:=y;simp at e;rw[apb e.1,cf e.2]
  .exact Has.Sk (by decide) (Has.Sk (by decide) (Has.Ad λx y e=>(by simp at e;rw[CA e])))
  .exact Has.Sk (by decide) (Has.Ad λx y e=>(by let⟨x1,x2⟩:=x;let⟨y1,y2⟩:=y;simp at e;rw[pF e.1,e.2]))
  .refine bQ.add λb b' _ _ e=>⟨?_,λ_=>⟨rfl,rfl⟩⟩;injection e with r _;injection r with r;injection r with r;injection r with r
 have IV:∀n q,af Z C n (aj 33 [aC [dl x.t x.v x.c],D x.t] q)=.r (cj (c (aC [dl x.t x.v x.c],x.t))) q U:=λn q=>Mq.ev (T:=Z) n (x:=(aC [dl x.t x.v x.c],x.t)) Gk q;have e68:∀n e q,af Z C n (aj 68 [J e] q)=(C4 e).bi q:=λn e q=>k68.ev (T:=Z) n (x:=e) trivial q
 have e69:∀n q,af Z C n (aj 69 [D x.t] q)=.r (aTu [al [],D x.t]) q U:=λn q=>by have:=Ws.ev (T:=Z) n (x:=x.t) B q;rw[A]at this;exact this
 have L:∀n q,af Z C n (aj 70 [dO x.st,D x.t] q)=.r (aTu [zN x.e7,zP Y]) q U:=λn q=>by have:=k70.ev (T:=Z) n (x:=(x.st,x.t)) ⟨p,B⟩ q;simp only[oI]at this;exact this
 have Qw:∀n q,af Z C n (aj 94 [bL x.st.cH] q)=.r (Gp x.st.cH) q U:=λn q=>k94.ev (T:=Z) n (x:=x.st.cH) trivial q
 have e95:∀n q,af Z C n (aj 95 [bw x.st.env,zN bR] q)=.r (aTu [ee e,J 0]) q U:=λn q=>by have:=k95.ev (T:=Z) n (x:=(x.st.env,bR)) hE q;unfold nH at this;simp only[hf]at this;exact this
 have M:Qv C x.st x.e7 e:=⟨n91,Fz,by rw[het];exact L,Qw,e95⟩;have WW:∀n(q:H),q.g 0=O (K (cU x.st 1) 110 G)->af Z C n (aj 72 [pB 0,cJ (aC [dl x.t x.v x.c]) x.aQ,J 0,J 0,al [],D x.t,l9] q)=(C5 x.tr (kZ c f x.tr)).bi (q.p 0 (K (cU x.st 1) 110 G)):=λn q g=>k72.ev (T:=Z) n (x:=()) trivial g;have i:=F.two x.tr
 have Ci:C5 x.tr (kZ c f x.tr)=.ret (aTu [cJ (aC [fI x.t x.c]) x.aQ,zP Y])\/C5 x.tr (kZ c f x.tr)=.aU (ik 11):=by
  rcases i with e|e
  .rw[e];exact zq rfl
  .rw[e];exact zt rfl
 have N:=F.f2 (aC [dl x.t x.v x.c],x.t)
 have hr2:(c (aC [dl x.t x.v x.c],x.t)).2=0\/(c (aC [dl x.t x.v x.c],x.t)).2=11:=by
  rcases N with e|e
  .rw[e];exact zq rfl
  .rw[e];exact zt rfl
 have h11:(c (aC [dl x.t x.v x.c],x.t)).2=11->kZ c f x.tr=11:=λe=>by show(two (c (aC [dl x.t x.v x.c],x.t)) (f x.t)).2=11;unfold two;rw[if_neg (by rw[e];decide),e]
 have WL:(c (aC [dl x.t x.v x.c],x.t)).2=0->(c (aC [dl x.t x.v x.c],x.t)).1=x.t:=λe0=>by
  rcases N with e|e
  .rw[e]
  .rw[e]at e0;exact absurd (show(11:Int)=0 from e0) (by decide)
 have run:ay (K6 Z [yB 8 47,yB 9 52] (λv j=>((c (aC [dl x.t x.v x.c],x.t)).2=0/\C5 x.tr (kZ c f x.tr)=.ret (aTu [cJ (aC [fI x.t x.c]) x.aQ,zP Y])/\v=aTu [cJ (aC [fI x.t x.c]) x.aQ,J 0]/\j.g 0=O (K (cU x.st 1) 110 G)))) (K6 Z [yB 8 47,yB 9 52] (λv j=>((c (aC [dl x.t x.v x.c],x.t)).2=0/\C5 x.tr (kZ c f x.tr)=.ret (aTu [cJ (aC [fI x.t x.c]) x.aQ,zP Y])/\v=aTu [cJ (aC [fI x.t x.c]) x.aQ,J 0]/\j.g 0=O (K (cU x.st 1) 110 G)))) (λ_ _=>False)
  (UI (λch j=>kZ c f x.tr=11/\ch=[⟨ik 11,G,G⟩]/\j.g 0=O (K (rf c x) 110 G))) (aw Z (af Z C (5+5)) ⟨52,U⟩ (zS (z f52 pF0) (zS (z f52 pF1) (zS (z f52 pF2) (zS (z f52 pF3) (zS (z f52 pF4) (zS (z f52 pF5) (zS (z f52 pF6) (zS qb (z f52 pT8))))))))) ⟨bF (PH 0 x) 0 .Nl,[],H.e.w (K (cU x.st 0) 110 G),U⟩):=by
  refine ax (auW.Mo (λ_ q=>q) (λ_ q=>q.elim) (λ_ _ q=>q) (λ_ _ q=>q.elim)) λtm h d=>?_;refine ax ((auX d).Mo (λ_ q=>q) (λ_ q=>q.elim) (λ_ _ q=>q) (λ_ _ q=>q.elim)) λtm h d=>?_;refine ax ((auY d (IV _)).Mo (λ_ q=>q) (λ_ q=>q.elim) (λ_ _ q=>q) (λ_ _ q=>q.elim)) λtm h⟨d,g7,k,t11⟩=>?_;refine ax ((auZ d g7 k t11 hr2 (e68 _ _)).Mo (λ_ q=>q) (λ_ q=>q.elim) (λ_ _ q=>q) (λch s q=>?_)) λtm h⟨P,d,g7,k⟩=>?_
  .let⟨Q,R,u,S,V⟩:=q;refine⟨R,[],Q,by simp,by simp,λb hb=>by simp at hb,h11 u,S,?_⟩;unfold rf;rw[if_neg (by rw[u];decide)];exact V
  rw[WL P]at g7;refine ax ((au0 d g7 k (e69 _)).Mo (λ_ q=>q) (λ_ q=>q.elim) (λ_ _ q=>q) (λ_ _ q=>q.elim)) λtm h⟨d,g8,g9,t12,t13⟩=>?_;refine ax ((au1 d g8 g9 t12 t13 (L _)).Mo (λ_ q=>q) (λ_ q=>q.elim) (λ_ _ q=>q) (λ_ _ q=>q.elim)) λV8 h'⟨eh,W,V6,u13,u14,u15⟩=>?_;subst eh;refine ax ((au2 W V6 u13 u14 u15).Mo (λ_ q=>q) (λ_ q=>q.elim) (λ_ _ q=>q) (λ_ _ q=>q.elim)) λaJl h''⟨eh,o,V7,v13,v14⟩=>?_;subst eh;refine iw ((au6 (m:=5) (l2:=[fI x.t x.c]) o g8 g9 V7 v13 v14 M Mr WV hi IY hl WW Ci).Mo (λ_ q=>q) (λs q=>?_) (λ_ _ q=>q) (λch s q=>?_)) (λ_ q=>q.elim)
  .let⟨Q,bs,R,u,S,V,v,hv,q6,q7,q8,q9⟩:=q;exact⟨Q,bs,R,u,S,V,v,hv,q6,P,q7,q8,q9⟩
  .let⟨Q,bs,R,u,S,V,q6,q7,q8⟩:=q;refine⟨Q,bs,R,u,S,V,?_,q7,?_⟩
   .rcases i with e|e
    .rw[e]at q6;exact absurd q6 (by intro a;cases a)
    .exact e
   .unfold rf;rw[if_pos P];exact q8
 refine gJ.toM (a0:=PH 0 x) (C:=C) (n:=10) tok hC (c0:=cU x.st 0) (c2:=rf c x) ?_ (.Cs (.ptr 0) (.Cs (.pure (Aj _ _)) (.Cs (.pure (.Gd rfl)) (.Cs (.pure (.Gd rfl)) .nil)))) (λm a' q=>nV m a' q) (Eo p 0) (by unfold rf;split;exact Eo p 1;exact Eo p 0) hb;rcases aaP (n:=8) F52 alz rfl run with⟨v,j,er,P,X,rfl,g0⟩|⟨ch,j,er,W0,rfl,g0⟩
 .rw[er]
  have e0:kZ c f x.tr=0:=by
   rcases i with e|e
   .exact e
   .rw[e]at X;exact absurd X (by intro a;cases a)
  unfold E7 rf;rw[if_pos e0,if_pos P];exact .ret (.Pu (.Tt (.Cs (Aj _ _) (.Cs (.Gd rfl) .Nl)))) g0
 .rw[er];unfold E7;rw[if_neg (by rw[W0];decide)];exact .aU (.Pu (RB 11)) g0
def F51:Z.f 51=O f51:=by kernel_rfl
def F32:Z.f 32=O f32:=by kernel_rfl
def as1{x y:zh}:fu Z h sL 20 x y (O (ik e)) (O .nilIface)=.v (zP Y) h:=by kernel_rfl
def aqM:rJ Z h 106 Y (Z.u 106) (O (ik e))=.v (aTu [aAg [J e],zP Y]) h:=by kernel_rfl
def awQ:Am.zI Z 106=O 1:=by kernel_rfl
def aon{n:Int}{g:Bool}(a:ae h k (K [N] t g)):zG Z h 106 (aAg [J n]) (pB k)=O (h.p k (K [J n] t g)):=by rw[dY (v:=aAg [J n]) (n:=1) (off:=0) awQ rfl rfl a (by show 1<=1;omega)];rfl
@[simp] theorem aFv:aX Z h 106 0 (O (zM (O ⟨n,k,U⟩)))=.v (zM (O ⟨n,k,U⟩)) h:=by kernel_rfl
def awR:zE Z 52 l n=l[n]?:=dK (show Am.zK Z 52=O G by kernel_rfl) l n
def as2(a:C 51=λ_ _=>U):af Z C (n+2) (.call (bK 51 [pB k,pB m]) [] h U)=.r (aTu []) h U:=by rw[oy _ (by rw[a]),dx (vs:=[]) (h2:=h) (ab:=U) F51 rfl rfl (by simp[f51,HA,an])];rfl
def as3{B Dd:Nat}{x:Int}{c0:List E}(f:h.b=0)(u:B<h.n)(v:Dd<h.n)(i:ae h B (ad c0 47))(j:I c0=4)(k:ae h Dd (ad [J x] 52))(b:¬Dd=B):
 ∃h1,af Z C (n+2) (.call (bK 51 [pB B,pB Dd]) [] h (O [⟨ik e,G,G⟩]))=.r (aTu []) h1 (O [⟨ik e,Y,G⟩])/\h1.b=0/\ae h1 B (ad z4 47)/\ae h1 Dd (ad [J e] 52):=by
 have l:¬B=h.n:=by omega
 have m:¬Dd=h.n:=by omega
 have w:¬h.n=B:=by omega
 have y:¬h.n=Dd:=by omega
 have g:¬B=Dd:=λq=>b q.symm;have o:B<h.n+1:=by omega
 have p:Dd<h.n+1:=by omega
 have r:=λ(d:H)(q:ae d B (ad c0 47))=>pN (c:=z4) rfl rfl q j;have s:=λ(d:H)(q:ae d Dd (ad [J x] 52))=>qF (n:=e) q;have t:=λ(d:H)(q:ae d h.n (ad [J 0] 106))=>aon (n:=e) q
 have a:∃tm,aw Z (af Z C (n+1)) ⟨51,U⟩ (f51.body.getD we) ⟨bF [pB B,pB Dd] 0 .Nl,[],h,O [⟨ik e,G,G⟩]⟩=.c .Nr ⟨tm,[],(((h.w (ad [J 0] 106)).p h.n (ad [J e] 106)).p B (ad z4 47)).p Dd (ad [J e] 52),O [⟨ik e,Y,G⟩]⟩:=by simp[f51,as1,aqM,Jb,an,acy,f,i,k,l,m,g,o,p,r,s,t,awR,b,cV,cZ,cY,dc,dt,cO,cR]
 let⟨tm,a⟩:=a;refine⟨(((h.w (ad [J 0] 106)).p h.n (ad [J e] 106)).p B (ad z4 47)).p Dd (ad [J e] 52),?_,by simp[f],by simp[g],by simp⟩;rw[G2];show cB Z (af Z C (n+1)) 51 [pB B,pB Dd] h (O [⟨ik e,G,G⟩]) (Z.f 51)=_;rw[Hb (vs:=[]) F51 rfl rfl (zq rfl) a (by simp[f51])];rfl
abbrev adk:List E:=[pB 2,pB 3]
def alA:f32.body=O (zS (z f32 pF0) (zS (z f32 pF1) (zS (z f32 pF2) (zS (z f32 pF3) (zS (z f32 pF4) (zS (z f32 pF5) .ret)))))):=rfl
def ad6(s:St):zE Z 27 (jt s) 0=O (dO s):=by rw[fV (show Am.zK Z 27=O Y by kernel_rfl) (show Am.zI Z 27=O 7 by kernel_rfl),nw (by simp)];rfl
@[simp] theorem aJm:zero Z 110=O (aAg [ba,ba,ba,ba,ba,ba,ba,J 0]):=by kernel_rfl
def as4{h:H}(s:St):eK Z h 110 (O (aAg [ba,ba,ba,ba,ba,ba,ba,J 0])) (O [(0,dO s)])=.v (aAg (cU s 0)) h:=by kernel_rfl
structure Sr(s:St)(m:Meta)(aQ:Int)(n:Nat)(tm:Am.Tr E)(h:H):Prop where
 b:h.b=0
 nx:h.n=n
 g0:ae h 0 (ad (jt s) 27)
 g1:ae h 1 (ad (cM (aC [m]) aQ) 47)
 g2:ae h 2 (ad z4 47)
 g3:ae h 3 (ad [J 0] 52)
 t2:aa tm 2 (J 0)
 t3:aa tm 3 (pB 0)
 t4:aa tm 4 (pB 1)
 t6:aa tm 6 (pB 2)
 t7:aa tm 7 (pB 3)
section
variable{ev:zC->ag}{s:St}{aQ:Int}{m:Meta}{tm:Am.Tr E}{h:H}{df:List zc}
def au7:ay (bB (Sr s m aQ 4)) ca ap ap (aF Z ev 32 (z f32 pF0) (bF [dO s,cJ (aC [m]) aQ,J 0] 0 .Nl) H.e):=by simp[z,f32];exact .mk ⟨by simp,by simp,by simp,by simp,by simp,by simp,by simp,by simp,by simp,by simp,by simp⟩
def au8(b:Sr s m aQ 4 tm h):ay (bB (Sr s m aQ 4)) ca ap ap (aF Z ev 32 (z f32 pF1) tm h):=by let⟨a,nx,g0,g1,g2,g3,t2,t3,t4,t6,t7⟩:=b;simp[z,f32,t2,t4,a,g1,Ck,an];exact .mk ⟨a,nx,g0,g1,g2,g3,by simp[t2],by simp[t3],by simp[t4],by simp[t6],by simp[t7]⟩
def au9(b:Sr s m aQ 4 tm h)(c:m.known=G):ay (bB (Sr s m aQ 4)) ca ap ap (aF Z ev 32 (z f32 pF2) tm h):=by let⟨a,nx,g0,g1,g2,g3,t2,t3,t4,t6,t7⟩:=b;have d:∀h:H,dI Z h (O (zf 42)) (O (aC [m])) (O (J 0))=.v (ar (fE m) 0) h:=λh=>GV (h:=h) (l:=[m]) (k:=zx) (i:=0) (by simp);simp[z,f32,t2,t4,a,g1,Ck,d,c,an];exact .mk ⟨a,nx,g0,g1,g2,g3,by simp[t2],by simp[t3],by simp[t4],by simp[t6],by simp[t7]⟩
def ava(b:Sr s m aQ 4 tm h):ay (js df λtm h=>Sr s m aQ 5 tm h/\ae h 4 (ad (cU s 0) 110)/\aa tm 8 (pB 4)) ca ap ap (aw Z ev ⟨32,U⟩ (z f32 pF4) ⟨tm,df,h,U⟩):=by let⟨a,nx,g0,g1,g2,g3,t2,t3,t4,t6,t7⟩:=b;simp[z,f32,t3,a,nx,g0,ad6,as4];exact .mk ⟨⟨by simp[a],by simp[nx],by simp[nx,g0],by simp[nx,g1],by simp[nx,g2],by simp[nx,g3],by simp[t2],by simp[t3],by simp[t4],by simp[t6],by simp[t7]⟩,by simp[nx],by simp⟩
end
abbrev Qz(a:E)(aQ:Int)(e:Int):E:=aTu [if e=0 then cJ a aQ else aAg z4,J e]
def agH{d:E×zA->zA×Int}{r:zA->zA×Int}(x:xi)(F:Gn x.st.env d r)(y:x.Ok):∀j,bP Z prog (zU (za 32) #[] #[]) [dO x.st,cJ (aC [dl x.t x.v x.c]) x.aQ,J 0] j U (.r (Qz (aC [fI x.t x.c]) x.aQ (kZ d r x.tr)) j U):=by
 have t:=ajg x F y;have m:x.st.Ok:=y.tr.1
 obtain⟨C,M,u,v⟩:∃C,aR Z prog C/\bQ C 52 110 G (λ_:Unit=>True) (λb _=>PH b x) (λ_=>cU x.st 0) (λ_=>rf d x) (λ_=>E7 d r x)/\C 51=(λ_ _=>U):=by refine⟨_,iv aW t,bQ.add λb b' _ _ e=>⟨?_,λ_=>⟨rfl,rfl⟩⟩,rfl⟩;injection e with k _;injection k with k;injection k with k;injection k with k
 have a:∀n(q:H),q.g 4=O (ad (cU x.st 0) 110)->af Z C n (aj 52 [pB 4,cJ (aC [dl x.t x.v x.c]) x.aQ,J 0,J 0] q)=(E7 d r x).bi (q.p 4 (ad (rf d x) 110)):=λn q g=>u.ev (T:=Z) n (x:=()) trivial g;have w:=F.two x.tr;have o:=BY (cM (aC [dl x.t x.v x.c]) x.aQ) rfl;have i:bX [dO x.st,cJ (aC [dl x.t x.v x.c]) x.aQ,J 0]:=.Cs (Ej m) (.Cs (Aj _ _) dF);refine GU (gd:=51) (cap:=adk) tok C M i 10 F32 alA rfl ?_;refine ax (au7.Mo fP dN bT aP) λtm h f=>?_;refine ax ((au8 f).Mo fP dN bT aP) λtm h f=>?_;refine ax ((au9 f rfl).Mo fP dN bT aP) λtm h f=>?_;refine iw (N':=js (lK 51 adk) (Sr x.st (dl x.t x.v x.c) x.aQ 4)) ?_ λs m=>?_
 .let⟨l,nx,g0,g1,g2,g3,t2,t3,t4,t6,t7⟩:=f;simp[z,f32,t6,t7];exact .mk ⟨l,nx,g0,g1,g2,g3,by simp[t2],by simp[t3],by simp[t4],by simp[t6],by simp[t7]⟩
 obtain⟨N,h1,rfl,f⟩:=m.elim;refine iw ((ava f).Mo fP dN aP aP) λs m=>?_;obtain⟨P,Q,rfl,f,A,L⟩:=m.elim;let⟨l,nx,g0,g1,g2,g3,t2,t3,t4,t6,t7⟩:=f;rcases w with p|p
 .have a:∀n(q:H),q.g 4=O (ad (cU x.st 0) 110)->af Z C n (aj 52 [pB 4,cJ (aC [dl x.t x.v x.c]) x.aQ,J 0,J 0] q)=.r (aTu [cJ (aC [fI x.t x.c]) x.aQ,J 0]) (q.p 4 (ad (rf d x) 110)) U:=λn q g=>by rw[a n q g];unfold E7;rw[if_pos p];rfl
  have R:=λ(j:H)(g:ae j 2 (ad z4 47))=>pN (c:=cM (aC [fI x.t x.c]) x.aQ) rfl rfl g rfl;have S:=λ(j:H)(g:ae j 3 (ad [J 0] 52))=>qF (n:=0) g;rw[p];simp[z,f32,t2,t4,t6,t7,L,l,g1,g2,g3,A,o,a,R,S];refine⟨rfl,rfl,_,_,_,_,as2 v,Pa (c:=cM (aC [fI x.t x.c]) x.aQ) (e:=0) (by simp[l]) (by simp) rfl (by simp) (by simp[t6]) (by simp[t7]),?_⟩;exact .Tt (.Cs (.Pu (Aj _ _)) ka)
 .have a:∀n(q:H),q.g 4=O (ad (cU x.st 0) 110)->af Z C n (aj 52 [pB 4,cJ (aC [dl x.t x.v x.c]) x.aQ,J 0,J 0] q)=.p [⟨ik 11,G,G⟩] (q.p 4 (ad (rf d x) 110)) U:=λn q g=>by rw[a n q g];unfold E7;rw[if_neg (by rw[p];decide)];rfl
  rw[p];refine iw (N':=λ_=>False) ?_ dN;simp[z,f32,t2,t4,L,l,g1,A,o,a];let⟨h5,V,W,X,v3⟩:=as3 (C:=C) (n:=9) (B:=2) (Dd:=3) (h:=Q.p 4 (ad (rf d x) 110)) (e:=11) (x:=0) (c0:=z4) (by simp[l]) (by simp[nx]) (by simp[nx]) (by simp[g2]) rfl (by simp[g3]) (by decide);refine⟨rfl,rfl,_,_,_,_,_,V,rfl,Pa (c:=z4) (e:=11) W X rfl v3 (by simp[t6]) (by simp[t7]),?_⟩;exact .Tt (.Cs (.Pu (.agg (.Cs bJ HY))) ka)
def F10:Z.f 10=O f10:=by kernel_rfl
def alB:f10.body=O (zS (z f10 pF0) (zS (z f10 pF1) (zS (z f10 pF2) (zS (z f10 pF3) (z f10 pT4))))):=rfl
def PI:Array yH:=bq (z f10 pF3)
def aqN:z f10 pF3=yM 4 PI Y:=rfl
def UK:Am.Tr Nat:=bj PI.toList 0 .Nl
def aqO:aN (aE UK 12) 11=Y:=by kernel_rfl
abbrev mK(t:zA):List E:=[J t.w,J t.Q,zN t.F,aO t.H,al t.M,zP G,J 0,J 0,zN ⟨#[]⟩,ba,ba,zP Y]
abbrev FD:List E:=[J 0,J 0,zN ⟨#[]⟩,ba,ba,zP G,J 0,J 0,zN ⟨#[]⟩,ba,ba,zP G]
@[simp] theorem z42:zero Z 42=O (aAg FD):=by kernel_rfl
def E8:eK Z h 42 (O (aAg FD)) (O [(0,D a),(3,zP Y)])=.v (aAg (mK a)) h:=by rw[eD];kernel_rfl
def EI:iQ Z h 1 (O (zf 42)) (O [(0,aAg (mK a))])=.v (zL (pO h.n) 1 1) (h.w (ad (mK a) 42)):=by kernel_rfl
def EJ{a:Option Addr}:eK Z h 47 (O (aAg z4)) (O [(0,zL a n k)])=.v (aAg [zL a n k,ba,ba,J 0]) h:=by kernel_rfl
def aqP(g:Nat->Option ai)(t:zA):DV g (aAg (mK t)) (fE (dl t zT Y)):=by have a:tc zT=[J 0,J 0,zN ⟨#[]⟩,aO [],al []]:=rfl;show DV g (aAg (mK t)) (aAg (tc t++(zP G::(tc zT++[zP Y]))));rw[a];refine .agg (.Cs eI (.Cs eI (.Cs eI (.Cs (.Pu (jM _)) (.Cs (.Pu (fb _)) (.Cs eI (.Cs eI (.Cs eI (.Cs eI (.Cs .cP (.Cs .cP ka)))))))))))
def aoo:aI oM eR/\zD eR<=60000:=⟨.mk ⟨by decide,by decide,λq=>absurd q.1 (by decide)⟩ λx a=>(by cases a),by decide⟩
def ajh(a:E)(h:bH a):Aw (a,eR):=⟨h,aoo⟩
def ahG{R:E×zA->zA×Int}{wE:zA->zA×Int}(x:xi)(F:Gn x.st.env R wE)(hx:x.Ok)(hv:x.v=zT)(hc:x.c=Y)(A:x.aQ=0):∃r:zA×Int,(r=(eR,0)\/r=(zT,11))/\∀b,bP Z prog (zU (za 10) #[] #[]) [dO x.st,D x.t] b U (.r (cj r) b U):=by
 have B:=agH x F hx;have L:=F.two x.tr;rw[hv,hc,A]at B;generalize kZ R wE x.tr=a at*;have hs:x.st.Ok:=hx.tr.1;have WR:=F.f2 (aC [fI x.t Y],eR);generalize hr:R (aC [fI x.t Y],eR)=r at*
 obtain⟨C,hC,k32,Mq⟩:∃C,aR Z prog C/\kY C 32 (Dg [3]) (λ_:Unit=>True) (λ_=>[dO x.st,cJ (aC [dl x.t zT Y]) 0,J 0]) (λ_=>Qz (aC [fI x.t Y]) 0 a)/\Has C 33 Aw (λx=>[x.1,D x.2]) (λx=>cj (R x)):=
  ⟨_,aZ (I8 (eM:=Dg [3]) aW (λ_ _=>B)) F.f,kY.skip (by decide) (kY.add λ_ _ _ _ _ _=>rfl),Has.Ad λx y e=>(by let⟨x1,x2⟩:=x;let⟨y1,y2⟩:=y;simp at e;rw[e.1,cf e.2])⟩
 have IV:∀n q,af Z C n (aj 33 [aC [fI x.t Y],D eR] q)=.r (cj r) q U:=λn q=>by have:=Mq.ev (T:=Z) n (x:=(aC [fI x.t Y],eR)) (ajh _ (Ab _)) q;rw[hr]at this;exact this
 have t:∀n(q:H),q.g 3=O (ad (mK x.t) 42)->af Z C n (aj 32 [dO x.st,aAg [zL (pO 3) 1 1,ba,ba,J 0],J 0] q)=.r (Qz (aC [fI x.t Y]) 0 a) (q.bx [3]) U:=λn q g=>
  k32.ev (T:=Z) n (x:=()) trivial (m:=q) ⟨by rw[g];simp,(by decide:¬(3∈([]:List Nat))),trivial⟩
   (.Cs (.Pu (Ej hs)) (.Cs (.agg (.Cs (.slice (pre:=[]) (post:=[]) (es:=[aAg (mK x.t)]) (ds:=[fE (dl x.t zT Y)]) (sz:=12) (e:=42) (gr:=G) (by show jC q [3] 3=_;rw[ny (by decide:3∈[3]) g];simp) rfl (λy hy=>by rw[yi.1 hy];rfl) rfl (zR _) (.Cs (aqP _ _) .Nl)) (.Cs eI adF))) ka))
 have main:∀d:zA×Int,(d=(if a=0 then r else(zT,11)))->∀b,bP Z prog (zU (za 10) #[] #[]) [dO x.st,D x.t] b U (.r (cj d) b U):=by
  intro d S b;refine jf tok C hC (.Cs (Ej hs) (.Cs (bg _) .Nl)) 10 F10 alB rfl ?_ b;show ay (bG Z [yB 4 31,yx 5] _ (.ret (cj d))) (bG Z [yB 4 31,yx 5] _ (.ret (cj d))) _ _ _;refine ax (Q0:=λs h=>h.b=0/\h.n=3/\ae h 0 (ad (jt x.st) 27)/\ae h 1 (ad (ah (D x.t)) 31)/\ae h 2 (ad z5 31)/\aa s 2 (pB 0)/\aa s 3 (pB 1)/\aa s 4 (pB 2)) ?_ λs h⟨u,w,g0,g1,V,t2,t3,v⟩=>?_
  .simp[z,f10];exact .mk ⟨by simp,by simp,by simp,by simp,by simp,by simp,by simp,by simp⟩
  refine ax (Q0:=λs h=>h.b=0/\ae h 2 (ad z5 31)/\ae h 4 (ad (if a=0 then cM (aC [fI x.t Y]) 0 else z4) 47)/\h.n=5/\aa s 4 (pB 2)/\aa s 6 (pB 4)/\aa s 7 (J a)) ?_ λs h⟨u,V,W,w,v,M,t7⟩=>?_
  .have t:∀n(q:H),q.g 3=O (ad (mK x.t) 42)->af Z C n (aj 32 [dO x.st,aAg [zL (pO 3) 1 1,ba,ba,J 0],J 0] q)=.r (aTu [aAg (if a=0 then cM (aC [fI x.t Y]) 0 else z4),J a]) (q.bx [3]) U:=λn q g=>by rw[t n q g];unfold Qz;split<;>rfl
   have l4:I (if a=0 then cM (aC [fI x.t Y]) 0 else z4)=4:=by split<;>rfl
   have o4:da (if a=0 then cM (aC [fI x.t Y]) 0 else z4)=Y:=by split<;>rfl
   generalize(if a=0 then cM (aC [fI x.t Y]) 0 else z4)=cz at*
   have X:=λ(b:H)(q:ae b 4 (ad z4 47))=>pN (c:=cz) l4 o4 q rfl;have kD:∀j,j≠3->((h.w (ad (mK x.t) 42)).bx [3]).g j=(h.w (ad (mK x.t) 42)).g j:=λj hj=>kQ (by simpa using hj);have kN:((h.w (ad (mK x.t) 42)).bx [3]).n=4:=by rw[Yc];simp[w]
   have kB:((h.w (ad (mK x.t) 42)).bx [3]).b=0:=by have:=rI (h:=h.w (ad (mK x.t) 42)) (by simp[u]) [3];exact this.2.1
   simp[z,f10,t2,t3,u,w,g0,g1,ad6,E8,EI,EJ,t,kN,X];exact .mk ⟨by simp[kB],by simp[kN,kD 2 (by decide),w,V],by simp,by simp[kN],by simp[v],by simp,by simp⟩
  rcases L with e0|e0
  .subst e0;rw[if_pos rfl]at W S;subst S;have el:(((aC [fI x.t Y]):E))=aC [fI x.t Y]:=rfl;refine ax (Q0:=λf N=>N=h/\aa f 4 (pB 2)/\aa f 6 (pB 4)) ?_ λfQ h1⟨eh,v,M⟩=>?_
   .simp[z,f10,M,t7,u,W,Ck,an];exact .mk ⟨rfl,by simp[v],by simp[M]⟩
   subst eh;refine ax (Q0:=λf N=>N.b=0/\ae N 2 (ad z5 31)/\ae N 5 (ad (ah (D d.1)) 31)/\aa f 4 (pB 2)/\aa f 8 (pB 5)/\aa f 7 (J d.2)) ?_ λjH h2⟨P,g22,g25,Q,t82,t72⟩=>?_
   .rw[aqN,eg,dJ];have b1:=aqO;have q0:bj PI.toList 0 .Nl=UK:=rfl;rw[q0];generalize UK=bs at*;have l4:4<h1.n:=by omega
    have ix:∀h:H,dI Z h (O (zf 42)) (O (aC [fI x.t Y])) (O (J 0))=.v (ar (fE (fI x.t Y)) 0) h:=λh=>GV (h:=h) (l:=[fI x.t Y]) (k:=zx) (i:=0) (by simp);have f2:∀(h:H)(e:E)(o:Nat),aX Z h 42 2 (O (ar e o))=.v (ar e (o+6)) h:=λh e o=>by kernel_rfl
    simp[PI,bq,z,f10,M,u,w,W,Ck,ix,f2,IV,cV,cZ,cY,dc,dt,cO,cR,b1];exact .mk ⟨by simp[u],by simp[w,V],by simp,by simp[v],by simp,by simp⟩
   have X:=λ(b:H)(q:ae b 2 (ad z5 31))=>q;simp[z,f10,Q,t82,t72,P,g22,g25];exact bG.Pu (JN _) (by simp[Q,P])
  .subst e0;rw[if_neg (by decide)]at W S;subst S;refine iw (N':=λ_=>False) ?_ dN;have X:=λ(b:H)(q:ae b 2 (ad z5 31))=>fp (c:=z5) rfl rfl q rfl;have p:=fh (c:=z5) rfl;simp[z,f10,v,M,t7,V,an,jn,X];exact⟨rfl,rfl,aTu [aAg z5,J 11],_,_,rfl,by simp[v,u,p];rfl,.Tt (.Cs (rS _) ka)⟩
 exact⟨if a=0 then r else(zT,11),by rcases L with e|e;·rw[if_pos e];exact WR
                                    .rw[if_neg (by rw[e];decide)];exact zt rfl,main _ rfl⟩
end Go.Proofs.YtpeialehpoilbaaGreat
namespace Go.Am
section
variable{T:au}{P:zo}
attribute [simp] sub
@[simp] def Vj:List Bool->yG->yG
  |[],c=>c
  |b::p,c=>sub b (Vj p c)
def kK(T:au)(g:zZ)(p:List Bool):yG:=match T.f g with
 |some F=>Vj p (F.body.getD we)
 |none=>we
@[simp] def s0(T:au)(g:zZ):List Bool->yG->yG
  |p,zS x y=>zS (s0 T g (G::p) x) (s0 T g (Y::p) y)
  |p,.cond t x y=>.cond t (s0 T g (G::p) x) (s0 T g (Y::p) y)
  |p,zv i x=>zv i (s0 T g (G::p) x)
  |p,yb _=>yb (kK T g (G::p))
  |_,c=>c
def Hk{g:zZ}:∀(c:yG)(p:List Bool),kK T g p=c->s0 T g p c=c
 |.seq x y,p,h=>by
  have e:∀b,kK T g (b::p)=sub b (zS x y):=λb=>by rw[<-h];unfold kK;cases T.f g<;>(try cases b)<;>rfl
  rw[s0,Hk x _ (e G),Hk y _ (e Y)]
 |.cond t x y,p,h=>by
  have e:∀b,kK T g (b::p)=sub b (.cond t x y):=λb=>by rw[<-h];unfold kK;cases T.f g<;>(try cases b)<;>rfl
  rw[s0,Hk x _ (e G),Hk y _ (e Y)]
 |.block i x,p,h=>by
  have e:kK T g (G::p)=x:=by show kK T g (G::p)=sub G (zv i x);rw[<-h];unfold kK;cases T.f g<;>rfl
  rw[s0,Hk x _ e]
 |.loop x,p,h=>by
  have e:kK T g (G::p)=x:=by show kK T g (G::p)=sub G (yb x);rw[<-h];unfold kK;cases T.f g<;>rfl
  rw[s0,e]
 |.skip,_,_|.region ..,_,_|.rangeFunc ..,_,_|.exit _,_,_|.scope _,_,_|.label _,_,_|.goto _,_,_|.ret,_,_|.refuse _,_,_=>rfl
def bC{g:zZ}{F:Func}(h:T.f g=O F)(p:List Bool):kK T g p=s0 T g p (Vj p (F.body.getD we)):=
 (Hk _ _ (by unfold kK;rw[h])).symm▸(by unfold kK;rw[h])
namespace Sym
variable(n k:Nat)
@[simp] theorem aJn:((n:Int)<=(no_index (uB k):Int))=(n<=k):=by show((n:Int)<=(k:Int))=_;apply propext;omega
@[simp] theorem aJo:((n:Int)<(no_index (uB k):Int))=(n<k):=by show((n:Int)<(k:Int))=_;apply propext;omega
@[simp] theorem aJp:((no_index (uB k):Int)<(n:Int))=(k<n):=by show((k:Int)<(n:Int))=_;apply propext;omega
@[simp] theorem aJq:((n:Int)=(no_index (uB k):Int))=(n=k):=by show((n:Int)=(k:Int))=_;apply propext;omega
end Sym
def forA{fr:Fr}{B:yG}{a:Nat}{k:S->ag}{N R:Tr E->H->Prop}{X:Nat->Tr E->H->Prop}(n c:Nat)(b:Nat->Tr E->H->Prop)(o:b 0 r h)(p:n+c<=a)(t:n<1099511627776)
 (step:∀i r h a,i<n->b i r h->c<=a->zx.wrap ((i:Int)+1)=(i:Int)+1->aD (b (i+1)) R bE (aw T (af T C a) fr B ⟨r,[],h,U⟩))
 (done:∀r h a,b n r h->c<=a->aD ap R (λj r h=>j=m/\aD N R X (k ⟨r,[],h,U⟩)) (aw T (af T C a) fr B ⟨r,[],h,U⟩)):
 aD N R X (jm k (lq m (aw T (af T C a) fr (yb B) ⟨r,[],h,U⟩))):=by
 have d:=RY (T:=T) (C:=C) (fr:=fr) (B:=B) c (λj r h=>∃i,i<=n/\j=n-i/\b i r h) R (λj r h=>j=m/\aD N R X (k ⟨r,[],h,U⟩)) (by
  rintro j r h a ⟨i,s,rfl,g⟩ l;rcases vh s with f|rfl
  .exact(step i r h a f g l (by simp[xQ,xJ,y9];omega)).Mo (λ_ _ q=>⟨n-(i+1),by omega,i+1,by omega,rfl,q⟩) bT jr
  .exact(done r h a g l).Mo aP bT cS) a n r h ⟨0,Nat.zero_le _,rfl,o⟩ p
 rcases d.cases with⟨_,_,_,q⟩|⟨r,a,e,q⟩|⟨i,r,a,e,rfl,q⟩
 .cases q
 .rw[e];exact q
 .rw[e,Sym.Jg,ek rfl];exact q
def jq(d:bM T P){β:Type}{b:Func}{args:List E}{r:β->E}{Q:β->Prop}(C:aV)(o:aR T P C)(p:bX args)(q:∀n,bH (r n))(n:Nat)(k:T.f f=O b)(s:b.body.isSome=Y)
 (i:b.results.toList=[yx m])(a:aD (λj _=>∃v,aa j m (r v)/\Q v) (λj _=>∃v,aa j m (r v)/\Q v) bE (aF T (af T C (n+1)) f (kK T f []) (bF args 0 .Nl) H.e)):
 ∃v,Q v/\∀h,bP T P (zU (za f) #[] #[]) args h U (.r (r v) h U):=by
 let⟨c,l⟩:=uP.1 s;have e:kK T f []=c:=by unfold kK;rw[k];show b.body.getD we=c;rw[l];rfl
 rw[e]at a;exact JV d C o p q n k l i a
def abL{α β:Type}[Inhabited β]{g:zZ}{pre:α->Prop}{d:α->List E}(r:β->E)(Q:α->β->Prop)(e:α->Nat)
 (step:∀x,pre x->∀c:α->β,aJ T P g (λy=>e y<e x/\pre y) d (λy=>r (c y))->(∀y,e y<e x->pre y->Q y (c y))->∃n,Q x n/\∀h,bP T P (zU (za g) #[] #[]) (d x) h U (.r (r n) h U)):
 ∃c:α->β,aJ T P g pre d (λx=>r (c x))/\∀x,pre x->Q x (c x):=by
 have f:∀n x,e x<n->pre x->∃v,Q x v/\∀h,bP T P (zU (za g) #[] #[]) (d x) h U (.r (r v) h U):=by
  intro n;induction n with
  |zero=>intro x i;omega
  |succ n j=>
   intro x i k;let⟨c,h1,l⟩:=iC (T:=T) (P:=P) (g:=g) (pre:=λy=>e y<e x/\pre y) r Q λy m=>j y (by omega) m.2;exact step x k c h1 λy a b=>l y ⟨a,b⟩
 exact iC r Q λx i=>f _ x (Nat.lt_succ_self _) i
abbrev Ev(T:au)(C:aV){α:Type}(g:zZ)(a:α->Prop)(b:α->List E)(f:α->E):Prop:=∀n x m,a x->af T C n (aj g (b x) m)=.r (f x) m U
abbrev dX{α:Type}(a:α->List E):Prop:=∀x y,a x=a y->x=y
section
variable{α β γ δ ε:Type}{g1 g2 g3 g4 g5:zZ}{p1:α->Prop}{c1:α->List E}{f1:α->E}{p2:β->Prop}{c2:β->List E}{f2:β->E}{p3:γ->Prop}{c3:γ->List E}{f3:γ->E}{p4:δ->Prop}{c4:δ->List E}{f4:δ->E}
 {p5:ε->Prop}{c5:ε->List E}{f5:ε->E}
def Has.inj(a:dX c1):Has (bY g1 (gq p1 c1 f1) C) g1 p1 c1 f1:=Has.Ad λx y e=>by rw[a x y e]
def Has.toEv(h:Has C g1 p1 c1 f1):Ev T C g1 p1 c1 f1:=λn _ m a=>h.ev n a m
def Dp(a:aJ T P g1 p1 c1 f1)(b:dX c1):∃C,aR T P C/\Ev T C g1 p1 c1 f1:=⟨_,aZ aW a,(Has.inj b).toEv⟩
def LM(a:aJ T P g1 p1 c1 f1)(b:dX c1)(c:aJ T P g2 p2 c2 f2)(d:dX c2)(e:g1≠g2):∃C,aR T P C/\Ev T C g1 p1 c1 f1/\Ev T C g2 p2 c2 f2:=
 ⟨_,aZ (aZ aW a) c,(Has.Sk e (Has.inj b)).toEv,(Has.inj d).toEv⟩
def awS(a:aJ T P g1 p1 c1 f1)(b:dX c1)(c:aJ T P g2 p2 c2 f2)(d:dX c2)(f:aJ T P g3 p3 c3 f3)(g:dX c3)(e:g1≠g2/\g1≠g3/\g2≠g3):∃C,aR T P C/\Ev T C g1 p1 c1 f1/\Ev T C g2 p2 c2 f2/\Ev T C g3 p3 c3 f3:=
 ⟨_,aZ (aZ (aZ aW a) c) f,(Has.Sk e.2.1 (Has.Sk e.1 (Has.inj b))).toEv,(Has.Sk e.2.2 (Has.inj d)).toEv,(Has.inj g).toEv⟩
def ad7(a:aJ T P g1 p1 c1 f1)(b:dX c1)(c:aJ T P g2 p2 c2 f2)(d:dX c2)(f:aJ T P g3 p3 c3 f3)(g:dX c3)(h:aJ T P g4 p4 c4 f4)(i:dX c4)(e:(g1≠g2/\g1≠g3/\g2≠g3)/\g1≠g4/\g2≠g4/\g3≠g4):
 ∃C,aR T P C/\Ev T C g1 p1 c1 f1/\Ev T C g2 p2 c2 f2/\Ev T C g3 p3 c3 f3/\Ev T C g4 p4 c4 f4:=
 ⟨_,aZ (aZ (aZ (aZ aW a) c) f) h,(Has.Sk e.2.1 (Has.Sk e.1.2.1 (Has.Sk e.1.1 (Has.inj b)))).toEv,(Has.Sk e.2.2.1 (Has.Sk e.1.2.2 (Has.inj d))).toEv,(Has.Sk e.2.2.2 (Has.inj g)).toEv,(Has.inj i).toEv⟩
def awT(a:aJ T P g1 p1 c1 f1)(b:dX c1)(c:aJ T P g2 p2 c2 f2)(d:dX c2)(f:aJ T P g3 p3 c3 f3)(g:dX c3)(h:aJ T P g4 p4 c4 f4)(i:dX c4)(j:aJ T P g5 p5 c5 f5)(k:dX c5)
 (e:((g1≠g2/\g1≠g3/\g2≠g3)/\g1≠g4/\g2≠g4/\g3≠g4)/\g1≠g5/\g2≠g5/\g3≠g5/\g4≠g5):
 ∃C,aR T P C/\Ev T C g1 p1 c1 f1/\Ev T C g2 p2 c2 f2/\Ev T C g3 p3 c3 f3/\Ev T C g4 p4 c4 f4/\Ev T C g5 p5 c5 f5:=
 ⟨_,aZ (aZ (aZ (aZ (aZ aW a) c) f) h) j,(Has.Sk e.2.1 (Has.Sk e.1.2.1 (Has.Sk e.1.1.2.1 (Has.Sk e.1.1.1 (Has.inj b))))).toEv,(Has.Sk e.2.2.1 (Has.Sk e.1.2.2.1 (Has.Sk e.1.1.2.2 (Has.inj d)))).toEv,(Has.Sk e.2.2.2.1 (Has.Sk e.1.2.2.2 (Has.inj g))).toEv,(Has.Sk e.2.2.2.2 (Has.inj i)).toEv,(Has.inj k).toEv⟩
end
end
end Go.Am
namespace Go.Proofs.YtpeialehpoilbaaGreat
def DN:dX λt:zA=>[D t]:=λx y e=>by simp at e;exact cf e
def E9:dX λd:zB=>[bI d]:=λx y e=>by simp at e;exact Af e
def adl:dX λx:Tree×Int=>[dU x.1,J x.2]:=λ⟨a,b⟩⟨c,d⟩ e=>by simp[dU]at e;rw[CB e.1,e.2]
end Go.Proofs.YtpeialehpoilbaaGreat
namespace Go.Am.Eu
def jc(t:zA):Prop:=zD t<=400/\jA t<=150
instance(t:zA):Decidable (jc t):=inferInstanceAs (Decidable (_/\_))
mutual
def gZ:Tree->Nat
 |.mk _ b _ l=>1+wt b+B0 l
def B0:List (ByteArray×Bool×Tree)->Nat
 |[]=>0
 |(n,_,t)::l=>1+n.size+gZ t+B0 l
end
def T7(t:Tree):gZ t=1+wt t.body+B0 t.cb:=by cases t;rw[gZ];rfl
def SO:∀{l:List (ByteArray×Bool×Tree)}{b},b∈l->b.1.size+gZ b.2.2<B0 l
 |(n,a,t)::l,b,h=>by
  rw[B0];rcases zp.1 h with rfl|h
  .show n.size+gZ t<_;omega
  .have:=SO h;omega
def SP:∀l:List (ByteArray×Bool×Tree),I l<=B0 l
 |[]=>by simp
 |(n,a,t)::l=>by have:=SP l;rw[B0,yo];omega
inductive Cm:Tree->Prop
 |mk {t:Tree} (h:zD t.body<=400) (hb:∀b∈t.cb,Cm b.2.2):Cm t
def bz:Nat:=2097152
end Go.Am.Eu
namespace Go.Proofs.YtpeialehpoilbaaGreat
def F80:Z.f 80=O f80:=by kernel_rfl
def F81:Z.f 81=O f81:=by kernel_rfl
def F35:Z.f 35=O f35:=by kernel_rfl
def F57:Z.f 57=O f57:=by kernel_rfl
def abM:aJ Z prog 80 (λt=>wt t<bz) (λt=>[D t]) (λt=>zP (decide (jc t))):=by
 let⟨C,f,a,b⟩:=LM aam DN abw DN (by decide);intro t e h;have e:wt t<bz:=e;have i:=Em t;unfold bz at e;have a:=λn m=>a n t m (by unfold ao;omega);have b:=λn m=>b n t m (by unfold ao;omega)
 obtain⟨v,rfl,g⟩:=jq (β:=Bool) (r:=zP) (Q:=λv=>v=decide (jc t)) (T:=Z) tok C f (.Cs (bg t) .Nl) (λ_=>.Gd rfl) 1 F80 rfl rfl (by by_cases c:(zD t<=400)<;>by_cases d:(jA t<=150)<;>simp[bC F80,f80,a,b,c,d,jc])
 exact g h
theorem as5:∃f:Tree×Int->Bool,aJ Z prog 81 (λx=>gZ x.1<bz/\0<=x.2) (λx=>[dU x.1,J x.2]) (λx=>zP (f x))/\∀x,gZ x.1<bz/\0<=x.2->f x=Y->Cm x.1:=by
 refine abL zP (λ(x:Tree×Int) v=>v=Y->Cm x.1) (λx=>gZ x.1) λ⟨t,d⟩⟨s,A⟩ f F L=>?_
 let⟨C,M,l,c⟩:=LM abM DN F adl (by decide)
 have s:gZ t<bz:=s
 have A:0<=d:=A
 have Q:=T7 t
 have R:=SP t.cb
 unfold bz at s
 have l:=λn m=>l n t.body m (by unfold bz;omega)
 refine jq (T:=Z) tok C M (.Cs (Cy t) dF) (λ_=>.Gd rfl) 5000000 F81 rfl rfl ?_
 by_cases c1:40<d
 .simp[bC F81,f81,c1]
 by_cases u:40<I t.cb
 .simp[bC F81,f81,c1,u]
 by_cases c3:jc t.body
 case neg=>simp[bC F81,f81,c1,u,c3,l]
 simp[bC F81,f81,c1,u,c3,l]
 refine forA (I t.cb) 0 (λi e h=>h=H.e.w (ad (du t) 145)/\aa e 1 (J d)/\aa e 2 (pB 0)/\aa e 5 (J i)/\∀j(o:j<I t.cb),j<i->Cm t.cb[j].2.2) ⟨rfl,by simp,by simp,by simp,λ_ _ h=>by cases h⟩ (by omega) (by omega) ?_ ?_
 .rintro i e h m p ⟨rfl,r,g,k,o⟩-N
  have B:=SO (zW p)
  have w:zx.wrap (d+1)=d+1:=by simp[xQ,xJ,y9];omega
  have c:=λn m=>c n (t.cb[i].2.2,d+1) m ⟨by show gZ t.cb[i].2.2<gZ t;omega,by show gZ t.cb[i].2.2<bz;unfold bz;omega,by show 0<=d+1;omega⟩
  have P:=L (t.cb[i].2.2,d+1) (by show gZ t.cb[i].2.2<gZ t;omega) ⟨by show gZ t.cb[i].2.2<bz;unfold bz;omega,by show 0<=d+1;omega⟩
  cases c4:f (t.cb[i].2.2,d+1)
  .simp[r,g,k,p,w,c,c4]
  by_cases c5:200<t.cb[i].1.size
  .simp[r,g,k,p,w,c,c4,c5]
  simp[r,g,k,p,w,N,c,c4,c5]
  intro j a y
  rcases vh (sM y)with q|rfl
  .exact o j a q
  .exact P c4
 .rintro e h m ⟨rfl,r,g,k,o⟩-
  simp[g,k]
  exact .mk c3.1 λb B=>by obtain⟨j,a,rfl⟩:=yk.1 B;exact o j a a
end Go.Proofs.YtpeialehpoilbaaGreat
namespace Go.Am.Eu
def DO(c:gM):Nat:=1+c.name.size+wt c.type
def DP(f:fR):Nat:=1+f.name.size+wt f.type+gZ f.tree
def dH(d:zB):Nat:=1+d.n.size+wt d.t+wt d.v+(d.aY.map DO).sum+wt d.bD.type+fA d.bD.rules+(d.bk.map DP).sum
def eP(l:List zB):Nat:=(l.map dH).sum
def J9{a:Type}{f:a->Nat}(b:∀x,1<=f x):∀l:List a,I l<=(l.map f).sum
 |[]=>by simp
 |x::l=>by have:=J9 b l;have:=b x;simp only[List.map_cons,List.sum_cons,yo];omega
def Bm{a:Type}{f:a->Nat}:∀{l:List a}{x:a},x∈l->f x<=(l.map f).sum
 |y::l,x,h=>by
  simp only[List.map_cons,List.sum_cons];rcases zp.1 h with rfl|h
  .omega
  .have:=Bm (f:=f) h;omega
def EA(l:List gM):I l<=(l.map DO).sum:=J9 (λx=>by unfold DO;omega) l
def EB(l:List fR):I l<=(l.map DP).sum:=J9 (λx=>by unfold DP;omega) l
def Hl(l:List zB):I l<=eP l:=J9 (λx=>by unfold dH;omega) l
def qP(d:zB):dH d=1+d.n.size+wt d.t+wt d.v+(d.aY.map DO).sum+wt d.bD.type+fA d.bD.rules+(d.bk.map DP).sum:=rfl
def Ka{l:List gM}{c:gM}(h:c∈l):1+c.name.size+wt c.type<=(l.map DO).sum:=Bm (f:=DO) h
def N6{l:List fR}{c:fR}(h:c∈l):1+c.name.size+wt c.type+gZ c.tree<=(l.map DP).sum:=Bm (f:=DP) h
structure oH(d:zB):Prop where
 type:jc d.t
 value:jc d.v
 Qi:I d.aY<=40
 aY:∀c∈d.aY,jc c.type
 aIy:jc d.bD.type
 nru:I d.bD.rules<=40
 rules:∀r∈d.bD.rules,jc r
 nfu:I d.bk<=12
 bk:∀f∈d.bk,jc f.type/\Cm f.tree
def upto{l:List A}{p:A->Prop}(d:i<I l)(h:∀j(a:j<I l),j<i->p l[j])(c:p l[i]):∀j(a:j<I l),j<i+1->p l[j]:=λj a b=>by
 rcases vh (sM b)with q|rfl
 .exact h j a q
 .exact c
def AI{l:List A}{p:A->Prop}(h:∀j(a:j<I l),j<I l->p l[j]):∀x∈l,p x:=λx b=>by obtain⟨j,a,rfl⟩:=yk.1 b;exact h j a a
end Go.Am.Eu
namespace Go.Proofs.YtpeialehpoilbaaGreat
theorem avb:∃f:zB->Bool,aJ Z prog 57 (λd=>dH d<bz) (λd=>[bI d]) (λd=>zP (f d))/\∀d,dH d<bz->f d=Y->oH d:=by
 refine iC zP (λ(d:zB) v=>v=Y->oH d) λd N=>?_
 let⟨f,P,A⟩:=as5
 let⟨C,Q,b,x⟩:=LM abM DN P adl (by decide)
 have R:=qP d
 have S:=EA d.aY
 have V:=EB d.bk
 have W:=Hc d.bD.rules
 unfold bz at N b
 have k:=λn m=>b n d.t m (by omega)
 have o:=λn m=>b n d.v m (by omega)
 have t:=λn m=>b n d.bD.type m (by omega)
 refine jq (T:=Z) tok C Q (.Cs (kM d) .Nl) (λ_=>.Gd rfl) 5000000 F57 rfl rfl ?_
 by_cases c1:200<d.n.size
 .simp[bC F57,f57,c1]
 by_cases r:jc d.t
 case neg=>simp[bC F57,f57,c1,r,k]
 by_cases c3:jc d.v
 case neg=>simp[bC F57,f57,c1,r,c3,k,o]
 by_cases c4:40<I d.aY
 .simp[bC F57,f57,c1,r,c3,c4,k,o]
 by_cases c5:12<I d.bk
 .simp[bC F57,f57,c1,r,c3,c4,c5,k,o]
 by_cases y:jc d.bD.type
 case neg=>simp[bC F57,f57,c1,r,c3,c4,c5,y,k,o,t]
 by_cases c7:40<I d.bD.rules
 .simp[bC F57,f57,c1,r,c3,c4,c5,y,c7,k,o,t]
 simp[bC F57,f57,c1,r,c3,c4,c5,y,c7,k,o,t]
 refine forA (I d.aY) 0 (λi l h=>h=H.e.w (ad (cN d) 38)/\aa l 1 (pB 0)/\aa l 3 (J i)/\∀j(s:j<I d.aY),j<i->jc d.aY[j].type) ⟨rfl,by simp,by simp,λ_ _ h=>by cases h⟩ (by omega) (by omega) ?_ ?_
 .rintro i l h m e ⟨rfl,a,g,s⟩-w
  have M:=Ka (zW e)
  have b:=λn m=>b n d.aY[i].type m (by omega)
  by_cases c8:200<d.aY[i].name.size
  .simp[a,g,e,c8]
  by_cases q:jc d.aY[i].type
  case neg=>simp[a,g,e,b,c8,q]
  simp[a,g,e,w,b,c8,q]
  exact upto (p:=λc=>jc c.type) e s q
 rintro l h m ⟨rfl,a,g,B⟩-
 simp[a,g]
 refine forA (I d.bD.rules) 0 (λi l h=>h=H.e.w (ad (cN d) 38)/\aa l 1 (pB 0)/\aa l 4 (J i)/\∀j(s:j<I d.bD.rules),j<i->jc d.bD.rules[j]) ⟨rfl,by simp[a],by simp,λ_ _ h=>by cases h⟩ (by omega) (by omega) ?_ ?_
 .rintro i l h m e ⟨rfl,a,g,s⟩-w
  have M:=HB (zW e)
  have b:=λn m=>b n d.bD.rules[i] m (by omega)
  by_cases q:jc d.bD.rules[i]
  case neg=>simp[a,g,e,b,q]
  simp[a,g,e,w,b,q]
  exact upto e s q
 rintro l h m ⟨rfl,a,g,F⟩-
 simp[a,g]
 refine forA (I d.bk) 0 (λi l h=>h=H.e.w (ad (cN d) 38)/\aa l 1 (pB 0)/\aa l 5 (J i)/\∀j(s:j<I d.bk),j<i->jc d.bk[j].type/\Cm d.bk[j].tree) ⟨rfl,by simp[a],by simp,λ_ _ h=>by cases h⟩ (by omega) (by omega) ?_ ?_
 .rintro i l h m e ⟨rfl,a,g,s⟩-w
  have M:=N6 (zW e)
  have b:=λn m=>b n d.bk[i].type m (by omega)
  have x:=λn m=>x n (d.bk[i].tree,0) m ⟨by show gZ d.bk[i].tree<bz;unfold bz;omega,by show(0:Int)<=0;omega⟩
  have A:=A (d.bk[i].tree,0) ⟨by show gZ d.bk[i].tree<bz;unfold bz;omega,by show(0:Int)<=0;omega⟩
  by_cases c8:200<d.bk[i].name.size
  .simp[a,g,e,c8]
  by_cases q:jc d.bk[i].type
  case neg=>simp[a,g,e,b,c8,q]
  cases u:f (d.bk[i].tree,0)
  .simp[a,g,e,b,x,c8,q,u]
  simp[a,g,e,w,b,x,c8,q,u]
  exact upto (p:=λc=>jc c.type/\Cm c.tree) e s ⟨q,A u⟩
 rintro l h m ⟨rfl,a,g,L⟩-
 simp[a,g]
 exact⟨r,c3,by omega,AI (p:=λc=>jc c.type) λj h _=>B j h h,y,by omega,AI λj h _=>F j h h,by omega,AI (p:=λc=>jc c.type/\Cm c.tree) λj h _=>L j h h⟩
end Go.Proofs.YtpeialehpoilbaaGreat
namespace Go.Am
section
variable{T:au}{P:zo}
def fO:E->E
 |.agg ⟨l⟩=>aAg (l.map dj)
 |v=>dj v
def VR.fO{m:M}{v a:E}(h:VR m v a):VR m (fO v) a:=by
 unfold Am.fO;split
 .cases h with
  |agg h=>exact .agg h.norm
 .exact h.norm
def LR.fO{m:M}:∀{l a:List E},LR m l a->LR m (l.map fO) a
 |[],_,h=>by cases h;exact .Nl
 |_::_,_,h=>by cases h with|Cs b c=>exact .Cs b.fO c.fO
def Yh{a:ag}(g:bP T P v (l.map fO) h U a):bP T P v l h U a:=by intro n i e;let⟨hle,g⟩:=g n i e;exact⟨hle,λo m p c q d j w r F b s t k u=>g o m p c q d j w r F b s t.fO k u⟩
def pf(c:List E->H->Option ag)(args:List E)(h:H):Option ag:=c (args.map fO) h
def pD{c:List E->H->Option ag}(d:aR T P (bY f c C)):aR T P (bY f (pf c) C):=by
 intro e args h a q;by_cases b:e=f
 .subst b;rw[gC]at q;exact Yh (d _ _ _ _ (by rw[gC];exact q))
 .rw[jk b]at q;exact d _ _ _ _ (by rw[jk b];exact q)
abbrev pA(T:au)(C:aV){α:Type}(g:zZ)(a:α->Prop)(b:α->List E)(f:α->E):Prop:=∀x,a x->∀args,args.map fO=b x->∀n m,af T C n (aj g args m)=.r (f x) m U
def qk{α:Type}{c:α->Prop}{b:α->List E}{a:α->E}(d:dX b)(h:C f=pf (gq c b a)):pA T C f c b a:=λx i args j n m=>ji n (by rw[h];show gq c b a (args.map fO) m=_;rw[j];exact Bl (λx y e=>by rw[d x y e]) i m)
section
variable{α β γ δ:Type}{g1 g2 g3 g4:zZ}{p1:α->Prop}{c1:α->List E}{f1:α->E}{p2:β->Prop}{c2:β->List E}{f2:β->E}{p3:γ->Prop}{c3:γ->List E}{f3:γ->E}{p4:δ->Prop}{c4:δ->List E}{f4:δ->E}
def ad8(b:aJ T P g1 p1 c1 f1)(c:dX c1):∃C,aR T P C/\pA T C g1 p1 c1 f1:=⟨_,pD (aZ aW b),qk c (by funext a h;simp[bY])⟩
def awU(b:aJ T P g1 p1 c1 f1)(c:dX c1)(d:aJ T P g2 p2 c2 f2)(f:dX c2)(g:aJ T P g3 p3 c3 f3)(i:dX c3)(j:aJ T P g4 p4 c4 f4)(k:dX c4)(e:(g1≠g2/\g1≠g3/\g2≠g3)/\g1≠g4/\g2≠g4/\g3≠g4):
 ∃C,aR T P C/\pA T C g1 p1 c1 f1/\pA T C g2 p2 c2 f2/\pA T C g3 p3 c3 f3/\pA T C g4 p4 c4 f4:=
 ⟨bY g1 (pf (gq p1 c1 f1)) (bY g2 (pf (gq p2 c2 f2)) (bY g3 (pf (gq p3 c3 f3)) (bY g4 (pf (gq p4 c4 f4)) cg))),pD (aZ (pD (aZ (pD (aZ (pD (aZ aW j)) g)) d)) b),qk c (by funext a h;simp[bY]),qk f (by funext a h;simp[bY,uV e.1.1]),qk i (by funext a h;simp[bY,uV e.1.2.1,uV e.1.2.2]),qk k (by funext a h;simp[bY,uV e.2.1,uV e.2.2.1,uV e.2.2.2])⟩
end
def acE{d:Fr}{k:S->ag}{N R:Tr E->H->Prop}{X:Nat->Tr E->H->Prop}(c:Nat)(a:Nat->Tr E->H->Prop)(j:Nat)(g:a j r h)(l:j+c<=m)
 (step:∀j r h m,a j r h->c<=m->aD (λb o=>∃f,f<j/\a f b o) R (λi r h=>i=n/\aD N R X (k ⟨r,[],h,U⟩)) (aw T (af T C m) d x ⟨r,[],h,U⟩)):
 aD N R X (jm k (lq n (aw T (af T C m) d (yb x) ⟨r,[],h,U⟩))):=by
 rcases(RY c a R _ step m j r h g l).cases with⟨_,_,_,q⟩|⟨r,m,e,q⟩|⟨i,r,m,e,rfl,q⟩
 .cases q
 .rw[e];exact q
 .rw[e,Sym.Jg,ek rfl];exact q
def Dq(T:au){β:Type}(c:List yR)(r:β->E)(Q:β->Prop)(d:Tr E)(h:H):Prop:=∃b v a,fw U (zJ T d c h)=.r v a U/\DV a.g v (r b)/\Q b
def Is(j:bM T P){β:Type}{s:Func}{args:List E}{r:β->E}{Q:β->Prop}(C:aV)(w:aR T P C)(x:bX args)(n:Nat)(t:T.f f=O s)(y:s.body.isSome=Y){k:List yR}(l:s.results.toList=k)
 (a:aD (Dq T k r Q) (Dq T k r Q) (λ_ _ _=>False) (aw T (af T C (n+1)) ⟨f,U⟩ (kK T f []) ⟨bF args 0 .Nl,[],H.e,U⟩)):∃v,Q v/\∀h,bP T P (zU (za f) #[] #[]) args h U (.r (r v) h U):=by
 let⟨c,u⟩:=uP.1 y;have e:kK T f []=c:=by unfold kK;rw[t];show s.body.getD we=c;rw[u];rfl
 rw[e]at a;have o:∀d h,Dq T k r Q d h->∃b,Q b/\bG T k (λh=>h.g) (.ret (r b)) ⟨d,[],h,U⟩:=λd h⟨b,v,p,A,B,F⟩=>⟨b,F,rfl,rfl,v,r b,p,rfl,A,B⟩;rcases a.cases with⟨d,m,e,q⟩|⟨d,m,e,q⟩|⟨i,d,m,e,q⟩
 .let⟨b,h1,p⟩:=o _ _ q;exact⟨b,h1,mi (out:=.ret (r b)) j C w x n t u l (by rw[e];exact p)⟩
 .let⟨b,h1,p⟩:=o _ _ q;exact⟨b,h1,mi (out:=.ret (r b)) j C w x n t u l (by rw[e];exact p)⟩
 .cases q
end
def Jc{p:zo}{b:Type}(s:Sem A)(f:A->Sem b):dT p (Sem.bind s f)=(dT p s).bind λa=>dT p (f a):=by
 induction s with
 |pure a=>rfl
 |program k c=>exact c p
 |_=>rfl
def avc{l:List A}(h:I l=2):∃a b,l=[a,b]:=by
 match l,h with
 |[a,b],_=>exact⟨a,b,rfl⟩
section
variable{P:zo}
def b1{a:Type}(m:Sem A)(f:A->Sem a):(m>>=f)=Sem.bind m f:=rfl
def b2(a:A):(pure a:Sem A)=Sem.pure a:=rfl
def b3(a:A):dT P (Sem.pure a)=O a:=rfl
def b4(f:zo->Sem A):dT P (Sem.program f)=dT P (f P):=rfl
def ZV(b:dT P (Go.isAgg t)=O G)(v:E)(l:List E)(i:Nat)(c:l[i]?=O v):dT P (part t ⟨l⟩ i)=O v:=by
 have a:(⟨l⟩:Array E)[i]?=O v:=by simpa using c
 simp[part,b1,b2,b3,Jc,b,a]
def eq_int(b:P.underlying t=O (.int zx))(n:Nat)(a:Int):dT P (vB (n+1) t (J a) (J a))=O Y:=by simp[vB,b1,b2,b3,b4,Jc,underlying,program,b]
def aqQ{c:Array Field}(k:P.underlying t=O (.struct c))(l:P.stoodInHeld t=G)(g:P.underlying 3=O (.int zx))(h:dT P (Go.isAgg 3)=O G)
 (b:c.toList.map (λf=>(f.name== "_",f.type,f.offset))=[(G,3,0),(G,3,1)])(x:ga)(n:Nat):dT P (vB (n+1+1) t (cW x) (cW x))=O Y:=by
 obtain⟨i,j,a⟩:∃i j,c.toList=[i,j]:=avc (by have:=congrArg I b;simpa using this);rw[a]at b;simp at b;let⟨⟨n0,d,m⟩,n1,e,o⟩:=b;have p:=ZV h (J x.index) [J x.index,J x.plus] 0 rfl;have q:=ZV h (J x.plus) [J x.index,J x.plus] 1 rfl;have r:=eq_int g n x.index;have s:=eq_int g n x.plus;unfold cW;unfold vB;simp[b1,b2,b3,b4,Jc,underlying,program,k,l];rw[<-Array.forIn_toList,a];simp[b1,b2,b3,Jc,n0,n1,d,e,m,o,p,q,r,s]
def aop{fs:Array Field}(c:P.underlying t=O (.struct fs))(d:P.stoodInHeld t=G)(e:P.underlying 3=O (.int zx))(g:dT P (Go.isAgg 3)=O G)
 (h:fs.toList.map (λf=>(f.name== "_",f.type,f.offset))=[(G,3,0),(G,3,1)])(i:P.eqGuardType P.depth t=G)(a:ga)(x y:zh):
 dT P (do eqGuard sL t x y (cW a) (cW a);binOp sL t (cW a) (cW a))=O (zP G):=by
 have b:dT P (Op.equal t (cW a) (cW a))=O Y:=aqQ c d e g h a 9998;unfold cW at b⊢;simp[eqGuard,binOp,b1,b2,b3,b4,Jc,program,i,b]
end
end Go.Am
namespace Go.Proofs.YtpeialehpoilbaaGreat
noncomputable def avd:Array Field:=match prog.underlying 96 with|some (.struct a)=>a|_=> #[]
def aqR{x y:zh}(a:ga):dT prog (do eqGuard sL 96 x y (cW a) (cW a);binOp sL 96 (cW a) (cW a))=O (zP G):=
 aop (fs:=avd) (by kernel_rfl) (by kernel_rfl) (by kernel_rfl) (by kernel_rfl) (by kernel_rfl) (by kernel_rfl) a x y
def aqS{x y:zh}(a:ga):fu Z h sL 96 x y (O (cW a)) (O (cW a))=jU h (dT prog (do eqGuard sL 96 x y (cW a) (cW a);binOp sL 96 (cW a) (cW a))):=by kernel_rfl
@[simp] theorem aIa{x y:zh}(a:ga):fu Z h sL 96 x y (O (cW a)) (O (cW a))=.v (zP G) h:=by rw[aqS,aqR];rfl
abbrev T8(g:zZ)(a:A->Prop)(v:A->E):Prop:=aJ Z prog g a (λx=>[v x,v x]) (λ_=>zP Y)
theorem Has.same{v:A->E}:Has (bY f (gq L (λx=>[v x,v x]) (λ_=>zP Y)) C) f L (λx=>[v x,v x]) (λ_=>zP Y):=.Ad λ_ _ _=>rfl
def iL(v:E)(t:zQ):H:=(H.e.w (ad (ah v) t)).w (ad (ah v) t)
@[simp] theorem aDt:(iL v t).b=0:=by simp[iL]
@[simp] theorem aDu:(iL v t).n=2:=by simp[iL]
@[simp] theorem aDv:(iL v t).g 0=O (ad (ah v) t):=by simp[iL]
@[simp] theorem aDw:(iL v t).g 1=O (ad (ah v) t):=by simp[iL]
section
variable{ev:zC->ag}{l:List ByteArray}{i:Nat}{tm:Tr E}{h:H}(hb:h=H.e)(t0:aa tm 0 (bL l))(t1:aa tm 1 (bL l))(t5:aa tm 5 (J i))
include hb t0 t1 t5
end
theorem F56:Z.f 56=O f56:=by kernel_rfl
def LN:yG:=z f56 [Y,Y,G,Y,G,G]
theorem alC:f56.body=O (zS (z f56 pF0) (zS (z f56 pF1) (zS (zS (z f56 [Y,Y,G,G]) (zv 0 (yb LN))) (z f56 pT3)))):=rfl
section
variable{ev:zC->ag}{x:aB}{i:Nat}{tm:Tr E}{h:H}(hb:h=iL (aT x) 63)(t2:aa tm 2 (pB 0))(t3:aa tm 3 (pB 1))(t5:aa tm 5 (J i))
include hb t2 t3 t5
theorem aoq(d:i<I x.v)(b:i+1<=ao):
 aD (λa e=>e=iL (aT x) 63/\aa a 2 (pB 0)/\aa a 3 (pB 1)/\aa a 5 (J (i+1:Nat))) ap bE (aF Z ev 56 LN tm h):=by
 subst hb;have c:=dA b;simp at c;simp[LN,z,f56,t2,t3,t5,d,c,an]
theorem aqT(b:I x.v<=i):aD ap ap (λj _ _=>j=0) (aF Z ev 56 LN tm h):=by
 subst hb;have a:¬i<I x.v:=by omega
 simp[LN,z,f56,t2,t5,a]
end
theorem as6:T8 56 (λx:aB=>I x.v<ao) aT:=by
 intro x b;have b:I x.v<ao:=b;obtain⟨C,c⟩:∃C,aR Z prog C:=⟨_,aW⟩;refine ku (v:=zP Y) tok C c (.Cs (kR x) (.Cs (kR x) .Nl)) bJ (I x.v+1) F56 alC rfl ?_
 have d:aD (λtm h=>h=iL (aT x) 63/\aa tm 2 (pB 0)/\aa tm 3 (pB 1)) ap bE (aF Z (af Z C (I x.v+1+1)) 56 (z f56 pF0) (bF [aT x,aT x] 0 .Nl) H.e):=by simp[z,f56,iL]
 have e:∀tm h,(h=iL (aT x) 63/\aa tm 2 (pB 0)/\aa tm 3 (pB 1))->aD (λtm h=>h=iL (aT x) 63/\aa tm 2 (pB 0)/\aa tm 3 (pB 1)) ap bE (aF Z (af Z C (I x.v+1+1)) 56 (z f56 pF1) tm h):=by rintro tm h ⟨rfl,t2,t3⟩;simp[z,f56,t2,t3]
 have f:∀tm h,(h=iL (aT x) 63/\aa tm 2 (pB 0)/\aa tm 3 (pB 1))->aD (λtm h=>h=iL (aT x) 63/\aa tm 2 (pB 0)/\aa tm 3 (pB 1)/\aa tm 5 (J (0:Nat))) ap bE (aF Z (af Z C (I x.v+1+1)) 56 (z f56 [Y,Y,G,G]) tm h):=by rintro tm h ⟨rfl,t2,t3⟩;simp[z,f56,t2,t3]
 refine aS (d.Mo bT aP cS) λtm h q=>aS ((e tm h q).Mo bT aP cS) λtm h q=>
  aS (N':=λ_ _=>True) (aS ((f tm h q).Mo bT aP cS) λtm h q=>?_) λtm h _=>by simp[z,f56]
 let⟨hb,t2,t3,t5⟩:=q;refine fU 0 (λj tm h=>∃i:Nat,j=I x.v-i/\i<=I x.v/\h=iL (aT x) 63/\aa tm 2 (pB 0)/\aa tm 3 (pB 1)/\aa tm 5 (J (i:Nat))) (I x.v) ⟨0,by omega,by omega,hb,t2,t3,t5⟩ (by omega) ?_;rintro j tm h m ⟨i,rfl,k,hb,t2,t3,t5⟩-;by_cases a:i<I x.v
 .exact(aoq hb t2 t3 t5 a (by omega)).Mo (λg l q=>⟨_,by omega,i+1,rfl,a,q⟩) aP jr
 .exact(aqT hb t2 t3 t5 (by omega)).Mo aP aP (λ_ _ _ q=>⟨q,trivial⟩)
theorem F34:Z.f 34=O f34:=by kernel_rfl
def LO:yG:=z f34 [Y,Y,G,Y,G,G]
theorem alD:f34.body=O (zS (z f34 pF0) (zS (z f34 pF1) (zS (zS (z f34 [Y,Y,G,G]) (zv 0 (yb LO))) (z f34 pT3)))):=rfl
section
variable{ev:zC->ag}{l:List aB}{i:Nat}{tm:Tr E}{h:H}(hb:h=H.e)(t0:aa tm 0 (aO l))(t1:aa tm 1 (aO l))(t5:aa tm 5 (J i))
include hb t0 t1 t5
theorem aor(c:∀x∈l,∀h,ev (aj 56 [aT x,aT x] h)=.r (zP Y) h U)(e:i<I l)(d:i+1<=ao):
 aD (λa g=>g=H.e/\aa a 0 (aO l)/\aa a 1 (aO l)/\aa a 5 (J (i+1:Nat))) ap bE (aF Z ev 34 LO tm h):=by
 subst hb;have f:=dA d;simp at f;have b:=c l[i] (zW e);simp[LO,z,f34,t0,t1,t5,e,f,b,an]
theorem aqU(b:I l<=i):aD ap ap (λj _ _=>j=0) (aF Z ev 34 LO tm h):=by
 subst hb;have a:¬i<I l:=by omega
 simp[LO,z,f34,t0,t5,a]
end
theorem as7:T8 34 (λl:List aB=>I l<ao/\∀x∈l,I x.v<ao) aO:=by
 rintro l ⟨c,d⟩;have c:I l<ao:=c;obtain⟨C,e,f⟩:∃C,aR Z prog C/\Has C 56 (λx:aB=>I x.v<ao) (λx=>[aT x,aT x]) (λ_=>zP Y):=⟨_,aZ aW as6,Has.same⟩;have a:=λn(x:aB)(g:x∈l) m=>f.ev (T:=Z) n (x:=x) (d x g) m;refine ku (v:=zP Y) tok C e (.Cs (jM l) (.Cs (jM l) .Nl)) bJ (I l+1) F34 alD rfl ?_
 have k:aD (λtm h=>h=H.e/\aa tm 0 (aO l)/\aa tm 1 (aO l)) ap bE (aF Z (af Z C (I l+1+1)) 34 (z f34 pF0) (bF [aO l,aO l] 0 .Nl) H.e):=by simp[z,f34]
 have o:∀tm h,(h=H.e/\aa tm 0 (aO l)/\aa tm 1 (aO l))->aD (λtm h=>h=H.e/\aa tm 0 (aO l)/\aa tm 1 (aO l)) ap bE (aF Z (af Z C (I l+1+1)) 34 (z f34 pF1) tm h):=by rintro tm h ⟨rfl,t0,t1⟩;simp[z,f34,t0,t1]
 have p:∀tm h,(h=H.e/\aa tm 0 (aO l)/\aa tm 1 (aO l))->aD (λtm h=>h=H.e/\aa tm 0 (aO l)/\aa tm 1 (aO l)/\aa tm 5 (J (0:Nat))) ap bE (aF Z (af Z C (I l+1+1)) 34 (z f34 [Y,Y,G,G]) tm h):=by rintro tm h ⟨rfl,t0,t1⟩;simp[z,f34,t0,t1]
 refine aS (k.Mo bT aP cS) λtm h q=>aS ((o tm h q).Mo bT aP cS) λtm h q=>
  aS (N':=λ_ _=>True) (aS ((p tm h q).Mo bT aP cS) λtm h q=>?_) λtm h _=>by simp[z,f34]
 let⟨hb,t0,t1,t5⟩:=q;refine fU 0 (λj tm h=>∃i:Nat,j=I l-i/\i<=I l/\h=H.e/\aa tm 0 (aO l)/\aa tm 1 (aO l)/\aa tm 5 (J (i:Nat))) (I l) ⟨0,by omega,by omega,hb,t0,t1,t5⟩ (by omega) ?_;rintro j tm h m ⟨i,rfl,s,hb,t0,t1,t5⟩-;by_cases b:i<I l
 .exact(aor hb t0 t1 t5 (a m) b (by omega)).Mo (λr t q=>⟨_,by omega,i+1,rfl,b,q⟩) aP jr
 .exact(aqU hb t0 t1 t5 (by omega)).Mo aP aP (λ_ _ _ q=>⟨q,trivial⟩)
theorem F11:Z.f 11=O f11:=by kernel_rfl
def LP:yG:=z f11 [Y,Y,G,Y,G,G]
theorem alE:f11.body=O (zS (z f11 pF0) (zS (z f11 pF1) (zS (zS (z f11 [Y,Y,G,G]) (zv 0 (yb LP))) (z f11 pT3)))):=rfl
section
variable{ev:zC->ag}{x:zA}{i:Nat}{tm:Tr E}{h:H}(hb:h=iL (D x) 31)(t2:aa tm 2 (pB 0))(t3:aa tm 3 (pB 1))(t5:aa tm 5 (J i))
include hb t2 t3 t5
theorem aos(c:∀y∈x.M,∀h,ev (aj 11 [D y,D y] h)=.r (zP Y) h U)(e:i<I x.M)(d:i+1<=ao):
 aD (λa g=>g=iL (D x) 31/\aa a 2 (pB 0)/\aa a 3 (pB 1)/\aa a 5 (J (i+1:Nat))) ap bE (aF Z ev 11 LP tm h):=by
 subst hb;have f:=dA d;simp at f;have b:=c x.M[i] (zW e);simp[LP,z,f11,t2,t3,t5,e,f,b,an]
theorem aqV(b:I x.M<=i):aD ap ap (λj _ _=>j=0) (aF Z ev 11 LP tm h):=by
 subst hb;have a:¬i<I x.M:=by omega
 simp[LP,z,f11,t2,t5,a]
end
theorem as8:T8 11 (λx:zA=>wt x<ao) D:=by
 refine Td wt λx e a=>?_;have e:wt x<ao:=e;obtain⟨C,g,k,o⟩:∃C,aR Z prog C/\Has C 11 (λy:zA=>wt y<wt x/\wt y<ao) (λy=>[D y,D y]) (λ_=>zP Y)/\Has C 34 (λl:List aB=>I l<ao/\∀x∈l,I x.v<ao) (λl=>[aO l,aO l]) (λ_=>zP Y):=⟨_,aZ (aZ aW a) as7,.Sk (by decide) Has.same,Has.same⟩;have A:=N1 x;have p:=Sd x;have b:=λn(y:zA)(f:y∈x.M) m=>k.ev (T:=Z) n (x:=y) ⟨EG f,by have:=EG f;omega⟩ m;have d:=λn m=>o.ev (T:=Z) n (x:=x.H) ⟨by omega,λy r=>by have:=aaA r;omega⟩ m;refine ku (v:=zP Y) tok C g (.Cs (bg x) (.Cs (bg x) .Nl)) bJ (I x.M+1) F11 alE rfl ?_
 have s:aD (λtm h=>h=iL (D x) 31/\aa tm 2 (pB 0)/\aa tm 3 (pB 1)) ap bE (aF Z (af Z C (I x.M+1+1)) 11 (z f11 pF0) (bF [D x,D x] 0 .Nl) H.e):=by simp[z,f11,iL]
 have t:∀tm h,(h=iL (D x) 31/\aa tm 2 (pB 0)/\aa tm 3 (pB 1))->aD (λtm h=>h=iL (D x) 31/\aa tm 2 (pB 0)/\aa tm 3 (pB 1)) ap bE (aF Z (af Z C (I x.M+1+1)) 11 (z f11 pF1) tm h):=by rintro tm h ⟨rfl,t2,t3⟩;simp[z,f11,t2,t3,d]
 have u:∀tm h,(h=iL (D x) 31/\aa tm 2 (pB 0)/\aa tm 3 (pB 1))->aD (λtm h=>h=iL (D x) 31/\aa tm 2 (pB 0)/\aa tm 3 (pB 1)/\aa tm 5 (J (0:Nat))) ap bE (aF Z (af Z C (I x.M+1+1)) 11 (z f11 [Y,Y,G,G]) tm h):=by rintro tm h ⟨rfl,t2,t3⟩;simp[z,f11,t2,t3]
 refine aS (s.Mo bT aP cS) λtm h q=>aS ((t tm h q).Mo bT aP cS) λtm h q=>
  aS (N':=λ_ _=>True) (aS ((u tm h q).Mo bT aP cS) λtm h q=>?_) λtm h _=>by simp[z,f11]
 let⟨hb,t2,t3,t5⟩:=q;refine fU 0 (λj tm h=>∃i:Nat,j=I x.M-i/\i<=I x.M/\h=iL (D x) 31/\aa tm 2 (pB 0)/\aa tm 3 (pB 1)/\aa tm 5 (J (i:Nat))) (I x.M) ⟨0,by omega,by omega,hb,t2,t3,t5⟩ (by omega) ?_;rintro j tm h m ⟨i,rfl,B,hb,t2,t3,t5⟩-;by_cases c:i<I x.M
 .exact(aos hb t2 t3 t5 (b m) c (by omega)).Mo (λw F q=>⟨_,by omega,i+1,rfl,c,q⟩) aP jr
 .exact(aqV hb t2 t3 t5 (by omega)).Mo aP aP (λ_ _ _ q=>⟨q,trivial⟩)
section
variable{ev:zC->ag}{l:List zA}{i:Nat}{tm:Tr E}{h:H}(hb:h=H.e)(t0:aa tm 0 (al l))(t1:aa tm 1 (al l))(t5:aa tm 5 (J i))
include hb t0 t1 t5
end
end Go.Proofs.YtpeialehpoilbaaGreat
