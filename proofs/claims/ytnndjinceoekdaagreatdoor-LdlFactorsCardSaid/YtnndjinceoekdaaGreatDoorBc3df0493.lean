/-
  Parts of the proof: Fw21: the framework (Fw), pure forms (Dn), plain laws (Pl, Th), calls of functions (Ok).
-/
import Derived.Test.YtnndjinceoekdaaGreatDoorB29f5eb36

set_option linter.all false
set_option maxHeartbeats 1000000
open _root_ renaming Nat->X,List->bm,Bool->bA,rfl->bn,Array->bU,cond_true->bG,cond_false->bP
open Go renaming World->bC,Oper->bR,Operand->bO,execOp->bN,resolve->aiW
open Option renaming some->Y,none->bo
open Bool renaming false->bq,true->bp
open Go.jg.c8 renaming refl->cq
open Go.jg.aW renaming here->ajN
open Go.Sem renaming run_bind->bY,run_pure->cx
open Go.Result renaming andThen_ok->b1
open Go.Oper renaming wp->ais
noncomputable section
namespace Go.jg
section
def nv (d:X) (st:aO) (c:bm ak) (b:bm hG) (a:bm aG):bA:=
 jr (gn c b)&&jr ((j0 c b++iU d (iR a) 0 a).map (·.1))&&(iU d (iR a) 0 a).all λe=>(ar st.h e.1).isNone
section
variable {E:fA} {C:eY} {st:aO} {a:Act} {w w':bC} {I I' B':X->Prop} {rt:X->ah8} {fp:X->aie}
theorem NB {rt:X->ah8} {l:aie} {b:bm (X×aG)}:∀{as:bm ak} {bs:bm hG} {gs:ev},oF b l as bs->gs.length=bs.length->∀id∈mr as bs,∃e∈g4 rt as bs gs,e.1=id/\ar b id=Y ⟨e.2.1.1,(match ar b id with|some h=>if i:h.1=e.2.1.1 then i▸h.2 else e.2.1.2|none=>e.2.1.2)⟩
 |[],bs,gs,_,_,id,b=>by cases bs<;>cases b
 |a::as,[],gs,f,_,id,b=>by cases a<;>exact f.elim
 |a::as,c::bs,[],_,k,id,b=>by cases k
 |a::as,c::bs,o::gs,f,k,id,b=>by
  have d:=NB (rt:=rt) (as:=as) (bs:=bs) (gs:=gs) f.2 (by grind) id;have j:=f.1;cases a with
  |ref n g=>cases g with
   |nil=>
    cases c with
    |m h t=>
     simp only[mr,fR] at b;simp only[g4];rcases b with rfl|b
     ·refine⟨_,nc ..,bn,?_⟩;rw[j.1];simp
     grind
    |_=>exact d b
   |cons=>cases c<;>exact d b
  |view n g q i=>cases g with
   |nil=>
    cases c with
    |w v s r p u=>
     simp only[mr,fR] at b;simp only[g4];rcases b with rfl|b
     ·refine⟨_,nc ..,bn,?_⟩;rw[j.1];simp
     grind
    |_=>exact d b
   |cons=>cases c<;>exact d b
  |_=>cases c<;>exact d b
theorem Gj {e f g:Type} {h:e->f->g->Prop}:∀{as:bm e} {c:bm f} {d:bm g},mg h as c d->c.length=as.length/\d.length=as.length
 |[],c,d,b=>by cases c<;>cases d<;>first|exact⟨bn,bn⟩|exact b.elim
 |a::as,[],d,b=>b.elim
 |a::as,i::c,[],b=>b.elim
 |a::as,i::c,j::d,b=>by obtain⟨k,l⟩:=Gj b.2;grind
theorem XX {a:bm (X×By)} (c:((a.map λb=>b.2.2.2).flatten).Nodup):(∀b∈a,b.2.2.2.Nodup)/\∀d e g h,ar a d=Y g->ar a e=Y h->d≠e->∀j∈g.2.2,j∉h.2.2:=by
 induction a with
 |nil=>exact⟨ac,λd e g h c=>by cases c⟩
 |cons l a r=>
  obtain⟨z,l⟩:=l;simp only[h8,lQ,jO] at c;obtain⟨s,m,t⟩:=c;obtain⟨i1,x⟩:=r m;refine⟨λb w=>?_,λd e g h o p v j u=>?_⟩
  ·grind
  rw[ey] at o p;have y:∀i f,ar a i=Y f->∀k∈f.2.2,k∈(a.map λb=>b.2.2.2).flatten:=λi f q k n=>lS.2 ⟨_,eZ.2 ⟨(i,f),Ak q,bn⟩,n⟩;grind
theorem Er {e:Type}:∀{c:bm (X×e)},(c.map (·.1)).Nodup->∀{b:X×e},b∈c->ar c b.1=Y b.2
 |[],_,b,a=>by cases a
 |(k,x)::c,d,b,a=>by
  simp only[h8,kk] at d;rw[ey];rcases fR.1 a with rfl|a
  ·rw[au bn]
  rw[az (λf=>d.1 (by grind))];exact Er d.2 a
theorem P9 {e:X} {g:bA}:∀{j:X} {f:bm aG} {a:X} {c:ak},(vz e g j f)[a]?=Y c->∃b,f[a]?=Y b/\c=(bif b.1.pure then .val b.1 b.2 else .ref (rH e g (j+a)) [])
 |j,[],a,c,d=>by grind [vz]
 |j,b::k,a,c,d=>by
  simp only[vz] at d;cases a with
  |zero=>grind
  |succ a=>
   obtain⟨l,h,i⟩:=P9 (by simpa using d);grind
theorem Qa {b:X} {c:bA}:∀{j:X} {a:bm aG},(vz b c j a).length=a.length
 |j,[]=>rfl
 |j,e::d=>by simp[vz,Qa]
theorem Qf {d:X} {s:bA}:∀{j:X} {res:bm aG} {cs:er} {hs:ev},cs.length=res.length->hs.length=res.length->∀(a:X) b c e,res[a]?=Y b->cs[a]?=Y c->hs[a]?=Y e->b.1.pure=bq->(rH d s (j+a),(b,c,e))∈k3 d s j res cs hs
 |j,[],cs,hs,_,_,a,b,c,e,aq,_,_,_=>by grind
 |j,b::f,[],hs,g,_,_,_,_,_,_,_,_,_=>by cases g
 |j,b::f,c::cs,[],_,h,_,_,_,_,_,_,_,_=>by cases h
 |j,b::f,c::cs,e::hs,g,h,a,m,i,k,aq,n,o,l=>by
  simp only[k3];cases a with
  |zero=>
   grind
  |succ a=>
   have:=Qf (d:=d) (s:=s) (j:=j+1) (res:=f) (cs:=cs) (hs:=hs) (by grind) (by grind) a m i k (by grind) (by grind) (by grind) l;grind
end
section
variable {E:fA} {C:eY} {st:aO} {A:bU bR} {Q:aO->Prop}
theorem Re {i:bm (X×aG)} {j:aie}:∀{as:bm ak} {bs:bm hG},oF i j as bs->∀id∈gn as bs,∃h,ar i id=Y h
 |[],bs,_,id,b=>by cases bs<;>cases b
 |a::as,[],e,id,b=>by cases a<;>exact e.elim
 |a::as,c::bs,e,id,b=>by
  have d:=Re (as:=as) (bs:=bs) e.2 id;have f:=e.1;cases a with
  |ref k g=>cases g with
   |nil=>
    cases c with
    |m h s=>
     simp only[gn,fR] at b;rcases b with rfl|b
     ·exact⟨_,f.1⟩
     grind
    |o h=>
     simp only[gn,fR] at b;rcases b with rfl|b
     ·exact⟨_,f⟩
     grind
    |_=>exact d b
   |cons=>cases c<;>exact d b
  |view k g p l=>cases g with
   |nil=>
    cases c with
    |w u r q n t=>
     simp only[gn,fR] at b;rcases b with rfl|b
     ·exact⟨_,f.1⟩
     grind
    |_=>exact d b
   |cons=>cases c<;>exact d b
  |_=>cases c<;>exact d b
theorem IU {s:ah6} {w:bC} {I:X->Prop} {rt:X->ah8} {fp:X->aie} (e:cN C st s w I rt fp):∀{a:aie},(∀id∈a,∃b,ar st.h id=Y b)->a.Nodup->((a.map fp).flatten).Nodup
 |[],_,_=>by simp
 |id::a,d,f=>by rw[kk] at f;simp only[h8,lQ,jO];obtain⟨b,g⟩:=d id ac;refine⟨(e.tree id b g).2.1,IU e (λq u=>d q (by grind)) f.2,λj m t n c=>?_⟩;subst c;obtain⟨v,k,l⟩:=lS.1 n;obtain⟨i,o,rfl⟩:=eZ.1 k;obtain⟨r,p⟩:=d i (by grind);exact e.dis id i b r g p (λc=>f.1 (c▸o)) j m l
def Ss (e:eD->X->Prop) (w:bC) (c:X) (b:bm aG) (f:X->ah8) (g:Value):Prop:=
 ∀(d:bm (X×aG)) (rt:X->ah8) (fp:X->aie),(∀a∈iU c (iR b) 0 b,ar d a.1=Y a.2/\rt a.1=f a.1)->cP e w d rt fp (vy c b) g
def cN.glob {E:fA} {C:eY} {st:aO} {f:ah6} {w:bC} {I:X->Prop} {rt:X->ah8} {fp:X->aie} (b:cN C st f w I rt fp) (d:∀a,C.I0 a\/C.B a->a<C.w0.heap.size/\¬C.F0 a) (e:lg E C.I0 C.w0):lg E I w:=
 e.mono b.i0 λa c=>b.frame a (d a (.inl c)).1 (d a (.inl c)).2
theorem cN.call {C:eY} {st:aO} {hc:ah6} {w:bC} {I:X->Prop} {rt:X->ah8} {fp:X->aie} (H:cN C st hc w I rt fp) {m ci:X} {n:bm ak} {T:ah8} (c2:iv (cP (bb I C.B) w st.h rt fp) n T) {l:bm hG} {g:bm aG} (ft:rU E ci l g) (U:oF st.h (gn n l) n l) (a3:nv m st n l g=bp) (gf:∀G:ev,(∀e∈G.flatten,∃id c,ar st.h id=Y c/\e∈fp id)->KX w T G (pb 0 l)) (ex:lg E I w):Calls E.P ci T.toArray w (λN w'=>∃I' J Q r,N=.returned (qg r)/\nk C st w w' I I' rt fp (gn n l) (xx (mr n l)) (j0 n l++iU m (iR g) 0 g) J Q/\Ss (bb I' C.B) w' m g J (qg r)):=by
 simp only[nv,bk,g0] at a3;obtain⟨⟨dl,ds⟩,jp⟩:=a3;have dl:=jr.ok dl;have ds:=jr.ok ds
 let v:=gn n l
 let B':X->Prop:=λe=>C.B e\/∃id c,ar st.h id=Y c/\eQ id v=bq/\e∈fp id
 have em:∀e,C.B e->B' e:=λe k=>.inl k;have eq:∀id c,ar st.h id=Y c->eQ id v=bq->∀e∈fp id,B' e:=λid c y o e k=>.inr ⟨id,c,y,o,k⟩;obtain⟨G,f0,i0⟩:=Ls H (B':=B') (S:=v) em eq (args:=l) c2 U;have kg:∀id∈v,∃c,ar st.h id=Y c:=λid x=>Re U id x;have V:∀e∈G.flatten,∃id∈v,∃c,ar st.h id=Y c/\e∈fp id:=(by grind);have f1:G.flatten.Nodup:=(by grind [IU]);have fz:=ft w I B' T G (λe k=>by
  rcases k with k|k|⟨id,c,y,_,k⟩
  ·exact H.ib e (.inl k)
  ·exact H.ib e (.inr k)
  ·exact((H.tree id c y).2.2 e k).2.2.1) f0 f1 (λe k=>by
  obtain⟨id,x,c,y,av⟩:=V e k;obtain⟨aw,d6,bx,d7⟩:=(H.tree id c y).2.2 e av;refine⟨aw,?_,bx⟩;rintro(A|⟨d4,am,gi,o,fs⟩)
  ·grind
  ·have f9:id≠d4:=λN=>(by grind [ha]);exact H.dis id d4 c am y gi f9 e av fs) (gf G λe k=>by
  grind) ex
 refine fz.mono ?_;rintro N w' ⟨I',F,D,r,rfl,p⟩;obtain⟨K,a4,bl,lb,d2⟩:=Qc p.res;have f2:=(Gj p.args).2;have c1:oF st.h v n l:=U
 let q:bm (X×By):=g4 rt n l F++k3 m (iR g) 0 g K D
 have ic:q.map (λb=>(b.1,b.2.1))=j0 n l++iU m (iR g) 0 g:=(by grind [PF,Fg]);have cv:(q.map (·.1)).Nodup:=(by grind);have i1:((g4 rt n l F).map (λb=>b.2.2.2)).flatten=F.flatten:=PE c1 p.args;have i3:((k3 m (iR g) 0 g K D).map (λb=>b.2.2.2)).flatten.Sublist D.flatten:=Qd;have cs:((q.map λb=>b.2.2.2).flatten).Sublist (F.flatten++D.flatten):=(by grind);obtain⟨ii,hs⟩:=XX (p.nd.sublist cs);have gc:∀b∈g4 rt n l F,aS (bb I' C.B) w' b.2.1.1 b.2.2.1 b.2.1.2 b.2.2.2/\b.2.2.1=rt b.1/\b.1∈v/\∃c,ar st.h b.1=Y c/\b.2.1.1=c.1:=(by exact PG H (S:=v) (args:=l) (gs:=F) c2 U p.args);have fn:∀b∈q,aS (bb I' C.B) w' b.2.1.1 b.2.2.1 b.2.1.2 b.2.2.2/\(b.1∈v\/ar st.h b.1=bo):=by
  intro b z;rcases h9.1 z with z|z
  ·grind
  obtain⟨f,aq,O,an⟩:=Qe a4 bl b z;have f6:f<r.length:=(by grind);obtain⟨_,R⟩:=d2 f _ _ _ r[f] aq O an ac;refine⟨R.mono (λbs e o=>⟨?_,cq _ _⟩) (λe _=>cq _ _),.inr ?_⟩
  ·cases bs
   ·exact o
   exact o.elim .inl (λA=>A.elim)
  have o:(b.1,b.2.1)∈iU m (iR g) 0 g:=(by grind [Fg]);grind [Option.isNone_iff_eq_none]
 have fl:∀b∈q,∀e∈b.2.2.2,e∈F.flatten++D.flatten:=λb z e k=>cs.subset (lS.2 ⟨_,eZ.2 ⟨b,z,bn⟩,k⟩);have d0:∀f,ar (j0 n l++iU m (iR g) 0 g) f=(ar q f).map (·.1):=λf=>by grind [NW]
 let J:X->ah8:=λf=>match ar q f with|some b=>b.2.1|none=>[]
 let Q:X->aie:=λf=>match ar q f with|some b=>b.2.2|none=>[]
 have gl:nk C st w w' I I' rt fp v (xx (mr n l)) (j0 n l++iU m (iR g) 0 g) J Q:=
  ⟨p.size,p.os,p.tape,p.output,λe k io=>p.heap e k (λfT=>by obtain⟨id,x,c,y,av⟩:=V e fT;grind),p.evo,p.i,(λe k=>by
    rcases p.i2 e k with A|⟨L,M|M⟩
    ·grind
    ·omega
    exact .inr ⟨L,.inr (V e M)⟩),
   (λid c x=>by
    rw[d0] at x;cases ap:ar q id with
    |none=>grind
    |some b=>
     rw[ap] at x;obtain rfl:b.1=c:=gC x;have o:=Ak ap;obtain⟨L,M⟩:=fn _ o;refine⟨M,by grind,by grind,λe k=>?_⟩;simp only[Q,ap] at k;obtain⟨aw,d6,bx,d7⟩:=p.LB e (fl _ o e k);exact⟨aw,bx,d7.imp (λA=>A) (V e)⟩),
   (λad d8 c lk f4 f5 i8 e k=>by
    rw[d0] at f4 f5;cases hv:ar q ad with
    |none=>grind
    |some lc=>
     cases hw:ar q d8 with
     |none=>grind
     |some le=>
      grind),
   (λd9 a0 c y=>by
    obtain⟨id,x,rfl⟩:=eZ.1 a0;obtain⟨b,z,N,_⟩:=NB (rt:=rt) c1 f2 id x;subst N;have o:b∈q:=r4 _ z;have kd:=Er cv o;obtain⟨_,M,_,am,co,el⟩:=gc b z;rw[y] at co;obtain rfl:=gC co;exact⟨b.2.1,by grind,el,by grind,⟨c.1,by cases c.1<;>rfl⟩,λb _ _ _ a3=>by grind [Ej]⟩),
   (λd9 a0 c y b _ _ _ _ _ is=>by
    obtain⟨id,x,rfl⟩:=eZ.1 a0;grind [uO])⟩
 refine⟨I',J,Q,r,bn,gl,λL go ek f3=>?_⟩;have d5:∀(f:X) (c:aG) (u:Value),g[f]?=Y c->r[f]?=Y u->cP (bb I' C.B) w' L go ek (bif c.1.pure then .val c.1 c.2 else .ref (rH m (iR g) (0+f)) []) u:=by
  intro f c u aq O;have f6:f<g.length:=(hH.1 aq).1;obtain⟨an,R⟩:=d2 f c K[f] D[f] u aq ac ac O;subst an;cases d1:c.1.pure with
  |true=>
   simp only[bG];have:=R.pure d1;rw[this] at R;refine .val (R.mono (λbs e o=>⟨?_,cq _ _⟩) ac);cases bs
   ·exact o
   exact o.elim .inl (λA=>A.elim)
  |false=>
   simp only[bP];have f7:=Qf (d:=m) (s:=iR g) (j:=0) a4 bl f c K[f] D[f] aq ac ac d1;have o:(rH m (iR g) (0+f),(c,K[f],D[f]))∈q:=lm _ f7;have f8:(rH m (iR g) (0+f),c)∈iU m (iR g) 0 g:=(by rw[<-Fg (d:=m) (s:=iR g) (j:=0) a4 bl];grind);obtain⟨aw,d6⟩:=f3 _ f8;refine .ref (t:=c) (loc:=bo) aw ?_;have hr:J (rH m (iR g) (0+f))=K[f]:=(by simp only[J,Er cv o]);grind [ajN]
 cases d3:g with
 |nil=>
  have:r=[]:=qA (by grind);subst this;exact .fe (vs:=#[]) rfl (λad a u A=>by grind)
 |cons c ce=>
  cases ce with
  |nil=>
   obtain⟨u,rfl⟩:∃u,r=[u]:=qG.1 (by grind);have:=d5 0 c u (by grind) rfl;rw[d3] at this;exact this
  |cons gt ce=>
   have ge:qg r=.tuple r.toArray:=by
    have:r.length=(c::gt::ce).length:=by grind
    match r,this with
    |v1::fv::lf,_=>rfl
   rw[ge];refine .fe (by grind [Qa]) (λad hi u L M=>?_);obtain⟨am,aq,O⟩:=P9 L;have:=d5 ad am u (by grind) (by grind);rw[d3] at this;rw[O];exact this
theorem Qg {a:X} {d:bA} {c:bm aG} {e:bm (X×aG)} (f:((e++iU a d 0 c).map (·.1)).Nodup):∀b∈iU a d 0 c,ar (e++iU a d 0 c) b.1=Y b.2:=
 λb g=>Er f (lm _ g)
theorem e0.call {Q:aO->Prop} {j d:X} {l:bR} {f:bO} {c:bm ak} {b s:bU _} (K:l.op=.call {callee:=.value f,args:=b,argTypes:=s}) (S:aT st.g f=.eB d c) (G:l.dst=Y j) (H:C.ok j) (ap:∀(r:ah6) (w:bC),(callFunc d r).run E.P w=.ok (.enter d r) w) {i:bm hG} {n:bm aG} (D:rU E d i n) (N:pb 0 i=bo) (x:∀m,C.I0 m\/C.B m->m<C.w0.heap.size/\¬C.F0 m) (y:lg E C.I0 C.w0) (z:oF st.h (gn (b.toList.map (aT st.g)++c) i) (b.toList.map (aT st.g)++c) i) (p:nv j st (b.toList.map (aT st.g)++c) i n=bp) (u:Q (TM j st (b.toList.map (aT st.g)++c) i n)):e0 E C l st Q:=by
 rintro a w ⟨I,rt,fp,k⟩ next U J
 obtain⟨e,R,v⟩:∃e:ah6,a.eval f=.func (.func d) #[] e/\iv (cP (bb I C.B) w st.h rt fp) c e.toList:=by
  have o:=k.aT f;rw[S] at o;generalize bs:a.eval f=ci at o;cases o with|eB a3 a0=>
  grind [yJ]
 have A:iv (cP (bb I C.B) w st.h rt fp) (b.toList.map (aT st.g)++c) (b.toList.map a.eval++e.toList):=Gh (Gi (λf=>k.aT f) _) v;have F:=k.call A D z p (λ_ _=>by rw[N];trivial) (k.glob x y);generalize an:b.toList.map (aT st.g)++c=V at*;have M:(bN a.eval l).run E.P w=.ok (.enter d (b.toList.map a.eval++e.toList).toArray) w:=(by have aq:b.map a.eval=(b.toList.map a.eval).toArray:=(by grind);have t:(b.toList.map a.eval++e.toList).toArray=(b.toList.map a.eval).toArray++e:=ac;rw[t];simp only[bN,K,aiW,aq,bY,R,Deferred.ofValue,cx,b1,invoke,Array.empty_append,Array.append_empty];grind);unfold ais;rw[M];show Calls E.P d _ w _;refine F.mono ?_;rintro ad w' ⟨I',ce,am,T,rfl,O,L⟩;show next (a.put l.dst (qg T)) w'
 rw[G];have q:=p;simp only[nv,bk] at q;have a4:=jr.ok q.1.2;refine J _ _ _ u bn ⟨I',_,_,(k.eC O).put H (av:=vy j n) (L _ _ _ (λbx bl=>?_))⟩;grind [kA,Qg,fh]
end
end
end Go.jg
end
