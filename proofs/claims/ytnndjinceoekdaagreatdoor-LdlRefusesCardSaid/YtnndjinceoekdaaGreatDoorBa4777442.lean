/-
  Parts of the proof: Fw1, Fw2, Fw3, Fw4, Fw5, Fw6, Fw7, Fw8, Fw40, Fw41, Fw9, Fw10, Fw11, Fw12, Fw13, Fw14, Fw15, Fw16, Fw17, Fw18, Fw19, Fw20, Fw21: the framework (Fw), pure forms (Dn), plain laws (Pl, Th), calls of functions (Ok).
-/
import Derived.Laws.AppendOwn
import Derived.ArgAppend
import Derived.Laws.IdiomCopy
import Derived.Laws.Cells
import Derived.Laws.MakeOwn
import Derived.Calls
import Derived.Orders
import Derived.Laws.Entries
import Derived.Maps.RangeRun

set_option linter.all false
set_option maxHeartbeats 1000000
open Go renaming TypeId->bN,Operand->bS,World->bH,MapEntry->alg,Exit->ca,IntKind->cD,undef->bZ,Program->b3,Field->aly,sizeOf->alY,typeInfo->alN,run_underlying->cz,Oper->bU,execOp->bT,binOp->alK,madeCells->aop,zeroValue->alL,newRow->alU,Code->cA,callFunc->amo
open _root_ renaming Nat->X,Array->bX,Option->bA,DecidableEq->aol,List->bp,Int->Z,Bool->bD,Unit->bw,rfl->bq,and_true->cf,False->b7,if_true->cp,congrArg->b4,cond_false->bR,cond_true->bI,beq_self_eq_true->alC,decide_eq_true->alc,decide_eq_false->alM,decide_eq_true_eq->alD
open Option renaming some->Y,none->bv,isSome_none->apr,isSome_some->aps
open Bool renaming true->bt,false->br
open Go.World renaming cell?_of_block->apj,frozen?_of_block->apk,cell?->aml,setCells->anJ,setCell->apz,cell?_setCells_in->am5,cell?_setCells_out->anK,frozen?_setCells->aou
open Go.MapEntry renaming mk->aom
open Go.Value renaming oneCell'->alw,int->alz,agg->apA
open List renaming mem_cons_of_mem->anv,mem_flatten->amy,mem_of_getElem?->alo,getElem?_take->anx,count_cons->anz,take_take->apl,all_eq_true->amj,getElem?_eq_some_iff->alT,drop_drop->amV,append_eq_nil_iff->aon,replicate->bJ,drop_eq_nil_iff->anE,range->bK,pairwise_cons->am0,filter_eq_self->amA,map_congr_left->alq,foldlM_cons->apu,any_eq_true->apv,getElem?_eq_getElem->bV,mem_append_right->anL,take_append_drop->amC,getElem_mem->b1,flatten_cons->amn
open Go.Value.pointer renaming injEq->ami
open Go.Addr.mk renaming injEq->alx
open Go.Value.slice renaming injEq->alh
open Iff renaming rfl->anw
open Nat renaming min_self->apm,beq->bL,eq_of_beq_eq_true->alX,ble->b5,add_comm->amY,blt->cg,beq_refl->anG,div_lt_iff_lt_mul->anH,mod_lt->amm,div_add_mod->anI
open Option.some renaming inj->al6
open ByteArray renaming empty->anA
open Go.Sem renaming run_bind->b8,run_pure->alp,run->am1
open Go.Result renaming andThen_ok->cd
open Go.Addr renaming add_lit->al7
open Go.Oper renaming wp->alJ
open BitVec renaming ofInt->cn
open Decidable renaming decide->bz
open Go.Op renaming equalIn->amW,unary->aot
open Go.Instr renaming loadAt->apn,sureAddr->amz,sliceBounds->amX,sliceBound->aoo,fill->apo,box->anC,findNow->amB,sameNow->aor,findKey->am2,checkKey->apq,mapUpdate->aos,keyThatStays->apt,lookup->anF
open Int renaming natCast_mul->anB
open Array renaming map->anD,mapM_eq_mapM_toList->aoq,empty_append->apy,getD_eq_getD_getElem?->aov
open List.Pairwise renaming nil->amZ,cons->aqF
open Pure renaming pure->amk
open Go.Builtin renaming append_->am3,firstCells->apw,lenOf->apx,zeroCells->am4
open Go.Region renaming wanted->anM
theorem aa{p:Prop}(h:p:=by omega):p:=h
theorem ab{p:Prop}(h:p:=by decide):p:=h
theorem ac{p:Prop}(h:p:=by simp):p:=h
theorem ae{p:Prop}(h:p:=by grind):p:=h
theorem af{p:Prop}(h:p:=by rfl):p:=h
theorem ag{p:Prop}(h:p:=by simp_all):p:=h
abbrev aA:=@if_neg
abbrev aB:=@if_pos
abbrev aF:=@Option.bind_some
abbrev bg:=@Nat.le_refl
abbrev bh:=@List.getElem?_eq_getElem
abbrev cK:=@List.getElem_mem
abbrev cL:=@Bool.and_eq_true
abbrev cY:=@Nat.lt_or_ge
abbrev di:=@List.length_map
abbrev dj:=@Nat.zero_le
abbrev dk:=@Nat.le_trans
abbrev e1:=@List.mem_map
abbrev fc:=@Option.some.injEq
abbrev fh:=@Option.bind_eq_some_iff
abbrev fu:=@Int.le_of_lt
abbrev fD:=@List.take_of_length_le
abbrev fH:=@List.mem_singleton
abbrev fN:=@Nat.eq_of_beq_eq_true
abbrev fO:=@Option.map_eq_some_iff
abbrev gg:=@Int.toNat_natCast
abbrev gn:=@List.mem_cons
abbrev gu:=@List.length_take
abbrev gy:=@Option.some.inj
abbrev gB:=@Int.eq_ofNat_of_zero_le
abbrev gC:=@List.take_length
abbrev g7:=@Bool.not_true
abbrev g8:=@Nat.le_of_ble_eq_true
abbrev hp:=@List.all_eq_true
abbrev hq:=@List.length_append
abbrev ht:=@List.mem_cons_of_mem
abbrev hA:=@List.take_add_one
abbrev hM:=@List.mem_append
abbrev hN:=@List.mem_range
abbrev hV:=@List.mem_iff_getElem
abbrev h4:=@List.mem_filter
abbrev h5:=@Nat.min_eq_left
abbrev ig:=@List.ext_getElem?
abbrev ih:=@List.getElem?_eq_some_iff
abbrev ir:=@List.map_cons
abbrev it:=@List.pairwise_iff_getElem
abbrev iC:=@List.cons.injEq
abbrev iD:=@List.nil_append
abbrev iK:=@List.map_append
abbrev iL:=@List.map_congr_left
abbrev iX:=@Nat.mul_le_mul_right
abbrev iY:=@Prod.mk.injEq
abbrev jd:=@List.append_assoc
abbrev je:=@List.range_succ
abbrev ju:=@List.length_cons
abbrev jv:=@Option.map_some
abbrev jB:=@Int.lt_or_le
abbrev jE:=@List.mem_of_getElem?
abbrev jF:=@List.take_append_drop
abbrev jG:=@Nat.lt_of_lt_of_le
abbrev jO:=@Bool.or_eq_true
abbrev jQ:=@List.getElem?_map
abbrev j2:=@Int.mul_le_mul_of_nonneg_left
abbrev j3:=@List.nodup_append
abbrev j4:=@Nat.two_pow_pos
abbrev kK:=@Int.mul_assoc
abbrev kL:=@Nat.add_mul
abbrev kM:=@Nat.one_mul
abbrev k2:=@List.getD_eq_getElem?_getD
abbrev k3:=@Nat.pow_add
abbrev lu:=@Int.mul_comm
abbrev lv:=@List.length_filter_le
abbrev lw:=@List.mem_append_right
abbrev lx:=@List.nodup_cons
abbrev l3:=@Int.pow_add
abbrev ml:=@Int.emod_add_mul_ediv
abbrev mm:=@List.drop_zero
abbrev mn:=@List.flatMap_append
abbrev mq:=@List.flatten_cons
abbrev mr:=@List.length_range
abbrev ms:=@List.mem_flatten
abbrev mP:=@Bool.not_false
abbrev mR:=@Int.ediv_nonneg
abbrev mS:=@Int.mul_nonneg
abbrev mT:=@Int.pow_pos
abbrev mU:=@List.mem_cons_self
abbrev mV:=@Nat.mul_le_mul
abbrev nr:=@List.length_singleton
abbrev ns:=@List.pairwise_cons
abbrev nu:=@Nat.add_zero
abbrev nv:=@Nat.zero_add
abbrev nR:=@Int.mul_le_mul_of_nonneg_right
abbrev nS:=@List.length_drop
abbrev oy:=@Int.emod_nonneg
abbrev oz:=@Int.zero_mul
abbrev oA:=@List.append_nil
abbrev oB:=@List.cons_append
abbrev oC:=@List.drop_eq_nil_of_le
abbrev oD:=@List.filter_eq_self
abbrev oE:=@List.getElem_map
abbrev oF:=@List.mem_append_left
abbrev oG:=@List.pairwise_map
abbrev pn:=@List.getElem?_eq_none
abbrev po:=@List.length_nil
abbrev pp:=@List.map_map
abbrev pq:=@Nat.lt_succ_self
abbrev pt:=@Nat.sub_self
abbrev p5:=@Int.ediv_eq_zero_of_lt
abbrev p6:=@Int.emod_lt_of_pos
abbrev p7:=@Int.mul_pos
abbrev qa:=@List.any_eq_true
abbrev qb:=@List.filter_append
abbrev qc:=@List.filter_congr
abbrev qd:=@List.filter_cons
abbrev qe:=@List.getElem?_append_right
abbrev qf:=@List.getElem?_drop
abbrev qg:=@List.getElem_inj
abbrev qj:=@Nat.eq_zero_or_pos
abbrev qk:=@Nat.mul_comm
abbrev ri:=@List.drop_drop
abbrev rj:=@List.drop_of_length_le
abbrev rk:=@List.eq_nil_of_length_eq_zero
abbrev rm:=@List.getElem?_append_left
abbrev rn:=@List.length_eq_one_iff
abbrev rp:=@List.length_replicate
abbrev sB:=@Array.mem_append_right
abbrev sC:=@Bool.and_eq_true_iff
abbrev sE:=@Int.ediv_lt_of_lt_mul
abbrev sF:=@Int.emod_eq_of_lt
abbrev sG:=@Int.mul_lt_mul_of_pos_right
abbrev sH:=@List.Pairwise.imp_of_mem
abbrev sI:=@List.all_cons
abbrev sJ:=@List.drop_append_of_le_length
abbrev sK:=@List.getElem?_take_of_lt
abbrev sL:=@List.map_nil
abbrev sM:=@Nat.add_assoc
abbrev sN:=@Nat.add_sub_cancel_left
abbrev sO:=@Nat.lt_trichotomy
abbrev sP:=@Option.getD_some
abbrev uG:=@Bool.not_eq_true'
abbrev uM:=@Int.ediv_ediv_of_nonneg
abbrev uN:=@Int.ediv_le_self
abbrev uO:=@Int.natAbs_mul
abbrev uP:=@Int.natCast_mul
abbrev uQ:=@List.any_eq_false
abbrev uR:=@List.count_append
abbrev uS:=@List.flatMap_cons
abbrev uT:=@List.mem_of_mem_take
abbrev uU:=@List.nodup_range
abbrev uV:=@List.perm_iff_count
abbrev uW:=@List.size_toArray
abbrev uX:=@List.take_append_of_le_length
abbrev uY:=@Nat.div_add_mod
abbrev uZ:=@Nat.mul_assoc
abbrev u0:=@Nat.pow_le_pow_right
abbrev u1:=@Nat.pow_succ
abbrev u3:=@Rat.intCast_mul
abbrev w8:=@Array.replicate_succ
abbrev w9:=@Array.replicate_zero
abbrev xa:=@Bool.eq_iff_iff
abbrev xg:=@Int.add_mul_ediv_left
abbrev xh:=@List.append_toArray
abbrev xi:=@List.ext_getElem
abbrev xj:=@List.filter_sublist
abbrev xk:=@List.getElem?_set
abbrev xl:=@List.map_singleton
abbrev xm:=@List.mem_flatMap
abbrev xn:=@List.push_toArray
abbrev xo:=@List.take_zero
abbrev xq:=@Nat.lt_irrefl
abbrev zL:=@Int.add_mul_emod_self_left
abbrev zM:=@List.append_of_mem
abbrev zN:=@List.drop_eq_getElem_cons
abbrev zO:=@List.flatten_append
abbrev zP:=@List.getElem?_cons_zero
abbrev zQ:=@List.getElem?_range
abbrev zR:=@List.getElem_set_ne
abbrev zS:=@List.length_pos_iff
abbrev zT:=@List.mem_take_iff_getElem
abbrev zU:=@List.mem_toArray
abbrev zV:=@List.singleton_append
abbrev zX:=@Nat.not_lt_zero
abbrev CT:=@Array.getElem?_eq_some_iff
abbrev CU:=@Array.getElem?_toList
abbrev CV:=@Bool.or_eq_true_iff
abbrev C1:=@Int.lt_of_mul_lt_mul_left
abbrev C3:=@List.filter_filter
abbrev C4:=@List.idxOf_lt_length_iff
abbrev C5:=@List.length_range'
abbrev C6:=@List.takeWhile_append_dropWhile
abbrev Hs:=@Array.getElem?_eq_getElem
abbrev Hw:=@Int.tdiv_eq_ediv_of_nonneg
abbrev Hx:=@Int.tmod_eq_emod_of_nonneg
abbrev HB:=@List.filter_cons_of_neg
abbrev HC:=@List.filter_cons_of_pos
abbrev HD:=@List.getElem?_cons_succ
abbrev HE:=@List.mem_of_find?_eq_some
abbrev HG:=@Option.isSome_iff_exists
abbrev dn:=List (Int×(Int×(List Int×(Int×Unit))))×(Option (List (Int×(Int×(List Int×(Int×Unit)))))×Option (List Int)×Unit)×Unit
abbrev dq:=(List (List Int)×Unit)×List (Int×(Int×(List Int×(Int×Unit))))×Unit
abbrev dr:=List (Int×(Int×(List Int×(Int×Unit))))×(Option Int×Unit)×Unit
abbrev dt:=(List (List Int)×Unit)×(List (List Int)×Unit)×List Int×Unit
abbrev du:=(Int×List Int×Unit)⊕((List Int×Unit)⊕(List Int×Bool×Unit))
abbrev dv:=(List Int×Unit)⊕((Int×List Int×Unit)⊕(Unit⊕(Int×Unit)))
abbrev dw:=Int×(List (List Int)×Unit)×(List (List Int)×Unit)×Unit
abbrev dx:=(List (List Int)×Unit)×(List (List Int)×Unit)×Unit
abbrev dy:=List Int×(Option (List (List Int)×Unit)×Unit)×Unit
abbrev dz:=(Int×Unit)⊕(Unit⊕((Int×Unit)⊕(Unit⊕(Int×Unit))))
abbrev dA:=Int×(List (List Int)×Unit)×List (List Bool)×Unit
abbrev dB:=List (Int×(Int×(List Int×(Int×Unit))))×Int×Unit
abbrev dC:=(List (List Int)×Unit)×List (List Bool)×Unit
abbrev dD:=Int×(List (List Bool)×(List Bool×Unit))×Unit
abbrev dE:=Unit⊕(Unit⊕((Int×Unit)⊕(Unit⊕(Int×Unit))))
abbrev dF:=(List (List Bool)×(List Bool×Unit))×Unit
abbrev dG:=(Int×List Bool×Unit)⊕(Unit⊕(Bool×Unit))
abbrev dH:=List (Int×(Int×(List Int×(Int×Unit))))
abbrev dI:=(Int×Int×Unit)⊕((Int×Unit)⊕(Int×Unit))
abbrev dK:=(List (List Int)×Unit)×List Int×Unit
abbrev dL:=(List Int×Unit)⊕(List Int×Bool×Unit)
abbrev dM:=Unit⊕((Int×Unit)⊕(Unit⊕(Int×Unit)))
abbrev dN:=(Int×List Int×Unit)⊕(List Int×Unit)
abbrev dP:=(Int×Int×Unit)⊕(Unit⊕(Bool×Unit))
abbrev dQ:=List (List Bool)×(List Bool×Unit)
abbrev dR:=(List (List Int)×Unit)×Int×Unit
abbrev dS:=Int×(Int×(List Int×(Int×Unit)))
abbrev dT:=(Int×Unit)⊕(Unit⊕(Bool×Unit))
abbrev dU:=(Int×Unit)⊕(Unit⊕(Int×Unit))
abbrev dV:=(List (List Int)×Unit)×Unit
abbrev dX:=Int×List (List Bool)×Unit
abbrev dY:=Int×(List Int×(Int×Unit))
abbrev dZ:=List (List Bool)×Unit
abbrev ea:=(Int×Unit)⊕(Int×Unit)
abbrev eb:=List (List Int)×Unit
abbrev ed:=List Int×Bool×Unit
abbrev ee:=Int×List Bool×Unit
abbrev ef:=List Int×Int×Unit
abbrev eg:=Int×List Int×Unit
abbrev eh:=Nat×Nat×List Nat
abbrev ei:=Unit⊕(Bool×Unit)
abbrev ej:=Int×Int×Int×Unit
abbrev en:=Unit⊕(Int×Unit)
abbrev eo:=List Bool×Unit
abbrev ep:=Int×Bool×Unit
abbrev er:=List Int×Unit
abbrev es:=Bool×Int×Unit
abbrev et:=Int×Int×Unit
abbrev eu:=Bool×Unit
abbrev ev:=Int×Unit
abbrev ew:=Nat×Nat
abbrev ey:=List (List Go.Value)
abbrev ez:=Option (List Int)
abbrev eA:=List (Option Int)
abbrev eB:=List (List Bool)
abbrev eC:=List (List Nat)
abbrev akW:=List (List Int)
abbrev akX:=Option Go.Operand
abbrev akY:=Array Go.Value
abbrev akZ:=List Go.TypeId
abbrev ak0:=List Go.Value
abbrev ak1:=Option Int
abbrev ak2:=Option Nat
abbrev ak3:=Option eu
abbrev ak4:=Option ev
abbrev ak5:=List Bool
abbrev ak6:=List Nat
abbrev ak7:=List Int
abbrev ak8:=List ew
noncomputable section
namespace Go.l0
variable{a z:bN}{b i:X}{c h:bS}{f m:bH}{g y:ak0}{j:X->Prop}{k:ak6}{o:bX alg}{r:X->ak0}{s:X->ak6}{t:bA Addr}{u:ca->Act->bH->Prop}{v:akY}{x:cD}{N S:Type}{Q:bX (X×bS)}{R:Value}
inductive eW where
 |bo
 |dm
 deriving aol
variable{d:eW->X->Prop}
inductive ao where
 |int (k:cD)
 |bool
 |str
 |bb (m:eW) (t:ao)
 |ptr (m:eW) (t:ao)
 |osl (t:ao)
 |optr (t:ao)
 |st (t:ao)
 |pr (a b:ao)
 |nil
 |eL
 |mp (t:ao)
 |fm (m:eW) (t:ao)
 |fn (n:X) (t:ao)
 deriving aol
variable{e q:ao}{l:bp (X×ao)}
def ao.size:ao->X
 |.pr a b=>a.size+b.size
 |.st c=>c.size
 |.nil|.eL=>0
 |_=>1
@[reducible] def ao.den:ao->Type
 |.int _=>Z
 |.bool=>bD
 |.str=>ByteArray
 |.bb _ a=>bp a.den
 |.ptr _ a=>bA a.den
 |.osl a=>bp a.den
 |.optr a|.st a=>a.den
 |.pr b c=>b.den×c.den
 |.nil|.eL=>bw
 |.mp a|.fm _ a=>bA (bp (Z×a.den)×X)
 |.fn _ a=>a.den
def nt {d:Type} (b:bp (Z×X×d)) (c:bp (Z×d)) (g:X):Prop:=
 c.Pairwise (λe f=>e.1<f.1)/\(b.map λa=>(a.1,a.2.2)).Perm c/\(b.map λa=>a.2.1).Nodup/\∀a∈b,a.2.1<g
def eY:ao->ak0->Value
 |.st _,a=>.agg a.toArray
 |_,a=>a.headD bZ
def fC (f:bH) (c e:X) (d:ak0):Prop:=∀a b,d[a]?=Y b->f.cell? ⟨c,e+a,bv⟩=Y b
def jb (c:bH) (b e d:X):Prop:=∀a,e<=a->a<d->(c.cell? ⟨b,a,bv⟩).isSome=bt/\c.frozen? ⟨b,a,bv⟩=br
def jy (d:bH) (a:X):bA (bX alg×X):=match d.heap[a]? with
 |some (.map c b)=>Y (c,b)
 |_=>bv
def eF (c d:bH) (a:X):Prop:=(∀b,d.cell? ⟨a,b,bv⟩=c.cell? ⟨a,b,bv⟩/\d.frozen? ⟨a,b,bv⟩=c.frozen? ⟨a,b,bv⟩)/\jy d a=jy c a
def eF.refl (a:bH) (b:X):eF a a b:=⟨λ_=>⟨bq,bq⟩,bq⟩
theorem eF.of_heap (c:m.heap[b]?=f.heap[b]?):eF f m b:=
 ⟨λd=>⟨apj (a:=⟨b,d,bv⟩) c,apk (a:=⟨b,d,bv⟩) c⟩,by grind [jy]⟩
def mQ (j k:bH) (d:X):Prop:=∀f b,jy j d=Y (f,b)->∃g e,jy k d=Y (g,e)/\b<=e/\∀(h:X) (a:alg),g[h]?=Y a->a.born<b->∃(i:X) (c:alg),f[i]?=Y c/\c.key=a.key/\c.born=a.born
def mQ.of_eq (e:jy m b=jy f b):mQ f m b:=
 λd a h=>⟨d,a,e.trans h,bg _,λi c g _=>⟨i,c,g,bq,bq⟩⟩
def mQ.refl (a:bH) (b:X):mQ a a b:=.of_eq bq
def mQ.of_heap {b c:bH} {a:X} (d:c.heap[a]?=b.heap[a]?):mQ b c a:=.of_eq (eF.of_heap d).2
theorem mQ.trans {a:bH} (h:mQ f m b) (i:mQ m a b):mQ f a b:=λe c k=>by obtain⟨g,d,j,o,p⟩:=h e c k;obtain⟨n,l,q,r,s⟩:=i g d j;grind
def fC.sm (a:fC f b i g) (d:eF f m b):fC m b i g:=
 λe h c=>by rw[(d.1 _).1];exact a e h c
def jb.sm {c:X} (d:jb f b c i) (a:eF f m b):jb m b c i:=
 λh e g=>by rw[(a.1 _).1,(a.1 _).2];exact d h e g
def a5 (i:eW->X->Prop) (f:bH):(B:ao)->ak0->B.den->ak6->Prop
 |.int z,a,v,d=>d=[]/\a=[.int z v]
 |.bool,a,c,d=>d=[]/\a=[.bool c]
 |.str,a,A,d=>d=[]/\a=[.string A]
 |.bb s b,a,l,d=>d=[]/\∃k n,a=[.slice k l.length n]/\l.length<=n/\(k=bv->n=0)/\(l=[]\/∃c h,k=Y ⟨c,h,bv⟩/\i s c/\∀j g,l[j]?=Y g->∃e,e.length=b.size/\fC f c (h+j*b.size) e/\a5 i f b e g [])
 |.ptr s b,a,g,d=>d=[]/\match g with
  |none=>a=[.pointer bv]
  |some w=>∃c h e,a=[.pointer (Y ⟨c,h,bv⟩)]/\i s c/\e.length=b.size/\fC f c h e/\a5 i f b e w []
 |.osl b,a,l,d=>∃k n,a=[.slice k l.length n]/\((
   k=bv/\l=[]/\n=0/\d=[])\/∃(c h:X) (t:eC),k=Y ⟨c,h,bv⟩/\d=c::t.flatten/\t.length=l.length/\l.length<=n/\
   jb f c h (h+n*b.size)/\∀j g r,l[j]?=Y g->t[j]?=Y r->∃e,e.length=b.size/\fC f c (h+j*b.size) e/\a5 i f b e g r)
 |.optr b,a,w,d=>∃c h r e,a=[.pointer (Y ⟨c,h,bv⟩)]/\d=c::r/\e.length=b.size/\fC f c h e/\jb f c h (h+b.size)/\a5 i f b e w r
 |.st b,a,g,d=>a5 i f b a g d
 |.pr k c,a,g,d=>∃x f2,d=x++f2/\a5 i f k (a.take k.size) g.1 x/\a5 i f c (a.drop k.size) g.2 f2
 |.nil,a,_,d=>d=[]/\a=[]
 |.eL,a,_,_=>a=[]
 |.mp b,a,g,d=>match g with
  |none=>d=[]/\a=[.map bv]
  |some (u,q)=>∃(c:X) (p:bX alg) (o:bp (Z×X×b.den)),a=[.map (Y c)]/\d=[c]/\nt o u q/\jy f c=Y (p,q)/\p.size=o.length/\∀(j:X) (m:Z×X×b.den),o[j]?=Y m->∃e:ak0,e.length=b.size/\p[j]?=Y (aom (.int .i64 m.1) (eY b e) m.2.1)/\a5 i f b e m.2.2 []
 |.fm s b,a,g,d=>match g with
  |none=>d=[]/\a=[.map bv]
  |some (u,q)=>∃(c:X) (p:bX alg) (o:bp (Z×X×b.den)),a=[.map (Y c)]/\d=[]/\nt o u q/\i s c/\jy f c=Y (p,q)/\p.size=o.length/\∀(j:X) (m:Z×X×b.den),o[j]?=Y m->∃e:ak0,e.length=b.size/\p[j]?=Y (aom (.int .i64 m.1) (eY b e) m.2.1)/\a5 i f b e m.2.2 []
 |.fn v b,a,g,d=>d=[]/\∃y:ak0,a=[.func (.func v) #[] y.toArray]/\a5 i f b y g []
theorem a5.len {i:eW->X->Prop} {r:bH}:∀{τ:ao} {e:ak0} {b:τ.den} {l:ak6},a5 i r τ e b l->e.length=τ.size
 |.int _,_,_,_,a=>by rw[a.2];rfl
 |.bool,_,_,_,a=>by rw[a.2];rfl
 |.str,_,_,_,a=>by rw[a.2];rfl
 |.bb _ _,_,_,_,a=>by obtain⟨_,c,g,a,_⟩:=a;rw[a];rfl
 |.ptr _ _,_,b,_,a=>by
  obtain⟨_,a⟩:=a;cases b with
  |none=>simp only at a;rw[a];rfl
  |some x=>obtain⟨d,v,j,a,_⟩:=a;rw[a];rfl
 |.osl _,_,_,_,a=>by obtain⟨c,g,a,_⟩:=a;rw[a];rfl
 |.optr _,_,_,_,a=>by obtain⟨c,g,s,j,a,_⟩:=a;rw[a];rfl
 |.st f,_,_,_,a=>a5.len (τ:=f) a
 |.pr c d,e,_,_,a=>by obtain⟨t,f2,_,m,n⟩:=a;have o:=a5.len (τ:=c) m;have p:=a5.len (τ:=d) n;simp only[gu,nS] at o p;show e.length=c.size+d.size;omega
 |.nil,_,_,_,a=>by rw[a.2];rfl
 |.eL,_,_,_,a=>by rw[show _=[] from a];rfl
 |.mp f,_,b,_,a=>by
  cases b with
  |none=>rw[a.2];rfl
  |some q=>obtain⟨d,k,h,a,_⟩:=a;rw[a];rfl
 |.fm u f,_,b,_,a=>by
  cases b with
  |none=>rw[a.2];rfl
  |some q=>obtain⟨d,k,h,a,_⟩:=a;rw[a];rfl
 |.fn _ _,_,_,_,a=>by obtain⟨_,w,a,_⟩:=a;rw[a];rfl
theorem a5.one {j:eW->X->Prop} {r:bH}:∀{τ:ao} {cs:ak0} {c:τ.den} {l:ak6},a5 j r τ cs c l->∀e∈cs,e.oneCell'=bt
 |.int _,_,_,_,a=>by rw[a.2];simp[alw]
 |.bool,_,_,_,a=>by rw[a.2];simp[alw]
 |.str,_,_,_,a=>by rw[a.2];simp[alw]
 |.bb _ _,_,_,_,a=>by obtain⟨_,d,h,a,_⟩:=a;grind [alw]
 |.ptr _ _,_,c,_,a=>by obtain⟨_,a⟩:=a;grind [alw]
 |.osl _,_,_,_,a=>by obtain⟨d,h,a,_⟩:=a;grind [alw]
 |.optr _,_,_,_,a=>by obtain⟨d,h,f,s,a,_⟩:=a;grind [alw]
 |.st t,_,_,_,a=>a5.one (τ:=t) a
 |.pr d g,cs,_,_,a=>by
  obtain⟨u,f2,_,m,n⟩:=a;have o:=a5.one (τ:=d) m;have p:=a5.one (τ:=g) n;intro e b;rw[<-jF d.size cs] at b;rcases hM.1 b with b|b
  ·exact o e b
  exact p e b
 |.nil,_,_,_,a=>by rw[a.2];simp
 |.eL,_,_,_,a=>by rw[show _=[] from a];simp
 |.mp t,_,c,_,a=>by
  cases c with
  |none=>rw[a.2];simp[alw]
  |some q=>obtain⟨g,k,i,a,_⟩:=a;grind [alw]
 |.fm v t,_,c,_,a=>by
  cases c with
  |none=>rw[a.2];simp[alw]
  |some q=>obtain⟨g,k,i,a,_⟩:=a;grind [alw]
 |.fn _ _,_,_,_,a=>by obtain⟨_,w,a,_⟩:=a;grind [alw]
theorem a5.mono {L M:eW->X->Prop} {B C:bH} (d:∀j b,L j b->M j b/\eF B C b):∀{τ:ao} {F:ak0} {g:τ.den} {r:ak6},a5 L B τ F g r->(∀b∈r,eF B C b)->a5 M C τ F g r
 |.int _,_,_,_,a,_|.bool,_,_,_,a,_|.str,_,_,_,a,_=>a
 |.bb j m,_,U,_,a,_=>by obtain⟨y,x,E,e,c,k,l⟩:=a;refine⟨y,x,E,e,c,k,l.imp id ?_⟩;rintro⟨b,w,J,i,K⟩;refine⟨b,w,J,(d j b i).1,λv g u=>?_⟩;obtain⟨h,o,p,q⟩:=K v g u;exact⟨h,o,p.sm (d j b i).2,a5.mono d q ac⟩
 |.ptr j m,_,g,_,a,_=>by
  obtain⟨y,a⟩:=a;refine⟨y,?_⟩;cases g with
  |none=>exact a
  |some ad=>
   obtain⟨b,w,h,e,c,k,l,s⟩:=a;exact⟨b,w,h,e,(d j b c).1,k,l.sm (d j b c).2,a5.mono d s ac⟩
 |.osl m,_,U,r,a,f=>by obtain⟨x,E,e,c⟩:=a;refine⟨x,E,e,c.imp id ?_⟩;rintro⟨b,w,O,J,z,S,t,R,K⟩;have i:eF B C b:=f b ae;refine⟨b,w,O,J,z,S,t,R.sm i,λv g H u Q=>?_⟩;obtain⟨h,o,p,q⟩:=K v g H u Q;refine⟨h,o,p.sm i,a5.mono d q (λn t=>f n ?_)⟩;grind [anv,amy,alo]
 |.optr m,_,_,_,a,f=>by obtain⟨b,w,H,h,e,c,k,l,s,P⟩:=a;have i:eF B C b:=f b ae;exact⟨b,w,H,h,e,c,k,l.sm i,s.sm i,a5.mono d P (λn t=>f n ae)⟩
 |.st m,_,_,_,a,f=>a5.mono (τ:=m) d a f
 |.pr x b,F,_,_,a,f=>by obtain⟨N,f2,z,e,c⟩:=a;exact⟨N,f2,z,a5.mono (τ:=x) d e (λn t=>f n (by rw[z];exact oF _ t)),a5.mono (τ:=b) d c (λn t=>f n (by rw[z];exact lw _ t))⟩
 |.nil,_,_,_,a,_|.eL,_,_,_,a,_=>a
 |.mp m,_,g,r,a,f=>by
  cases g with
  |none=>exact a
  |some A=>
   obtain⟨b,G,D,e,c,I,k,l,s⟩:=a;refine⟨b,G,D,e,c,I,(f b (by rw[c];simp)).2.trans k,l,λv A u=>?_⟩;obtain⟨h,o,p,q⟩:=s v A u;exact⟨h,o,p,a5.mono d q ac⟩
 |.fm j m,_,g,r,a,f=>by
  cases g with
  |none=>exact a
  |some A=>
   obtain⟨b,G,D,e,c,I,i,k,l,s⟩:=a;refine⟨b,G,D,e,c,I,(d j b i).1,(d j b i).2.2.trans k,l,λv A u=>?_⟩;obtain⟨h,o,p,q⟩:=s v A u;exact⟨h,o,p,a5.mono d q ac⟩
 |.fn V m,_,g,r,a,_=>by obtain⟨y,T,e,c⟩:=a;exact⟨y,T,e,a5.mono d c ac⟩
def ao.lm:ao->bD
 |.eL=>br
 |.bb _ a|.ptr _ a|.osl a|.optr a|.st a|.mp a|.fm _ a|.fn _ a=>a.lm
 |.pr b c=>b.lm&&c.lm
 |_=>bt
theorem a5.uniq {r:eW->X->Prop} {x:bH}:∀{τ:ao} {p:ak0} {e k:τ.den} {h u:ak6},τ.lm=bt->a5 r x τ p e h->a5 r x τ p k u->h=u
 |.int _,_,_,_,_,_,_,a,b|.bool,_,_,_,_,_,_,a,b|.str,_,_,_,_,_,_,a,b|.bb _ _,_,_,_,_,_,_,a,b|.ptr _ _,_,_,_,_,_,_,a,b|.nil,_,_,_,_,_,_,a,b|.fn _ _,_,_,_,_,_,_,a,b=>a.1.trans b.1.symm
 |.eL,_,_,_,_,_,d,_,_=>by cases d
 |.fm F g,p,e,k,h,u,_,a,b=>by
  have a0:∀{e:(ao.fm F g).den} {h:ak6},a5 r x (.fm F g) p e h->h=[]:=λ{e h} a=>by
   cases e with
   |none=>exact a.1
   |some Q=>obtain⟨l,C,y,_,m,_⟩:=a;exact m
  grind
 |.mp g,_,e,k,_,_,_,a,b=>by
  cases e with
  |none=>
   cases k with
   |none=>exact a.1.trans b.1.symm
   |some R=>
    obtain⟨l,C,y,f,_⟩:=b;have:=a.2.symm.trans f;grind
  |some Q=>
   obtain⟨l,C,y,f,m,_⟩:=a;cases k with
   |none=>
    have:=f.symm.trans b.2;grind
   |some R=>
    obtain⟨A,a3,V,i,D,_⟩:=b;grind
 |.st g,_,_,_,_,_,d,a,b=>a5.uniq (τ:=g) d a b
 |.pr z l,_,_,_,_,_,d,a,b=>by simp only[ao.lm,cL] at d;obtain⟨bl,f2,rfl,f,m⟩:=a;obtain⟨bs,bx,rfl,E,v⟩:=b;rw[a5.uniq (τ:=z) d.1 f E,a5.uniq (τ:=l) d.2 m v]
 |.optr g,_,_,_,_,_,d,a,b=>by
  obtain⟨l,O,h,j,f,rfl,E,v,_,L⟩:=a;obtain⟨A,P,a4,n,i,rfl,ce,K,_,M⟩:=b;rw[f] at i;simp only[iC,ami,fc,alx,cf] at i;obtain⟨rfl,rfl⟩:=i;obtain rfl:j=n:=by
   apply ig;intro c;rcases cY c j.length with w|w
   ·have aE:=v c j[c] ae;have S:=K c (n[c]'(by omega)) ac
    grind
   grind
  rw[a5.uniq (τ:=g) d L M]
 |.osl g,_,e,k,_,_,d,a,b=>by
  obtain⟨z,am,f,m⟩:=a;obtain⟨ad,an,i,D⟩:=b;rw[f] at i;simp only[iC,alh,cf] at i;obtain⟨rfl,ci,rfl⟩:=i;rcases m with⟨rfl,rfl,rfl,rfl⟩|⟨l,O,s,rfl,rfl,aE,S,cv,T⟩
  ·grind
  rcases D with⟨q,_⟩|⟨A,P,t,q,rfl,co,cs,c1,U⟩
  ·cases q
  simp only[fc,alx,cf] at q;obtain⟨rfl,rfl⟩:=q;have:s=t:=by
   apply ig;intro c;rcases cY c e.length with w|w
   ·have ax:s[c]?=Y (s[c]'(by omega)):=bh aa
    have B:t[c]?=Y (t[c]'(by omega)):=bh aa
    obtain⟨j,ap,G,I⟩:=T c e[c] _ ae ax;obtain⟨n,av,H,J⟩:=U c (k[c]'(by omega)) _ ac B
    obtain rfl:j=n:=by
     apply ig;intro o;rcases cY o j.length with N|N
     ·have c2:=G o j[o] ae;have dg:=H o (n[o]'(by omega)) ac
      grind
     grind
    rw[ax,B,a5.uniq (τ:=g) d I J]
   grind
  grind
inductive bd where
 |idx (i:X)
 |deref
 |unst
 |fst
 |snd
 deriving aol
variable{n:bp bd}
def e7:(τ:ao)->τ.den->bp bd->(a:ao)->a.den->Prop
 |τ,d,[],a,b=>∃i:τ=a,i▸d=b
 |.osl e,k,.idx j::c,a,b=>∃f,k[j]?=Y f/\e7 e f c a b
 |.optr e,d,.deref::c,a,b|.st e,d,.unst::c,a,b=>e7 e d c a b
 |.pr g _,d,.fst::c,a,b=>e7 g d.1 c a b
 |.pr _ h,d,.snd::c,a,b=>e7 h d.2 c a b
 |_,_,_,_,_=>b7
def gD:(τ:ao)->τ.den->bp bd->(a:ao)->a.den->τ.den->Prop
 |τ,_,[],a,b,e=>∃m:τ=a,m▸e=b
 |.osl g,j,.idx i::c,a,b,n=>∃h f,j[i]?=Y h/\gD g h c a b f/\n=j.set i f
 |.optr g,d,.deref::c,a,b,e|.st g,d,.unst::c,a,b,e=>gD g d c a b e
 |.pr k _,d,.fst::c,a,b,e=>∃f,gD k d.1 c a b f/\e=(f,d.2)
 |.pr _ l,d,.snd::c,a,b,e=>∃f,gD l d.2 c a b f/\e=(d.1,f)
 |_,_,_,_,_,_=>b7
theorem e7.gY {a:e.den} {b:q.den}:e7 e a [] q b↔∃c:e=q,c▸a=b:=by cases e<;>exact anw
theorem gD.gY {d a:e.den} {b:q.den}:gD e d [] q b a↔∃c:e=q,c▸a=b:=by cases e<;>exact anw
abbrev Loc:=bA ew
variable{w:Loc}
def a8 (k:bH):(τ:ao)->Loc->ak0->bp bd->(a:ao)->Loc->ak0->Prop
 |τ,i,b,[],a,d,c=>τ=a/\i=d/\b=c
 |.osl g,_,b,.idx m::f,a,d,c=>∃e j n p h,b=[.slice (Y ⟨e,j,bv⟩) n p]/\m<n/\h.length=g.size/\fC k e (j+m*g.size) h/\a8 k g (Y (e,j+m*g.size)) h f a d c
 |.optr g,_,b,.deref::f,a,d,c=>∃e j h,b=[.pointer (Y ⟨e,j,bv⟩)]/\h.length=g.size/\fC k e j h/\a8 k g (Y (e,j)) h f a d c
 |.st g,i,b,.unst::f,a,d,c=>a8 k g i b f a d c
 |.pr l _,i,b,.fst::f,a,d,c=>a8 k l i (b.take l.size) f a d c
 |.pr l e,i,b,.snd::f,a,d,c=>a8 k e (i.map λo=>(o.1,o.2+l.size)) (b.drop l.size) f a d c
 |_,_,_,_,_,_,_=>b7
theorem fC.eq (c:fC f b i g) (d:fC f b i y) (k:g.length=y.length):g=y:=by
 apply ig;intro a;rcases cY a g.length with e|e
 ·have h:=c a g[a] ae;have j:=d a (y[a]'(by omega)) ac
  grind
 grind
theorem a8.mC {w:bH}:∀{p:bp bd} {e:ao} {j:Loc} {f:ak0} {u v:ao} {g h:Loc} {q r:ak0},a8 w e j f p u g q->a8 w e j f p v h r->u=v/\g=h/\q=r
 |[],e,j,f,_,_,_,_,_,_,c,d=>by grind [a8]
 |s::p,e,j,f,_,_,_,_,_,_,c,d=>by
  cases e<;>cases s<;>simp only[a8] at c d
  case osl.idx t i=>
   obtain⟨m,A,E,C,y,ax,_,g,k,n⟩:=c;obtain⟨x,B,F,D,z,b,_,h,l,o⟩:=d;rw[ax] at b;simp only[iC,alh,fc,alx,cf] at b;obtain⟨⟨rfl,rfl⟩,rfl,rfl⟩:=b;obtain rfl:=k.eq l aa;exact a8.mC n o
  case optr.deref t=>
   obtain⟨m,A,y,ax,g,k,n⟩:=c;obtain⟨x,B,z,b,h,l,o⟩:=d;rw[ax] at b;simp only[iC,ami,fc,alx,cf] at b;obtain⟨rfl,rfl⟩:=b;obtain rfl:=k.eq l aa;exact a8.mC n o
  case st.unst t=>exact a8.mC c d
  case pr.fst a m=>exact a8.mC c d
  case pr.snd a m=>exact a8.mC c d
def uJ (c d:bH) (f:Loc) (g:X) (b:X):Prop:=
 (∀a,(∀e,f=Y (b,e)->a<e\/e+g<=a)->d.cell? ⟨b,a,bv⟩=c.cell? ⟨b,a,bv⟩)/\
 (∀a,d.frozen? ⟨b,a,bv⟩=c.frozen? ⟨b,a,bv⟩)/\(∀a,(d.cell? ⟨b,a,bv⟩).isSome=(c.cell? ⟨b,a,bv⟩).isSome)/\jy d b=jy c b
def uJ.sm (a:uJ f m w i b) (e:∀c,w≠Y (b,c)):eF f m b:=
 ⟨λd=>⟨a.1 d (λc g=>absurd g (e c)),a.2.1 d⟩,a.2.2.2⟩
def uJ.FF {j c:X} (a:uJ f m w j b) (g:jb f b c i):jb m b c i:=
 λh d e=>by rw[a.2.1,a.2.2.1];exact g h d e
def qh (c:bH) (e:Loc) (d:ak0) (f:X):Prop:=∀b a,e=Y (b,a)->fC c b a d/\jb c b a (a+f)
theorem fC.take {e:bH} {b d h:X} {c:ak0} (f:fC e b d c):fC e b d (c.take h):=λg i a=>by
 rw[anx] at a;split at a
 ·exact f g i a
 grind
theorem fC.drop {f:bH} {b e a:X} {c:ak0} (g:fC f b e c):fC f b (e+a) (c.drop a):=λh i d=>by rw[qf] at d;have:=g (a+h) i d;grind
theorem fC.append (d:fC f b i g) (e:fC f b (i+g.length) y):fC f b i (g++y):=λh c a=>by
 rw[List.getElem?_append] at a;split at a
 ·exact d h c a
 have:=e _ c a;grind
def af5 {a:bp N} {d:N} (e:a[b]?=Y d):∃c f,a=c++d::f/\c.length=b:=by obtain⟨g,rfl⟩:=ih.1 e;exact⟨a.take b,a.drop (b+1),by rw[List.getElem_cons_drop,jF],ae⟩
def a8.sm {D:eW->X->Prop} {y C:bH}:∀{x:bp bd} {τ:ao} {u:Loc} {h:ak0} {z:τ.den} {p:ak6} {A:ao} {v:Loc} {n:ak0},a5 D y τ h z p->(∀a∈p,eF y C a)->a8 y τ u h x A v n->a8 C τ u h x A v n
 |[],τ,_,_,_,_,_,_,_,_,_,b=>by cases τ<;>exact b
 |s::x,τ,u,h,z,p,A,v,n,g,d,b=>by
  cases τ<;>cases s<;>simp only[a8] at b
  case osl.idx t i=>
   obtain⟨a,w,U,F,o,rfl,N,q,f,r⟩:=b;obtain⟨m,Q,e,k⟩:=g;simp only[iC,alh,cf] at e;obtain⟨rfl,rfl,rfl⟩:=e;rcases k with⟨j,_⟩|⟨E,O,K,j,rfl,aE,V,ad,P⟩
   ·cases j
   simp only[fc,alx,cf] at j;obtain⟨rfl,rfl⟩:=j;obtain⟨I,R,G,H⟩:=P i z[i] (K[i]'(by omega)) ae ac
   obtain rfl:=f.eq G aa;exact⟨a,w,_,F,o,bq,N,q,f.sm (d a ac),a8.sm H (λc l=>d c (ht _ (ms.2 ⟨_,cK aa,l⟩))) r⟩
  case optr.deref t=>
   obtain⟨a,w,o,rfl,q,f,r⟩:=b;obtain⟨E,O,S,I,B,rfl,T,L,_,M⟩:=g;simp only[iC,ami,fc,alx,cf] at B;obtain⟨rfl,rfl⟩:=B;obtain rfl:=f.eq L aa;exact⟨a,w,o,bq,q,f.sm (d a ac),a8.sm M (λc l=>d c ae) r⟩
  case st.unst t=>exact a8.sm (τ:=t) g d b
  case pr.fst m a=>
   obtain⟨J,f2,rfl,e,k⟩:=g;exact a8.sm (τ:=m) e (λc l=>d c ae) b
  case pr.snd m a=>
   obtain⟨J,f2,rfl,e,k⟩:=g;exact a8.sm (τ:=a) k (λc l=>d c ae) b
def n8:bp bd->bD
 |[]=>br
 |.idx _::_|.deref::_=>bt
 |_::a=>n8 a
def hG:bp bd->bp bd->bD
 |p,[]=>n8 p
 |.idx _::p,.idx _::a|.deref::p,.deref::a|.unst::p,.unst::a|.fst::p,.fst::a|.snd::p,.snd::a=>hG p a
 |.fst::_,.snd::_|.snd::_,.fst::_=>bt
 |_,_=>br
theorem a8.oo {a:Loc}:a8 f e w g [] q a y↔e=q/\w=a/\g=y:=by cases e<;>exact anw
def lF:bp bd->bp bd->bD
 |.deref::a,.deref::b|.unst::a,.unst::b|.fst::a,.fst::b|.snd::a,.snd::b=>lF a b
 |.fst::_,.snd::_|.snd::_,.fst::_=>bt
 |_,_=>br
theorem yu (a:bp bd):lF [] a=br:=by cases a<;>rfl
theorem Jd:∀{p q:bp bd},lF p q=bt->hG p q=bt
 |[],q,a=>by grind [yu]
 |s::p,[],a=>by cases s<;>cases a
 |s::p,b::q,a=>by cases s<;>cases b<;>first|(cases a;done)|exact Jd (p:=p) (q:=q) a|rfl
theorem yv:∀{p q:bp bd} {τ:ao} {h j:τ.den} {k f:ao} {l:k.den} {i:f.den},lF p q=bt->gD τ h p k l j->e7 τ h q f i->e7 τ j q f i
 |[],q,_,_,_,_,_,_,_,d,_,_=>by grind [yu]
 |s::p,[],_,_,_,_,_,_,_,d,_,_=>by cases s<;>cases d
 |s::p,m::q,τ,h,j,k,f,l,i,d,c,e=>by
  cases τ<;>cases s<;>simp only[gD] at c<;>cases m<;>first|(cases d;done)|(simp only[e7] at e;done)|skip
  case optr.deref.deref t=>exact yv (p:=p) (q:=q) (τ:=t) d c e
  case st.unst.unst t=>exact yv (p:=p) (q:=q) (τ:=t) d c e
  case pr.fst.fst a b=>
   obtain⟨g,c,rfl⟩:=c;exact yv (p:=p) (q:=q) (τ:=a) d c e
  case pr.snd.snd a b=>
   obtain⟨g,c,rfl⟩:=c;exact yv (p:=p) (q:=q) (τ:=b) d c e
  case pr.fst.snd a b=>
   obtain⟨g,c,rfl⟩:=c;exact e
  case pr.snd.fst a b=>
   obtain⟨g,c,rfl⟩:=c;exact e
theorem a5.sub {B:eW->X->Prop} {A:bH}:∀{p:bp bd} {τ:ao} {z:Loc} {o:ak0} {m:τ.den} {q:ak6} {l:ao} {r:l.den} {y:Loc} {n:ak0},a5 B A τ o m q->e7 τ m p l r->a8 A τ z o p l y n->∃d,a5 B A l n r d/\∀b∈d,b∈q
 |[],τ,z,o,m,q,l,r,y,n,f,c,a=>by grind [a8.oo,e7.gY]
 |s::p,τ,z,o,m,q,l,r,y,n,f,c,a=>by
  cases τ<;>cases s<;>simp only[e7] at c<;>simp only[a8] at a
  case osl.idx t i=>
   obtain⟨J,D,c⟩:=c;obtain⟨G,Q,ap,V,I,e,u,L,v,a⟩:=a;obtain⟨T,U,rfl,f⟩:=f;rcases f with⟨_,rfl,_⟩|⟨F,P,C,rfl,rfl,an,ad,N,O⟩
   ·grind
   have am:i<m.length:=(ih.1 D).1;obtain⟨d,E⟩:∃d,C[i]?=some d:=⟨C[i],bh aa⟩;obtain⟨H,M,w,x⟩:=O i J d D E;simp only[iC,alh,fc,alx,cf] at e;obtain⟨⟨rfl,rfl⟩,rfl,rfl⟩:=e;obtain rfl:=v.eq w aa;obtain⟨g,j,k⟩:=a5.sub (p:=p) x c a;exact⟨g,j,λb h=>ht _ (ms.2 ⟨d,jE E,k b h⟩)⟩
  case optr.deref t=>
   obtain⟨G,Q,I,e,L,v,a⟩:=a;obtain⟨F,P,d,H,rfl,rfl,M,w,N,x⟩:=f;simp only[iC,ami,fc,alx,cf] at e;obtain⟨rfl,rfl⟩:=e;obtain rfl:=v.eq w aa;obtain⟨g,j,k⟩:=a5.sub (p:=p) x c a;exact⟨g,j,λb h=>ht _ (k b h)⟩
  case st.unst t=>exact a5.sub (p:=p) (τ:=t) f c a
  case pr.fst R S=>
   obtain⟨K,f2,rfl,e,u⟩:=f;obtain⟨g,j,k⟩:=a5.sub (p:=p) e c a;exact⟨g,j,λb h=>oF _ (k b h)⟩
  case pr.snd R S=>
   obtain⟨K,f2,rfl,e,u⟩:=f;obtain⟨g,j,k⟩:=a5.sub (p:=p) u c a;exact⟨g,j,λb h=>lw _ (k b h)⟩
theorem FE:∀(am:bp bd) {τ:ao} {loc:Loc} {u:ak0} {a0:τ.den} {ex:ak6} {F:ao} {ix:F.den},a5 d f τ u a0 ex->qh f loc u τ.size->ex.Nodup->(∀g e,loc=Y (g,e)->g∉ex/\∀q,¬d q g)->(∀g∈ex,∀q,¬d q g)->e7 τ a0 am F ix->∃y S bl U,a8 f τ loc u am F y S/\a5 d f F S ix bl/\qh f y S F.size/\ex.Perm (bl++U)/\(∀m h,y=Y (m,h)->(∃e,loc=Y (m,e)/\e<=h/\h+F.size<=e+τ.size)\/m∈U)/\(∀(
   s:bH) (K:eW->X->Prop) (D:ak0) (z:F.den) (V:ak6) (d0:τ.den),
   (∀q g,d q g->K q g)->(∀g,(∃q,d q g)\/g∈U\/(∃e,loc=Y (g,e))->uJ f s y F.size g)->
   a5 K s F D z V->(y=bv->am≠[]->D=S)->(∀g e,y=Y (g,e)->fC s g e D)->gD τ a0 am F z d0->
   ∃n N,a5 K s τ n d0 N/\(am=[]->n=D)/\(loc=bv->(y≠bv\/D=S)->n=u)/\(∀g e,loc=Y (g,e)->fC s g e n)/\N.Perm (V++U)/\a8 s τ loc n am F y D/\∀(c:bp bd) (Q:ao) (P:Loc) (M:ak0),hG am c=bt->a8 f τ loc u c Q P M->a8 s τ loc n c Q P M)/\
  (∀(c:bp bd) (a3:ao) (z:a3.den) (ap:Loc) (dg:ak0) (f2:ak6),lF am c=bt->a3.lm=bt->e7 τ a0 c a3 z->a8 f τ loc u c a3 ap dg->a5 d f a3 dg z f2->∀b∈f2,b∈U/\∀m h,y=Y (m,h)->b≠m):=by
 intro am
 induction am with
 |nil=>
  intro τ loc u a0 ex F ix ek cv d8 ad c1 H;obtain⟨rfl,rfl⟩:=e7.gY.1 H;refine⟨loc,u,ex,[],(by cases τ<;>exact⟨bq,bq,bq⟩),ek,cv,ac,λm h a=>.inl ⟨h,a,aa,aa⟩,?_,λc _ _ _ _ _ a=>by grind [yu]⟩;intro s K D z V d0 _ _ A _ O B;obtain⟨_,rfl⟩:=gD.gY.1 B;exact⟨D,V,A,λ_=>rfl,λcs a=>a.resolve_left (λc=>c cs),O,ac,(by cases τ<;>exact⟨bq,bq,bq⟩),λc _ _ _ o=>by grind [hG,n8]⟩
 |cons os am gs=>
  intro τ loc u a0 ex F ix ek cv d8 ad c1 H;cases τ<;>cases os<;>simp only[e7] at H
  case osl.idx t i=>
   obtain⟨a4,fp,H⟩:=H;obtain⟨oN,em,rfl,ek⟩:=ek;rcases ek with⟨_,rfl,_⟩|⟨g,e,f5,rfl,rfl,mc,ok,ic,lb⟩
   ·simp at fp
   have jp:i<a0.length:=(ih.1 fp).1;obtain⟨gc,lo⟩:∃gc,f5[i]?=some gc:=⟨f5[i],bh aa⟩;obtain⟨f7,i2,f3,i3⟩:=lb i a4 gc fp lo;obtain⟨ds,is,fr,or⟩:=af5 lo;have rd:∀w,w<a0.length->e+w*t.size+t.size<=e+em*t.size:=λw o=>(by have:(w+1)*t.size<=em*t.size:=iX _ aa;grind);have f4:qh f (Y (g,e+i*t.size)) f7 t.size:=(by rintro R r a;simp only[fc,iY] at a;obtain⟨rfl,rfl⟩:=a;exact⟨f3,λx l O=>ic x aa ae⟩);have kg:=d8;rw[fr] at kg;simp only[zO,mq,lx,j3,hM,not_or] at kg;obtain⟨⟨n7,f0,of⟩,kd,⟨ft,f6,ol⟩,on⟩:=kg;obtain⟨y,S,bl,U,d2,d3,d4,G,T,d5,fl⟩:=gs (loc:=Y (g,e+i*t.size)) i3 f4 ft (by rintro R r a;simp only[fc,iY] at a;obtain⟨rfl,rfl⟩:=a;exact⟨f0,c1 g ac⟩) (λb k=>c1 b (by rw[fr];simp[k])) H;refine⟨y,S,bl,g::(ds.flatten++(U++is.flatten)),⟨g,e,_,em,f7,bq,jp,i2,f3,d2⟩,d3,d4,?_,?_,?_,λc _ _ _ _ _ a=>by cases c with|nil=>cases a|cons I c=>cases I<;>cases a⟩
   ·rw[fr];simp only[zO,mq];rw[uV] at G|-;intro b;have:=G b;simp only[uR,anz] at this|-;omega
   ·intro m h a;right;rcases T m h a with⟨r,l,_⟩|l
    ·simp only[fc,iY] at l;rw[l.1];simp
    simp[l]
   intro s K D z V d0 bx v A d9 d6 B;simp only[gD] at B;obtain⟨nn,f8,ll,B,rfl⟩:=B;obtain rfl:nn=a4:=(by rw[fp] at ll;exact(gy ll).symm);obtain⟨n,N,C,_,_,L,an,el,co⟩:=d5 s K D z V f8 bx (by
     rintro b (a|a|⟨r,a⟩)
     ·exact v b (.inl a)
     ·exact v b (.inr (.inl (by simp[a])))
     simp only[fc,iY] at a;exact v b (.inr (.inl (by rw[<-a.1];simp)))) A
    (by
     intro cs ro;exact d9 cs ac) d6 B
   have ce:∀m h,y=Y (m,h)->(m=g/\e+i*t.size<=h/\h+F.size<=e+i*t.size+t.size)\/m∈gc:=by
    intro m h a;rcases T m h a with⟨r,l,O,hw⟩|l
    ·simp only[fc,iY] at l;omega
    exact .inr (G.mem_iff.2 (by simp[l]))
   have fn:=v g (.inr (.inl ac));have gf:∀q b,d q b->K q b/\eF f s b:=λq b k=>⟨bx q b k,(v b (.inl ⟨q,k⟩)).sm (λr a=>by
    rcases ce b r a with⟨rfl,_⟩|l
    ·exact c1 b ac q k
    exact c1 b (by rw[fr];simp[l]) q k)⟩
   have mo:∀(w:X) (hv:t.den) (bs:ak6),w≠i->a0[w]?=Y hv->f5[w]?=Y bs->∀d1:ak0,d1.length=t.size->fC f g (e+w*t.size) d1->fC s g (e+w*t.size) d1/\∀b∈bs,eF f s b:=by
    intro w hv bs gl o dl d1 io hc;have rg:w<a0.length:=(ih.1 o).1;have i8:∀b∈bs,b∈ds.flatten\/b∈is.flatten:=by
     intro b k;rw[fr] at dl;rcases cY w ds.length with a|a
     ·rw[rm a] at dl;exact .inl (ms.2 ⟨bs,jE dl,k⟩)
     rw[qe a] at dl;obtain⟨c,E⟩:∃c,w-ds.length=c+1:=⟨w-ds.length-1,aa⟩;rw[E] at dl;simp only[HD] at dl;exact .inr (ms.2 ⟨bs,jE dl,k⟩)
    refine⟨?_,?_⟩
    ·intro x hs fs;have ii:x<d1.length:=(ih.1 fs).1;rw[fn.1]
     ·exact hc x hs fs
     intro h a;rcases ce g h a with⟨_,l,O⟩|l
     ·rcases Nat.lt_or_gt_of_ne gl with rl|rb
      ·left;have:(w+1)*t.size<=i*t.size:=iX _ aa;rw[kL,kM] at this;omega
      right;have:(i+1)*t.size<=w*t.size:=iX _ aa;rw[kL,kM] at this;omega
     exact absurd l f0
    intro b k;refine(v b (.inr (.inl ?_))).sm ?_
    ·rcases i8 b k with a|a<;>simp[a]
    intro h a;rcases ce b h a with⟨rfl,_⟩|l
    ·rcases i8 b k with a|a
     ·exact n7 a
     exact of a
    rcases i8 b k with a|a
    ·exact on b a b (.inl l) rfl
    exact ol b l b a bq
   refine⟨[.slice (Y ⟨g,e,bv⟩) a0.length em],g::(ds++N::is).flatten,⟨Y ⟨g,e,bv⟩,em,ac,.inr ⟨g,e,ds++N::is,bq,bq,?_,by simpa using ok,fn.FF ic,?_⟩⟩,ac,λ_ _=>rfl,?_,?_,⟨g,e,_,em,n,bq,jp,by rw[C.len],L g _ rfl,el⟩,?_⟩
   ·rw[fr] at mc;simpa using mc
   ·intro w hv bs o H;by_cases gl:w=i
    ·subst gl;rw[List.getElem?_set_self jp] at o;obtain rfl:=gy o;rw[qe aa,or,pt] at H;simp only[zP,fc] at H;subst H;exact⟨n,by rw[C.len],L g _ rfl,C⟩
    rw[List.getElem?_set_ne (λa=>gl a.symm)] at o;have dl:f5[w]?=Y bs:=by
     rw[fr];rcases cY w ds.length with a|a
     ·rw[rm a] at H|-;exact H
     rw[qe a] at H|-;obtain⟨c,E⟩:∃c,w-ds.length=c+1:=⟨w-ds.length-1,aa⟩;rw[E] at H|-;simpa using H
    obtain⟨d1,io,hc,le⟩:=lb w hv bs o dl;obtain⟨lf,lk⟩:=mo w hv bs gl o dl d1 io hc;exact⟨d1,io,lf,le.mono gf lk⟩
   ·intro R r a;have gi:=(ad R r a).1;refine((cv R r a).1).sm ((v R (.inr (.inr ⟨r,a⟩))).sm ?_);intro h fT;rcases ce R h fT with⟨rfl,_⟩|l
    ·exact gi ac
    exact gi (by rw[fr];simp[l])
   ·rw[uV] at an|-;intro b;have:=an b;simp only[zO,mq,uR,anz] at this|-;omega
   intro c Q P M o E;cases c with
   |nil=>exact E
   |cons I c=>
    cases I<;>simp only[hG] at o<;>first|(cases o;done)|skip
    rename_i x;obtain⟨R,r,rt,pm,i0,l,O,hw,ge,ib⟩:=E;simp only[iC,alh,fc,alx,cf] at l;obtain⟨⟨rfl,rfl⟩,rfl,rfl⟩:=l;by_cases l2:x=i
    ·subst l2;obtain rfl:=ge.eq f3 aa;exact⟨g,e,_,em,n,bq,O,C.len,L g _ rfl,co c Q P M o ib⟩
    have mz:a0[x]?=Y a0[x]:=bh O;have lt:f5[x]?=Y (f5[x]'(by omega)):=bh _
    obtain⟨d1,io,hc,le⟩:=lb x _ _ mz lt;obtain rfl:=ge.eq hc aa;obtain⟨lf,lk⟩:=mo x _ _ l2 mz lt i0 hw ge;exact⟨g,e,_,em,i0,bq,O,hw,lf,a8.sm le lk ib⟩
  case optr.deref t=>
   obtain⟨g,e,gc,f7,rfl,rfl,i2,f3,ic,i3⟩:=ek;simp only[lx] at d8;obtain⟨ra,op⟩:=d8;have f4:qh f (Y (g,e)) f7 t.size:=(by rintro R r a;grind);obtain⟨y,S,bl,U,d2,d3,d4,G,T,d5,fl⟩:=gs (loc:=Y (g,e)) i3 f4 op ae (λb k=>c1 b ae) H;refine⟨y,S,bl,g::U,⟨g,e,f7,bq,i2,f3,d2⟩,d3,d4,?_,?_,?_,?_⟩
   rotate_left 3
   ·intro c a3 z ap dg f2 a ft d7 ci A b k;cases c with
    |nil=>cases a
    |cons I c=>
     cases I<;>first|(cases a;done)|skip
     simp only[a8] at ci;obtain⟨R,r,ps,ax,pv,no,ci⟩:=ci;simp only[iC,ami,fc,alx,cf] at ax;obtain⟨rfl,rfl⟩:=ax;obtain rfl:=no.eq f3 aa;obtain⟨aE,J⟩:=fl c a3 z ap dg f2 a ft d7 ci A b k;exact⟨by simp[aE],J⟩
   ·rw[uV] at G|-;intro b;have:=G b;simp only[uR,anz] at this|-;omega
   ·intro m h a;right;rcases T m h a with⟨r,l,_⟩|l
    ·simp only[fc,iY] at l;rw[l.1];simp
    simp[l]
   intro s K D z V d0 bx v A d9 d6 B;simp only[gD] at B;obtain⟨n,N,C,_,_,L,an,el,co⟩:=d5 s K D z V d0 bx (by
     rintro b (a|a|⟨r,a⟩)
     ·exact v b (.inl a)
     ·exact v b (.inr (.inl (by simp[a])))
     simp only[fc,iY] at a;exact v b (.inr (.inl (by rw[<-a.1];simp)))) A
    (λcs _=>d9 cs ac) d6 B
   have fn:=v g (.inr (.inl ac));refine⟨[.pointer (Y ⟨g,e,bv⟩)],g::N,⟨g,e,N,n,bq,bq,C.len,L g e bq,fn.FF ic,C⟩,ac,λ_ _=>rfl,?_,?_,⟨g,e,n,bq,C.len,L g e bq,el⟩,?_⟩
   ·intro R r a;have gi:=(ad R r a).1;refine((cv R r a).1).sm ((v R (.inr (.inr ⟨r,a⟩))).sm ?_);intro h fT;rcases T R h fT with⟨ne,l,_⟩|l
    ·simp only[fc,iY] at l;exact gi (by rw[l.1];simp)
    exact gi (ht _ (G.mem_iff.2 (by simp[l])))
   ·rw[uV] at an|-;intro b;have:=an b;simp only[uR,anz] at this|-;omega
   intro c Q P M o E;cases c with
   |nil=>exact E
   |cons I c=>
    cases I<;>simp only[hG] at o<;>first|(cases o;done)|skip
    obtain⟨R,r,i0,l,hw,ge,ib⟩:=E;simp only[iC,ami,fc,alx,cf] at l;obtain⟨rfl,rfl⟩:=l;obtain rfl:=ge.eq f3 aa;exact⟨g,e,n,bq,C.len,L g e bq,co c Q P M o ib⟩
  case st.unst t=>
   obtain⟨y,S,bl,U,d2,d3,d4,G,T,d5,fl⟩:=gs (loc:=loc) (τ:=t) ek cv d8 ad c1 H;refine⟨y,S,bl,U,d2,d3,d4,G,T,?_,?_⟩
   rotate_left 1
   ·intro c a3 z ap dg f2 a ft d7 ci A b k;cases c with
    |nil=>cases a
    |cons I c=>
     cases I<;>first|(cases a;done)|skip
     exact fl c a3 z ap dg f2 a ft d7 ci A b k
   intro s K D z V d0 bx v A d9 d6 B;obtain⟨n,N,C,rs,gt,L,an,el,co⟩:=d5 s K D z V d0 bx v A (λcs _=>d9 cs ac) d6 B;refine⟨n,N,C,ac,gt,L,an,el,?_⟩;intro c Q P M o E;cases c with
   |nil=>
    obtain⟨rfl,rfl,rfl⟩:=a8.oo.1 E;obtain⟨_,_,a4⟩:=a8.oo.1 (co [] t loc u (by simpa[hG,n8] using o) (a8.oo.2 ⟨bq,bq,bq⟩));exact a8.oo.2 ⟨bq,bq,a4⟩
   |cons I c=>
    cases I<;>simp only[hG] at o<;>first|(cases o;done)|skip
    exact co c Q P M o E
  case pr.fst j c2=>
   obtain⟨fz,f2,rfl,l,O⟩:=ek;have lc:=l.len;have ap:=O.len;simp only[gu,nS] at lc ap;have f4:qh f loc (u.take j.size) j.size:=λg e a=>⟨(cv g e a).1.take,λx aE J=>(cv g e a).2 x aE (by show x<e+(j.size+c2.size);omega)⟩;simp only[j3] at d8;obtain⟨kd,ft,f6⟩:=d8;obtain⟨y,S,bl,U,d2,d3,d4,G,T,d5,fl⟩:=gs (loc:=loc) l f4 kd (λg e a=>⟨λc=>(ad g e a).1 (by simp[c]),(ad g e a).2⟩) (λb k=>c1 b ae) H;refine⟨y,S,bl,U++f2,d2,d3,d4,?_,?_,?_,?_⟩
   rotate_left 3
   ·intro c a3 z ap dg i1 a go d7 ci A b k;cases c with
    |nil=>cases a
    |cons I c=>
     cases I<;>first|(cases a;done)|skip
     ·obtain⟨aE,J⟩:=fl c a3 z ap dg i1 a go d7 ci A b k;exact⟨by simp[aE],J⟩
     obtain⟨bs,C,L⟩:=a5.sub (p:=c) O d7 ci;have f1:b∈f2:=L b (by rw[<-a5.uniq go A C];exact k);refine⟨by simp[f1],λm h fp a4=>?_⟩;subst a4;rcases T b h fp with⟨r,ax,_⟩|ax
     ·exact(ad b r ax).1 (by simp[f1])
     exact f6 b (G.mem_iff.2 (by simp[ax])) b f1 bq
   ·rw[uV] at G|-;intro b;have:=G b;simp only[uR] at this|-;omega
   ·intro m h a;rcases T m h a with⟨r,aE,J,hi⟩|aE
    ·exact .inl ⟨r,aE,J,by show h+F.size<=r+(j.size+c2.size);omega⟩
    exact .inr (by simp[aE])
   intro s K D z V d0 bx v A d9 d6 B;simp only[gD] at B;obtain⟨f8,B,rfl⟩:=B;obtain⟨n,N,C,_,gt,L,an,el,co⟩:=d5 s K D z V f8 bx (by
     rintro b (a|a|a)
     ·exact v b (.inl a)
     ·exact v b (.inr (.inl (by simp[a])))
     exact v b (.inr (.inr a))) A (λcs _=>d9 cs ac) d6 B
   have ce:∀m h,y=Y (m,h)->(∃e,loc=Y (m,e)/\e<=h/\h+F.size<=e+j.size)\/m∈fz:=λm h a=>(T m h a).imp id (λc=>G.mem_iff.2 (by simp[c]));have gf:∀q b,d q b->K q b/\eF f s b:=λq b k=>⟨bx q b k,(v b (.inl ⟨q,k⟩)).sm (λr a=>by
    rcases ce b r a with⟨e,c,_⟩|c
    ·exact(ad b e c).2 q k
    exact c1 b (by simp[c]) q k)⟩
   have mt:∀b∈f2,eF f s b:=λb k=>(v b (.inr (.inl (by simp[k])))).sm (λh a=>by
    rcases ce b h a with⟨e,c,_⟩|c
    ·exact(ad b e c).1 (by simp[k])
    exact f6 b c b k bq)
   have nd:=C.len;refine⟨n++u.drop j.size,N++f2,⟨N,f2,bq,?_,?_⟩,ac,?_,?_,?_,(by
    show a8 s j loc ((n++u.drop j.size).take j.size) am F y D;rw[uX aa,fD aa];exact el),?_⟩
   ·rw[uX aa,fD aa];exact C
   ·rw[sJ aa,rj aa,iD];exact O.mono gf mt
   ·intro aE J;rw[gt aE J,jF]
   ·intro g e a;refine(L g e a).append ?_;rw[nd];intro x hs fs;have fn:=v g (.inr (.inr ⟨e,a⟩));have ii:x<(u.drop j.size).length:=(ih.1 fs).1;simp only[nS] at ii;rw[fn.1]
    ·exact((cv g e a).1.drop) x hs fs
    intro h fT;rcases ce g h fT with⟨ne,aE,J,hi⟩|c
    ·rw[a] at aE;simp only[fc,iY,true_and] at aE;omega
    exact absurd (by simp[c]) (ad g e a).1
   ·rw[uV] at an|-;intro b;have:=an b;simp only[uR] at this|-;omega
   intro c Q P M o E;have ax:(n++u.drop j.size).take j.size=n:=(by rw[uX aa,fD aa]);have f9:(n++u.drop j.size).drop j.size=u.drop j.size:=(by rw[sJ aa,rj aa,iD]);cases c with
   |nil=>
    obtain⟨rfl,rfl,rfl⟩:=a8.oo.1 E;obtain⟨_,_,a4⟩:=a8.oo.1 (co [] j loc (u.take j.size) (by simpa[hG,n8] using o) (a8.oo.2 ⟨bq,bq,bq⟩));exact a8.oo.2 ⟨bq,bq,by rw[a4,jF]⟩
   |cons I c=>
    cases I<;>simp only[hG] at o<;>first|(cases o;done)|skip
    ·show a8 s j loc ((n++u.drop j.size).take j.size) c Q P M;rw[ax];exact co c Q P M o E
    show a8 s c2 (loc.map λc=>(c.1,c.2+j.size)) ((n++u.drop j.size).drop j.size) c Q P M;rw[f9];exact a8.sm O mt E
  case pr.snd j c2=>
   obtain⟨fz,f2,rfl,l,O⟩:=ek;have lc:=l.len;have ap:=O.len;simp only[gu,nS] at lc ap;have f4:qh f (loc.map λc=>(c.1,c.2+j.size)) (u.drop j.size) c2.size:=by
    intro g e a;cases loc with
    |none=>grind
    |some c=>
     obtain⟨pl,av⟩:=c;simp only[jv,fc,iY] at a;obtain⟨rfl,rfl⟩:=a;exact⟨(cv _ _ rfl).1.drop,λx aE J=>(cv _ _ rfl).2 x aa (by show x<av+(j.size+c2.size);omega)⟩
   simp only[j3] at d8;obtain⟨kd,ft,f6⟩:=d8;have f0:∀g e,(loc.map λc=>(c.1,c.2+j.size))=Y (g,e)->∃av,loc=Y (g,av)/\e=av+j.size:=by
    intro g e a;cases loc with
    |none=>grind
    |some c=>
     grind
   obtain⟨y,S,bl,U,d2,d3,d4,G,T,d5,fl⟩:=gs (loc:=loc.map λc=>(c.1,c.2+j.size)) O f4 ft (λg e a=>by grind) (λb k=>c1 b ae) H;refine⟨y,S,bl,U++fz,d2,d3,d4,?_,?_,?_,?_⟩
   rotate_left 3
   ·intro c a3 z ap dg i1 a go d7 ci A b k;cases c with
    |nil=>cases a
    |cons I c=>
     cases I<;>first|(cases a;done)|skip
     ·obtain⟨bs,C,L⟩:=a5.sub (p:=c) l d7 ci;have f1:b∈fz:=L b (by rw[<-a5.uniq go A C];exact k);refine⟨by simp[f1],λm h fp a4=>?_⟩;subst a4;rcases T b h fp with⟨r,ax,_⟩|ax
      ·obtain⟨av,f9,_⟩:=f0 _ _ ax;exact(ad b av f9).1 (by simp[f1])
      exact f6 b f1 b (G.mem_iff.2 (by simp[ax])) rfl
     obtain⟨aE,J⟩:=fl c a3 z ap dg i1 a go d7 ci A b k;exact⟨by simp[aE],J⟩
   ·rw[uV] at G|-;intro b;have:=G b;simp only[uR] at this|-;omega
   ·intro m h a;rcases T m h a with⟨r,aE,J,hi⟩|aE
    ·obtain⟨av,hr,rfl⟩:=f0 _ _ aE;exact .inl ⟨av,hr,aa,by show h+F.size<=av+(j.size+c2.size);omega⟩
    exact .inr (by simp[aE])
   intro s K D z V d0 bx v A d9 d6 B;simp only[gD] at B;obtain⟨f8,B,rfl⟩:=B;obtain⟨n,N,C,_,gt,L,an,el,co⟩:=d5 s K D z V f8 bx (by
     rintro b (a|a|⟨e,a⟩)
     ·exact v b (.inl a)
     ·exact v b (.inr (.inl (by simp[a])))
     obtain⟨av,hr,rfl⟩:=f0 _ _ a;exact v b (.inr (.inr ⟨av,hr⟩))) A (λcs _=>d9 cs ac) d6 B
   have ce:∀m h,y=Y (m,h)->(∃e,loc=Y (m,e)/\e+j.size<=h/\h+F.size<=e+j.size+c2.size)\/m∈f2:=λm h a=>by
    rcases T m h a with⟨r,aE,J,hi⟩|c
    ·obtain⟨av,hr,rfl⟩:=f0 _ _ aE;exact .inl ⟨av,hr,J,hi⟩
    exact .inr (G.mem_iff.2 (by simp[c]))
   have gf:∀q b,d q b->K q b/\eF f s b:=λq b k=>⟨bx q b k,(v b (.inl ⟨q,k⟩)).sm (λr a=>by
    rcases ce b r a with⟨e,c,_⟩|c
    ·exact(ad b e c).2 q k
    exact c1 b (by simp[c]) q k)⟩
   have mp:∀b∈fz,eF f s b:=λb k=>(v b (.inr (.inl (by simp[k])))).sm (λh a=>by
    rcases ce b h a with⟨e,c,_⟩|c
    ·exact(ad b e c).1 (by simp[k])
    exact f6 b k b c bq)
   have nd:=C.len;refine⟨u.take j.size++n,fz++N,⟨fz,N,bq,?_,?_⟩,ac,?_,?_,?_,(by
    show a8 s c2 (loc.map λc=>(c.1,c.2+j.size)) ((u.take j.size++n).drop j.size) am F y D;rw[sJ (by simp;omega),rj (by simp;omega),iD];exact el),?_⟩
   ·rw[uX (by simp;omega),apl,apm];exact l.mono gf mp
   ·rw[sJ (by simp;omega),rj (by simp;omega),iD];exact C
   ·intro aE J;rw[gt (by rw[aE];rfl) J,jF]
   ·intro g e a;have fn:=v g (.inr (.inr ⟨e,a⟩));have nx:fC s g e (u.take j.size):=by
     intro x hs fs;have ii:x<(u.take j.size).length:=(ih.1 fs).1;simp only[gu] at ii;rw[fn.1]
     ·exact((cv g e a).1.take) x hs fs
     intro h fT;rcases ce g h fT with⟨ne,aE,J,hi⟩|c
     ·rw[a] at aE;simp only[fc,iY,true_and] at aE;omega
     exact absurd (by simp[c]) (ad g e a).1
    refine nx.append ?_;have:=L g (e+j.size) (by rw[a];rfl);rwa[gu,h5 aa]
   ·rw[uV] at an|-;intro b;have:=an b;simp only[uR] at this|-;omega
   intro c Q P M o E;have ax:(u.take j.size++n).take j.size=u.take j.size:=(by rw[uX (by simp;omega),apl,apm]);have f9:(u.take j.size++n).drop j.size=n:=(by rw[sJ (by simp;omega),rj (by simp;omega),iD]);cases c with
   |nil=>
    obtain⟨rfl,rfl,rfl⟩:=a8.oo.1 E;obtain⟨_,_,a4⟩:=a8.oo.1 (co [] c2 (loc.map λc=>(c.1,c.2+j.size)) (u.drop j.size) (by simpa[hG,n8] using o) (a8.oo.2 ⟨bq,bq,bq⟩));exact a8.oo.2 ⟨bq,bq,by rw[a4,jF]⟩
   |cons I c=>
    cases I<;>simp only[hG] at o<;>first|(cases o;done)|skip
    ·show a8 s j loc ((u.take j.size++n).take j.size) c Q P M;rw[ax];exact a8.sm l mp E
    show a8 s c2 (loc.map λc=>(c.1,c.2+j.size)) ((u.take j.size++n).drop j.size) c Q P M;rw[f9];exact co c Q P M o E
theorem JG (i:bp bd) {loc:Loc} {u:e.den} {τ':ao} {y:τ'.den} (D:a5 d f e g u k) (E:qh f loc g e.size) (F:k.Nodup) (G:∀a b,loc=Y (a,b)->a∉k/\∀h,¬d h a) (H:∀a∈k,∀h,¬d h a) (I:e7 e u i τ' y):∃c l r o,a8 f e loc g i τ' c l/\a5 d f τ' l y r/\qh f c l τ'.size/\k.Perm (r++o)/\(∀q s,c=Y (q,s)->(∃b,loc=Y (q,b)/\b<=s/\s+τ'.size<=b+e.size)\/q∈o)/\(∀(
   j:bH) (p:eW->X->Prop) (m:ak0) (B:τ'.den) (w:ak6) (A:e.den),
   (∀h a,d h a->p h a)->(∀a,(∃h,d h a)\/a∈o\/(∃b,loc=Y (a,b))->uJ f j c τ'.size a)->
   a5 p j τ' m B w->(c=bv->i≠[]->m=l)->(∀a b,c=Y (a,b)->fC j a b m)->gD e u i τ' B A->
   ∃n x,a5 p j e n A x/\(i=[]->n=m)/\(loc=bv->(c≠bv\/m=l)->n=g)/\(∀a b,loc=Y (a,b)->fC j a b n)/\x.Perm (w++o)/\a8 j e loc n i τ' c m/\∀(t:bp bd) (C:ao) (z:Loc) (v:ak0),hG i t=bt->a8 f e loc g t C z v->a8 j e loc n t C z v):=by
 obtain⟨c,l,r,o,J,K,L,M,N,O,_⟩:=FE i D E F G H I;grind
def cG (a c:X->Prop):eW->X->Prop
 |.bo=>a
 |.dm=>λb=>a b\/c b
theorem od {a:X->Prop} {d:eW} (c:cG a j d b):a b\/j b:=by cases d;exact .inl c;exact c
inductive au where
 |dead
 |val (τ:ao) (x:τ.den)
 |ref (id:X) (p:bp bd)
 |addr (id:X) (p:bp bd)
 |view (id:X) (p:bp bd) (lo hi:X)
 |app (id:X) (p:bp bd) (τ:ao) (ys:bp τ.den) (own:ak6)
 |eN (v:Value)
 |fG (l:bp au)
 |agg (l:bp au)
 |eM (f:X) (l:bp au)
 |ent (id:X) (p:bp bd) (k:Z)
 |hY (a:au)
variable{U:au}{V:bp (X×au)}
abbrev aT:=(a:ao)×a.den
variable{p:bp (X×aT)}{P:aT}
structure aW where
 g:bp (X×au)
 h:bp (X×aT)
variable{O:aW}
def ay {a:Type}:bp (X×a)->X->bA a
 |[],_=>bv
 |(k,v)::r,n=>bif bL k n then Y v else ay r n
theorem eX (b:X) (d:N) (c:bp (X×N)) (a:X):ay ((b,d)::c) a=if b=a then Y d else ay c a:=by
 show(bif bL b a then Y d else ay c a)=_;by_cases e:b=a
 ·simp_all
 rw[aA e];grind [alX]
def gt (a:bp (X×au)) (b:X):au:=match ay a b with|some c=>c|none=>.dead
structure fb where
 I0:X->Prop
 B:X->Prop
 F0:X->Prop
 w0:bH
 n:X
 pin:ak6
 vs:X->Value
variable{T:fb}
def fb.ok (a:fb) (d:X):Prop:=d<a.n/\d∉a.pin
inductive c8 (M:eW->X->Prop) (w:bH) (h:bp (X×aT)) (rt:X->ak0) (fp:X->ak6):au->Value->Prop
 |dead (v:Value):c8 M w h rt fp .dead v
 |eN (v:Value):c8 M w h rt fp (.eN v) v
 |val {τ:ao} {x:τ.den} {cs:ak0} (r:a5 M w τ cs x []):c8 M w h rt fp (.val τ x) (eY τ cs)
 |ref {id:X} {p:bp bd} {t:aT} {τ':ao} {loc:Loc} {cs:ak0} (pP:ay h id=Y t) (FSq:a8 w t.1 bv (rt id) p τ' loc cs):c8 M w h rt fp (.ref id p) (eY τ' cs)
 |addr {id:X} {p:bp bd} {t:aT} {τ':ao} {b o:X} {cs:ak0} (pP:ay h id=Y t) (FSq:a8 w t.1 bv (rt id) p τ' (Y (b,o)) cs):c8 M w h rt fp (.addr id p) (.pointer (Y ⟨b,o,bv⟩))
 |view {id:X} {p:bp bd} {lo hi:X} {t:aT} {τ':ao} {loc:Loc} {b o len cap:X} (pP:ay h id=Y t) (FSq:a8 w t.1 bv (rt id) p (.osl τ') loc [.slice (Y ⟨b,o,bv⟩) len cap]) (FP:lo<=hi) (YH:hi<=len) (ahI:len<=cap):c8 M w h rt fp (.view id p lo hi) (.slice (Y ⟨b,if cap=lo then o else o+lo*τ'.size,bv⟩) (hi-lo) (cap-lo))
 |mN (id:X) (p:bp bd):c8 M w h rt fp (.view id p 0 0) (.slice bv 0 0)
 |app {id:X} {p:bp bd} {τ:ao} {ys:bp τ.den} {own:ak6} {t:aT} {loc:Loc} {vh:ak0} {xs:bp τ.den} {f1 f2:ak6} {v:Value} (pP:ay h id=Y t) (ahL:τ.lm=bt) (FSq:a8 w t.1 bv (rt id) p (.osl τ) loc vh) (PF:e7 t.1 t.2 p (.osl τ) xs) (FP:a5 M w (.osl τ) vh xs f1) (ahJ:∀b∈f1,b∈fp id) (YH:a5 M w (.osl τ) [v] (xs++ys) f2) (ahO:∀i∈own,i≠id/\∃u,ay h i=Y u) (ahP:∀b∈f2,b∈f1\/∃i∈own,b∈fp i) (ahM:f2.Nodup):c8 M w h rt fp (.app id p τ ys own) v
 |fG {l:bp au} {vs:akY} (FR:l.length=vs.size) (FQ:∀(i:X) (a:au) (v:Value),l[i]?=Y a->vs[i]?=Y v->c8 M w h rt fp a v):c8 M w h rt fp (.fG l) (.tuple vs)
 |agg {l:bp au} {vs:ak0} (FR:l.length=vs.length) (FQ:∀(i:X) (a:au) (v:Value),l[i]?=Y a->vs[i]?=Y v->c8 M w h rt fp a v):c8 M w h rt fp (.agg l) (.agg (vs.map λv=>v.cells.toList).flatten.toArray)
 |ent {id:X} {p:bp bd} {k:Z} {t:aT} {τ':ao} {loc:Loc} {b c i:X} {fx:bX alg} {e:alg} (pP:ay h id=Y t) (FSq:a8 w t.1 bv (rt id) p (.mp τ') loc [.map (Y b)]) (PC:b∈fp id) (PG:jy w b=Y (fx,c)) (hi:fx[i]?=Y e) (ahK:e.key=.int .i64 k):c8 M w h rt fp (.ent id p k) (.int .i64 (e.born:Z))
 |eM {f:X} {l:bp au} {vs:akY} (FR:l.length=vs.size) (FQ:∀(i:X) (a:au) (v:Value),l[i]?=Y a->vs[i]?=Y v->c8 M w h rt fp a v):c8 M w h rt fp (.eM f l) (.func (.func f) #[] vs)
 |hY {a:au} {v:Value} {b:X} (PC:M .bo b) (hc:w.cell? ⟨b,0,bv⟩=Y v) (ahN:v.oneCell'=bt) (JV:c8 M w h rt fp a v):c8 M w h rt fp (.hY a) (.pointer (Y ⟨b,0,bv⟩))
structure c6 (C:fb) (st:aW) (Mg:akY) (w:bH) (I:X->Prop) (rt:X->ak0) (fp:X->ak6):Prop where
 n:Mg.size=C.n
 i0:∀b,C.I0 b->I b
 i1:∀b,I b->C.I0 b\/C.w0.heap.size<=b\/C.F0 b
 ib:∀b,I b\/C.B b->b<w.heap.size
 tree:∀id t,ay st.h id=Y t->a5 (cG I C.B) w t.1 (rt id) t.2 (fp id)/\(fp id).Nodup/\∀b∈fp id,¬I b/\¬C.B b/\b<w.heap.size/\(C.w0.heap.size<=b\/C.F0 b)
 dis:∀i j t u,ay st.h i=Y t->ay st.h j=Y u->i≠j->∀b∈fp i,b∉fp j
 tmp:∀k,c8 (cG I C.B) w st.h rt fp (gt st.g k) (Mg.getD k bZ)
 frame:∀b,b<C.w0.heap.size->¬C.F0 b->w.heap[b]?=C.w0.heap[b]?
 evo:∀b,b<C.w0.heap.size->mQ C.w0 w b
 size:C.w0.heap.size<=w.heap.size
 os:w.os=C.w0.os
 tape:w.tape=C.w0.tape
 output:w.output=C.w0.output
 pin:∀k∈C.pin,Mg.getD k bZ=C.vs k
def g0 (a:fb) (e:aW) (f:akY) (g:bH):Prop:=∃b d c,c6 a e f g b d c
structure hL (w w':bH):Prop where
 os:w'.os=w.os
 tape:w'.tape=w.tape
 output:w'.output=w.output
 size:w.heap.size<=w'.heap.size
 heap:∀b,b<w.heap.size->w'.heap[b]?=w.heap[b]?
def hL.refl (a:bH):hL a a:=⟨bq,bq,bq,bg _,λ_ _=>rfl⟩
theorem hL.trans {c d e:bH} (a:hL c d) (b:hL d e):hL c e:=
 ⟨b.os.trans a.os,b.tape.trans a.tape,b.output.trans a.output,dk a.size b.size,λg f=>(b.heap g (jG f a.size)).trans (a.heap g f)⟩
def hL.drew {b c:bH} (a:hL b c):hL b c.drew:=⟨a.os,a.tape,a.output,a.size,a.heap⟩
theorem hL.alloc (a:bH) (b:Obj):hL a (a.alloc b):=⟨bq,bq,bq,ac,λc d=>by
 show(a.heap.push b)[c]?=_;grind⟩
theorem c8.mono {u x:eW->X->Prop} {r t:bH} {v z:bp (X×aT)} {w D:X->ak0} {s y:X->ak6} (n:∀B c,u B c->x B c/\eF r t c) (d:∀id m,ay v id=Y m->a5 u r m.1 (w id) m.2 (s id)/\∀c∈s id,eF r t c) {j:au} {b:Value} (F:c8 u r v w s j b) (o:∀id m,ay v id=Y m->ay z id=Y m/\D id=w id/\y id=s id):c8 x t z D y j b:=by
 induction F with
 |dead b=>exact .dead b
 |eN b=>exact .eN b
 |val S=>exact .val (S.mono n ac)
 |ref a g=>
  obtain⟨h,i,_⟩:=o _ _ a;exact .ref h (by rw[i];exact g.sm (d _ _ a).1 (d _ _ a).2)
 |addr a g=>
  obtain⟨h,i,_⟩:=o _ _ a;exact .addr h (by rw[i];exact g.sm (d _ _ a).1 (d _ _ a).2)
 |mN id C=>exact .mN id C
 |view a g e f E=>
  obtain⟨h,i,_⟩:=o _ _ a;exact .view h (by rw[i];exact g.sm (d _ _ a).1 (d _ _ a).2) e f E
 |@app id C τ av an m am T ap U f2 b a N g J e H f V ad O=>
  obtain⟨h,i,R⟩:=o _ _ a;obtain⟨Q,A⟩:=d _ _ a;have I:∀c∈f2,eF r t c:=λc k=>ae;refine .app h N (by rw[i];exact g.sm Q A) J (e.mono n (λc k=>A c (H c k))) ae (f.mono n I) ?_ ?_ O
  ·grind
  grind
 |ent a g k M K L=>
  obtain⟨h,i,R⟩:=o _ _ a;exact .ent h (by rw[i];exact g.sm (d _ _ a).1 (d _ _ a).2) ae (by rw[((d _ _ a).2 _ k).2];exact M) K L
 |fG p _ l=>exact .fG p (λq j b e f=>l q j b e f)
 |agg p _ l=>exact .agg p (λq j b e f=>l q j b e f)
 |eM p _ l=>exact .eM p (λq j b e f=>l q j b e f)
 |hY k G P _ l=>exact .hY (n _ _ k).1 (by rw[((n _ _ k).2.1 0).1];exact G) P l
def bc (c:bp (X×au)):bS->au
 |.tmp g=>gt c g
 |.const (.int d e)=>.val (.int d) e
 |.const (.bool a)=>.val .bool a
 |.const (.string f)=>.val .str f
 |.const h=>.eN h
 |.func b=>.eM b []
 |.global _=>.dead
def c8.int {c:eW->X->Prop} {g:bH} {e:bp (X×aT)} {f:X->ak0} {d:X->ak6} (a:cD) (b:Z):c8 c g e f d (.val (.int a) b) (.int a b):=
 .val (τ:=.int a) (cs:=[.int a b]) ⟨bq,bq⟩
def c8.bool {b:eW->X->Prop} {f:bH} {d:bp (X×aT)} {e:X->ak0} {c:X->ak6} (a:bD):c8 b f d e c (.val .bool a) (.bool a):=
 .val (τ:=.bool) (cs:=[.bool a]) ⟨bq,bq⟩
def c8.str {b:eW->X->Prop} {f:bH} {d:bp (X×aT)} {e:X->ak0} {c:X->ak6} (a:ByteArray):c8 b f d e c (.val .str a) (.string a):=
 .val (τ:=.str) (cs:=[.string a]) ⟨bq,bq⟩
def c6.bc {e:fb} {c:aW} {a:Act} {l:bH} {f:X->Prop} {j:X->ak0} {i:X->ak6} (m:c6 e c a.tmps l f j i) (d:bS):c8 (cG f e.B) l c.h j i (bc c.g d) (a.eval d):=by
 cases d with
 |tmp o=>exact m.tmp o
 |const p=>
  cases p<;>simp only[l0.bc,Act.eval]
  case int k n=>exact .int k n
  case bool b=>exact .bool b
  case string s=>exact .str s
  all_goals exact .eN _
 |func q=>exact .eM (vs:=#[]) ac ac
 |global r=>exact .dead _
theorem lL {d:Type}:∀(c b:bp (X×d)) (a:X),ay (c++b) a=(ay c a).or (ay b a)
 |[],b,a=>by simp[ay]
 |(k,v)::c,b,a=>by rw[oB,eX,eX,lL c b a];grind
theorem jx (c:X) (b:au) (d:bp (X×au)) (a:X):gt ((c,b)::d) a=if c=a then b else gt d a:=by grind [eX,gt]
theorem c6.put {d:akY} (a:c6 T O d f j r s) (i:T.ok b) {av:au} {v:Value} (m:c8 (cG j T.B) f O.h r s av v):c6 T ⟨(b,av)::O.g,O.h⟩ (d.setIfInBounds b v) f j r s where
 n:=by simpa using a.n
 i0:=a.i0
 i1:=a.i1
 ib:=a.ib
 tree:=a.tree
 dis:=a.dis
 tmp:=λc=>by
  show c8 _ _ _ _ _ (gt ((b,av)::O.g) c) _;unfold gt;rw[eX];have l:b<d.size:=(by rw[a.n];exact i.1);by_cases e:b=c
  ·simp_all
  rw[aA e];have:(d.setIfInBounds b v).getD c bZ=d.getD c undef:=ag;rw[this];exact a.tmp c
 frame:=a.frame
 evo:=a.evo
 size:=a.size
 os:=a.os
 tape:=a.tape
 output:=a.output
 pin:=λc e=>by have:b≠c:=λk=>i.2 (k▸e);rw[<-a.pin c e];simp_all
structure xu (C:fb) (st:aW) (w w':bH) (I':X->Prop) (new:bp (X×aT)) (rtn:X->ak0) (fpn:X->ak6):Prop where
 tree:∀id t,ay new id=Y t->ay st.h id=bv/\a5 (cG I' C.B) w' t.1 (rtn id) t.2 (fpn id)/\(fpn id).Nodup/\∀b∈fpn id,w.heap.size<=b/\b<w'.heap.size/\¬I' b
 dis:∀i j t u,ay new i=Y t->ay new j=Y u->i≠j->∀b∈fpn i,b∉fpn j
def xu.nil:xu T O f m j [] r s:=
 ⟨(λ_ _ a=>by cases a),(λ_ _ _ _ a=>by cases a)⟩
theorem xu.one {C:fb} {st:aW} {w':bH} {I':X->Prop} {id:X} {t:aT} {cs:ak0} {f:ak6} (l:ay st.h id=bv) (n:a5 (cG I' C.B) w' t.1 cs t.2 f) (j:f.Nodup) (i:∀a∈f,m.heap.size<=a/\a<w'.heap.size/\¬I' a):xu C st m w' I' [(id,t)] (λ_=>cs) (λ_=>f) where
 tree:=λe g b=>by
  rw[eX] at b;split at b
  ·grind
  cases b
 dis:=λe o p g c d k=>by
  rw[eX] at c d;split at c
  ·split at d
   ·omega
   cases d
  cases c
def fA (d:bp (X×aT)) {a:Type} (b c:X->a):X->a:=λid=>match ay d id with|some _=>b id|none=>c id
theorem c6.ext {I':X->Prop} {rtn:X->ak0} {fpn:X->ak6} (d:c6 T O v f j r s) (e:hL f m) (z:∀a,j a->I' a) (A:∀a,I' a->j a\/(f.heap.size<=a/\a<m.heap.size)) {new:bp (X×aT)} (q:xu T O f m I' new rtn fpn):c6 T ⟨O.g,new++O.h⟩ v m I' (fA new rtn r) (fA new fpn s):=by
 have I:∀x a,cG j T.B x a->cG I' T.B x a/\eF f m a:=λx a b=>by
  refine⟨?_,.of_heap (e.heap a (d.ib a (od b)))⟩;cases x
  ·exact z a b
  exact b.imp (z a) id
 have S:∀id c,ay O.h id=Y c->ay (new++O.h) id=Y c/\fA new rtn r id=r id/\fA new fpn s id=s id:=λid c k=>by
  have:ay new id=bv:=by
   cases P:ay new id with
   |none=>rfl
   |some l=>have:=(q.tree id l P).1;grind
  grind [lL,fA]
 have C:∀id c,ay (new++O.h) id=Y c->(ay new id=Y c/\fA new rtn r id=rtn id/\fA new fpn s id=fpn id)\/(ay O.h id=Y c/\fA new rtn r id=r id/\fA new fpn s id=s id):=λid c k=>(by grind [lL,ay,fA]);have J:∀id c,ay O.h id=Y c->∀a∈s id,eF f m a:=λid c k a b=>.of_heap (e.heap a ((d.tree id c k).2.2 a b).2.2.1);refine{n:=d.n,i0:=λa b=>z a (d.i0 a b),i1:=?_,ib:=?_,tree:=?_,dis:=?_,tmp:=?_,frame:=?_,evo:=λa b=>(d.evo a b).trans (.of_heap (e.heap a (jG b d.size))),size:=dk d.size e.size,os:=e.os.trans d.os,tape:=e.tape.trans d.tape,output:=e.output.trans d.output,pin:=d.pin}
 ·intro a b;rcases A a b with b|⟨b,_⟩
  ·exact d.i1 a b
  exact .inr (.inl (dk d.size b))
 ·intro a b;rcases b with b|b
  ·rcases A a b with b|⟨_,b⟩
   ·exact jG (d.ib a (.inl b)) e.size
   omega
  exact jG (d.ib a (.inr b)) e.size
 ·intro id c k;rcases C id c k with⟨i,y,o⟩|⟨i,y,o⟩
  ·obtain⟨_,aE,D,E⟩:=q.tree id c i;rw[y,o];refine⟨aE,D,λa b=>?_⟩;obtain⟨F,G,H⟩:=E a b;exact⟨H,λM=>by have:=d.ib a (.inr M);omega,G,.inl (dk d.size F)⟩
  obtain⟨aE,D,E⟩:=d.tree id c i;rw[y,o];refine⟨aE.mono I (J id c i),D,λa b=>?_⟩;obtain⟨F,G,H,aU⟩:=E a b;exact⟨λp=>(A a p).elim F (λV=>by omega),G,jG H e.size,aU⟩
 ·intro t u c l Q R K a b;rcases C t c Q with⟨i,_,o⟩|⟨i,_,o⟩<;>rcases C u l R with⟨w,_,L⟩|⟨w,_,L⟩<;>rw[o] at b<;>rw[L]
  ·exact q.dis t u c l i w K a b
  ·intro p;have:=((q.tree t c i).2.2.2 a b).1;have:=((d.tree u l w).2.2 a p).2.2.1;omega
  ·intro p;have:=((q.tree u l w).2.2.2 a p).1;have:=((d.tree t c i).2.2 a b).2.2.1;omega
  exact d.dis t u c l i w K a b
 ·intro U;exact(d.tmp U).mono I (λid c k=>⟨(d.tree id c k).1,J id c k⟩) S
 intro a b N;rw[e.heap a (jG b d.size)];exact d.frame a b N
def c6.YF (a:c6 T O v f j r s) (b:hL f m):c6 T O v m j r s:=by have:=a.ext (rtn:=r) (fpn:=s) b (λ_ a=>a) (λ_ a=>.inl a) (new:=[]) .nil;exact this
def pC:bp (X×au)->aW->Prop
 |[],_=>True
 |(k,av)::r,st=>gt st.g k=av/\pC r st
def pD:bp (X×aT)->aW->Prop
 |[],_=>True
 |(k,t)::r,st=>ay st.h k=Y t/\pD r st
def pC.get (b:pC V O):∀a,gt V a=.dead\/gt V a=gt O.g a:=by
 induction V with
 |nil=>exactλa=>.inl bq
 |cons e V d=>
  obtain⟨h,f⟩:=e;intro a;rw[jx];split
  ·rename_i c;subst c;exact .inr b.1.symm
  exact d b.2 a
def pD.get (c:pD p O):∀a b,ay p a=Y b->ay O.h a=Y b:=by
 induction p with
 |nil=>intro a b c;cases c
 |cons g p f=>
  obtain⟨j,i⟩:=g;intro a b d;rw[eX] at d;split at d
  ·rename_i e;subst e;rw[<-d];exact c.1
  exact f c.2 a b d
mutual
def au.ids:au->ak6
 |.dead|.val _ _|.eN _=>[]
 |.ref id _|.addr id _|.view id _ _ _|.ent id _ _=>[id]
 |.app id _ _ _ c=>id::c
 |.fG a|.agg a|.eM _ a=>au.o4 a
 |.hY b=>b.ids
def au.o4:bp au->ak6
 |[]=>[]
 |a::b=>a.ids++au.o4 b
end
theorem au.BQ {l:bp au} {i:X} (a:l[i]?=Y U) {id:X} (b:id∈U.ids):id∈au.o4 l:=by
 induction l generalizing i with
 |nil=>grind
 |cons e d c=>
  grind [au.o4]
theorem c8.ws {x:eW->X->Prop} {z:bp (X×aT)} {D:X->ak0} {y:X->ak6} (t:∀B b,d B b->x B b/\eF f m b) (F:c8 d f p r s U R) (e:∀id∈U.ids,∀w,ay p id=Y w->ay z id=Y w/\D id=r id/\y id=s id/\a5 d f w.1 (r id) w.2 (s id)/\∀b∈s id,eF f m b):c8 x m z D y U R:=by
 induction F with
 |dead R=>exact .dead R
 |eN R=>exact .eN R
 |val T=>exact .val (T.mono t ac)
 |ref h g=>
  obtain⟨i,j,_,o,k⟩:=e _ (by simp[au.ids]) _ h;exact .ref i (by rw[j];exact g.sm o k)
 |addr h g=>
  obtain⟨i,j,_,o,k⟩:=e _ (by simp[au.ids]) _ h;exact .addr i (by rw[j];exact g.sm o k)
 |mN id C=>exact .mN id C
 |view h g a c E=>
  obtain⟨i,j,_,o,k⟩:=e _ (by simp[au.ids]) _ h;exact .view i (by rw[j];exact g.sm o k) a c E
 |@app id C a4 a3 av w ap V a0 ad f2 R h N g J a H c am an O=>
  obtain⟨i,j,S,Q,A⟩:=e _ (by simp[au.ids]) _ h;have I:∀b∈f2,eF f m b:=λb l=>(by grind [au.ids]);refine .app i N (by rw[j];exact g.sm Q A) J (a.mono t (λb l=>A b (H b l))) ae (c.mono t I) ?_ ?_ O
  ·grind [au.ids]
  grind [au.ids]
 |ent h g l M K L=>
  obtain⟨i,j,S,o,k⟩:=e _ (by simp[au.ids]) _ h;exact .ent i (by rw[j];exact g.sm o k) ae (by rw[(k _ l).2];exact M) K L
 |fG u _ n=>exact .fG u (λv U R a c=>n v U R a c (λid q=>e id (au.BQ a q)))
 |agg u _ n=>exact .agg u (λv U R a c=>n v U R a c (λid q=>e id (au.BQ a q)))
 |eM u _ n=>exact .eM u (λv U R a c=>n v U R a c (λid q=>e id (au.BQ a q)))
 |hY l G P _ n=>exact .hY (t _ _ l).1 (by rw[((t _ _ l).2.1 0).1];exact G) P (n λid q=>e id (by grind [au.ids]))
def c6.Ap {o:aW} (a:c6 T o v f j r s) (w:pC O.g o) (d:pD O.h o) (x:∀c,∀id∈(gt O.g c).ids,(ay O.h id).isSome=bt):c6 T O v f j r s where
 n:=a.n
 i0:=a.i0
 i1:=a.i1
 ib:=a.ib
 tree:=λid b e=>a.tree id b (d.get id b e)
 dis:=λq t b i m y=>a.dis q t b i (d.get q b m) (d.get t i y)
 tmp:=λc=>by
  rcases w.get c with l|l
  ·rw[l];exact .dead _
  have:=x c;rw[l] at this|-;refine(a.tmp c).ws (λz k u=>⟨u,eF.refl f k⟩) (λid m b e=>?_);obtain⟨i,p⟩:=HG.1 (this id m);have:=d.get id i p;rw[e] at this;obtain rfl:=gy this;exact⟨p,bq,bq,(a.tree id b e).1,λk _=>eF.refl f k⟩
 frame:=a.frame
 evo:=a.evo
 size:=a.size
 os:=a.os
 tape:=a.tape
 output:=a.output
 pin:=a.pin
def m6 (a:bp (X×au)) (b:bp (X×aT)):bD:=a.all λc=>c.2.ids.all λid=>(ay b id).isSome
theorem m6.get (e:m6 V p=bt) (b:X):∀id∈(gt V b).ids,(ay p id).isSome=bt:=by
 intro id a;unfold gt at a;cases c:ay V b with
 |none=>grind [au.ids]
 |some d=>
  rw[c] at a;have f:(b,d)∈V:=by
   clear e a
   induction V with
   |nil=>cases c
   |cons h i g=>
    grind [anv,al6,eX]
  grind [amj,m6]
section
mutual
def fv (P:b3):ao->bN->Prop
 |.int f,T=>∃a,P.info? T=Y a/\a.size=1/\a.bytes<=24/\a.zero=Y (.int f 0)/\P.underlying T=Y (.int f)
 |.bool,T=>∃a,P.info? T=Y a/\a.size=1/\a.bytes<=24/\a.zero=Y (.bool br)/\P.underlying T=Y .bool
 |.str,T=>∃a,P.info? T=Y a/\a.size=1/\a.bytes<=24/\a.zero=Y (.string anA)/\P.underlying T=Y .string
 |.bb _ b,T|.osl b,T=>∃a E,P.info? T=Y a/\a.size=1/\a.bytes<=24/\a.zero=Y (.slice bv 0 0)/\P.underlying T=Y (.slice E)/\fv P b E
 |.ptr _ b,T|.optr b,T=>∃a E,P.info? T=Y a/\a.size=1/\a.bytes<=24/\a.zero=Y (.pointer bv)/\P.underlying T=Y (.pointer E)/\fv P b E
 |.st b,T=>0<b.size/\∃a e d,P.info? T=Y a/\a.size=b.size/\a.bytes<=24*b.size/\a.zero=Y (.agg d)/\P.underlying T=Y (.struct e)/\jt P b e.toList 0 d.toList/\d.size=b.size
 |.mp b,T|.fm _ b,T=>∃a c E,P.info? T=Y a/\a.size=1/\a.bytes<=24/\a.zero=Y (.map bv)/\P.underlying T=Y (.map c E)/\P.underlying c=Y (.int .i64)/\fv P b E
 |.fn _ _,T=>∃a g h i,P.info? T=Y a/\a.size=1/\a.bytes<=24/\a.zero=Y .nilFunc/\P.underlying T=Y (.func g h i)
 |_,_=>b7
def jt (P:b3):ao->bp aly->X->ak0->Prop
 |.pr a g,c::h,e,b=>c.offset=e/\fv P a c.type/\0<a.size/\(∃d f,P.info? c.type=Y d/\d.zero=Y f/\b.take a.size=f.cells.toList)/\jt P g h (e+a.size) (b.drop a.size)
 |.nil,[],_,b=>b=[]
 |_,_,_,_=>b7
end
def qL:ao->bD
 |.st _=>bt
 |_=>br
structure Vs (P:b3) (τ:ao) (T:bN) (i:TypeInfo):Prop where
 info:P.info? T=Y i
 size:i.size=τ.size
 bytes:i.bytes<=24*τ.size
 pos:0<τ.size
def fv.info {P:b3}:∀{τ:ao} {T:bN},fv P τ T->∃a g,Vs P τ T a/\P.underlying T=Y g/\(match g with|.struct _|.array _ _=>bt|_=>br)=qL τ
 |.int _,_,⟨a,b,c,d,_,e⟩|.bool,_,⟨a,b,c,d,_,e⟩|.str,_,⟨a,b,c,d,_,e⟩|.bb _ _,_,⟨a,_,b,c,d,_,e,_⟩|.osl _,_,⟨a,_,b,c,d,_,e,_⟩|.ptr _ _,_,⟨a,_,b,c,d,_,e,_⟩|.optr _,_,⟨a,_,b,c,d,_,e,_⟩=>⟨a,_,⟨b,c,d,by simp[ao.size]⟩,e,bq⟩
 |.st i,_,⟨h,a,_,_,b,c,d,_,e,_⟩=>⟨a,_,⟨b,c,d,h⟩,e,bq⟩
 |.pr _ _,_,f|.nil,_,f|.eL,_,f=>f.elim
 |.mp _,_,⟨a,_,_,b,c,d,_,e,_⟩|.fm _ _,_,⟨a,_,_,b,c,d,_,e,_⟩|.fn _ _,_,⟨a,_,_,_,b,c,d,_,e⟩=>⟨a,_,⟨b,c,d,by simp[ao.size]⟩,e,bq⟩
theorem fv.JW {P:b3}:∀{τ:ao} {T:bN},fv P τ T->∃g,g.cells.size=τ.size/\∀d,P.info? T=Y d->d.zero=Y g
 |.int _,_,⟨d,a,_,_,b,_⟩|.bool,_,⟨d,a,_,_,b,_⟩|.str,_,⟨d,a,_,_,b,_⟩=>⟨_,bq,λf c=>by rw[a] at c;cases c;exact b⟩
 |.bb _ _,_,⟨d,_,a,_,_,b,_⟩|.osl _,_,⟨d,_,a,_,_,b,_⟩|.ptr _ _,_,⟨d,_,a,_,_,b,_⟩|.optr _,_,⟨d,_,a,_,_,b,_⟩=>⟨_,bq,λf c=>by rw[a] at c;cases c;exact b⟩
 |.st n,_,⟨j,d,_,i,a,k,l,b,m,_,h⟩=>⟨.agg i,h,λf c=>by grind⟩
 |.pr _ _,_,e|.nil,_,e|.eL,_,e=>e.elim
 |.mp _,_,⟨d,_,_,a,_,_,b,_⟩=>⟨_,bq,λf c=>by rw[a] at c;cases c;exact b⟩
 |.fm _ _,_,⟨d,_,_,a,_,_,b,_⟩=>⟨_,bq,λf c=>by rw[a] at c;cases c;exact b⟩
 |.fn _ _,_,⟨d,_,_,_,a,_,_,b,_⟩=>⟨_,bq,λf c=>by rw[a] at c;cases c;exact b⟩
section
variable {P:b3} {τ:ao} {T:bN}
def fv.sizeOf (c:fv P τ T) (b:bH):(alY T).run P b=.ok τ.size b:=by obtain⟨e,d,a,_⟩:=c.info;simp[alY,alN,a.info,a.size]
def fv.isAgg (c:fv P τ T) (a:bH):(Go.isAgg T).run P a=.ok (qL τ) a:=by obtain⟨g,b,f,e,d⟩:=c.info;simp only[Go.isAgg,b8,cz e,cd];rw[<-d];cases b<;>rfl
def fv.pos (a:fv P τ T):0<τ.size:=by obtain⟨d,c,b,_⟩:=a.info;exact b.pos
def R1:∀{τ:ao} {T:bN},fv P τ T->qL τ=br->τ.size=1
 |.int _,_,_,_|.bool,_,_,_|.str,_,_,_|.bb _ _,_,_,_|.osl _,_,_,_|.ptr _ _,_,_,_|.optr _,_,_,_|.mp _,_,_,_|.fm _ _,_,_,_|.fn _ _,_,_,_=>rfl
 |.st _,_,_,a=>by cases a
 |.pr _ _,_,a,_|.nil,_,a,_|.eL,_,a,_=>a.elim
def LF (a:qL τ=br):eY τ g=g.headD undef:=by cases τ<;>first|rfl|cases a
def LG (a:qL τ=bt):eY τ g=.agg g.toArray:=by cases τ<;>first|rfl|cases a
theorem pb (d:fv P τ T) (c:g.length=τ.size) (e:∀a∈g,a.oneCell'=bt):(eY τ g).cells=g.toArray:=by
 cases b:qL τ with
 |true=>rw[LG b];rfl
 |false=>
  rw[LF b];rw[R1 d b] at c;obtain⟨a,rfl⟩:=rn.1 c;have:=e a ac;cases a<;>first|rfl|grind [alw]
theorem LS {w:bH} {b o:X} {cs:ak0} (a:fv P τ T) (e:fC w b o cs) (c:cs.length=τ.size):(loadVar T ⟨b,o,bv⟩).run P w=.ok (eY τ cs) w:=by
 simp only[loadVar,b8,a.isAgg,cd];cases g:qL τ with
 |true=>
  simp only[cp,b8,a.sizeOf,cd];rw[<-c,run_loadCells_list w ⟨b,o,bv⟩ cs (λh d f=>by rw[al7];exact e h d f)];simp_all [LG]
 |false=>
  rw[R1 a g] at c;obtain⟨d,rfl⟩:=rn.1 c;have:=e 0 d bq;simp_all [LF,nu]
end
def np:(τ:ao)->bA τ.den
 |.int _=>Y (0:Z)
 |.bool=>Y br
 |.str=>Y anA
 |.bb _ _|.osl _=>Y []
 |.ptr _ _=>Y bv
 |.optr _=>bv
 |.st c=>np c
 |.pr a b=>match np a,np b with|some d,some e=>Y (d,e)|_,_=>bv
 |.nil=>Y ()
 |.eL=>bv
 |.mp _|.fm _ _=>Y bv
 |.fn _ _=>bv
mutual
theorem zz {P:b3}:∀{τ:ao} {T:bN} {g:τ.den},fv P τ T->np τ=Y g->∃b l,P.info? T=Y b/\b.zero=Y l/\l=eY τ l.cells.toList/\∀(e:eW->X->Prop) (f:bH),a5 e f τ l.cells.toList g []
 |.int p,_,g,⟨b,c,h,i,d,j⟩,a=>⟨b,_,c,d,bq,λe f=>by cases a;exact⟨bq,bq⟩⟩
 |.bool,_,g,⟨b,c,h,i,d,j⟩,a=>⟨b,_,c,d,bq,λe f=>by cases a;exact⟨bq,bq⟩⟩
 |.str,_,g,⟨b,c,h,i,d,j⟩,a=>⟨b,_,c,d,bq,λe f=>by cases a;exact⟨bq,bq⟩⟩
 |.bb _ _,_,g,⟨b,_,c,h,i,d,j,_⟩,a=>⟨b,_,c,d,bq,λe f=>by cases a;exact⟨bq,bv,0,bq,bg _,λ_=>rfl,.inl bq⟩⟩
 |.osl _,_,g,⟨b,_,c,h,i,d,j,_⟩,a=>⟨b,_,c,d,bq,λe f=>by cases a;exact⟨bv,0,bq,.inl ⟨bq,bq,bq,bq⟩⟩⟩
 |.ptr _ _,_,g,⟨b,_,c,h,i,d,j,_⟩,a=>⟨b,_,c,d,bq,λe f=>by cases a;exact⟨bq,bq⟩⟩
 |.optr _,_,_,_,a=>by cases a
 |.st n,_,g,⟨_,b,o,q,c,h,i,d,j,m,_⟩,a=>⟨b,_,c,d,bq,λe f=>Uz (τ:=n) m a e f⟩
 |.pr _ _,_,_,k,_|.nil,_,_,k,_|.eL,_,_,k,_=>k.elim
 |.mp _,_,g,⟨b,_,_,c,h,i,d,j,_⟩,a=>⟨b,_,c,d,bq,λe f=>by cases a;exact⟨bq,bq⟩⟩
 |.fm _ _,_,g,⟨b,_,_,c,h,i,d,j,_⟩,a=>⟨b,_,c,d,bq,λe f=>by cases a;exact⟨bq,bq⟩⟩
 |.fn _ _,_,_,_,a=>by cases a
theorem Uz {P:b3}:∀{τ:ao} {l:bp aly} {g:X} {f:ak0} {e:τ.den},jt P τ l g f->np τ=Y e->∀(b:eW->X->Prop) (d:bH),a5 b d τ f e []
 |.pr j k,r::x,g,f,e,a,c,b,d=>by
  obtain⟨s,m,t,⟨u,B,aE,q,w⟩,n⟩:=a;simp only[np] at c;split at c
  ·rename_i z A o p;cases c;obtain⟨v,C,h,i,_,y⟩:=zz (τ:=j) m o;rw[aE] at h;obtain rfl:=gy h;rw[q] at i;obtain rfl:=gy i;exact⟨[],[],bq,ae,Uz (τ:=k) n p b d⟩
  grind
 |.nil,[],_,f,e,a,c,b,d=>⟨bq,a⟩
 |.pr _ _,[],_,_,_,a,_,_,_|.nil,_::_,_,_,_,a,_,_,_=>a.elim
 |.int _,_,_,_,_,a,_,_,_|.bool,_,_,_,_,a,_,_,_|.str,_,_,_,_,a,_,_,_|.bb _ _,_,_,_,_,a,_,_,_|.osl _,_,_,_,_,a,_,_,_|.ptr _ _,_,_,_,_,a,_,_,_|.optr _,_,_,_,_,a,_,_,_|.st _,_,_,_,_,a,_,_,_|.eL,_,_,_,_,a,_,_,_|.mp _,_,_,_,_,a,_,_,_|.fm _ _,_,_,_,_,a,_,_,_|.fn _ _,_,_,_,_,a,_,_,_=>by cases a
end
def bi:ao->ao->bD
 |.int g,.int h=>if g=h then bt else br
 |.bool,.bool|.str,.str|.nil,.nil=>bt
 |.bb _ a,.bb _ b|.bb _ a,.osl b|.osl a,.bb _ b|.osl a,.osl b|.ptr _ a,.ptr _ b|.ptr _ a,.optr b|.optr a,.ptr _ b|.optr a,.optr b|.st a,.st b|.mp a,.mp b|.mp a,.fm _ b|.fm _ a,.mp b|.fm _ a,.fm _ b=>bi a b
 |.fn _ _,.fn _ _=>bt
 |.pr c d,.pr e f=>bi c e&&bi d f
 |_,_=>br
theorem bi.size:∀{τ b:ao},bi τ b=bt->τ.size=b.size:=by
 intro τ
 induction τ with
 |st h c=>intro b a;cases b<;>simp only[bi] at a<;>first|(simp only[ao.size];exact c a)|cases a
 |pr d e f g=>
  intro b a;cases b<;>simp only[bi] at a<;>try (cases a;done)
  simp only[cL] at a;grind [ao.size]
 |_=>intro b a;cases b<;>simp[bi] at a<;>simp[ao.size]
mutual
theorem fv.lay {P:b3}:∀{τ c:ao} {T:bN},bi τ c=bt->fv P τ T->fv P c T
 |.int q,c,_,a,b=>by cases c<;>simp[bi] at a;grind
 |.bool,c,_,a,b|.str,c,_,a,b=>by grind [bi]
 |.bb _ k,c,_,a,b=>by obtain⟨h,E,d,i,j,e,f,g⟩:=b;cases c<;>simp only[bi] at a<;>first|exact⟨h,E,d,i,j,e,f,fv.lay a g⟩|cases a
 |.osl k,c,_,a,b=>by obtain⟨h,E,d,i,j,e,f,g⟩:=b;cases c<;>simp only[bi] at a<;>first|exact⟨h,E,d,i,j,e,f,fv.lay a g⟩|cases a
 |.ptr _ k,c,_,a,b=>by obtain⟨h,E,d,i,j,e,f,g⟩:=b;cases c<;>simp only[bi] at a<;>first|exact⟨h,E,d,i,j,e,f,fv.lay a g⟩|cases a
 |.optr k,c,_,a,b=>by obtain⟨h,E,d,i,j,e,f,g⟩:=b;cases c<;>simp only[bi] at a<;>first|exact⟨h,E,d,i,j,e,f,fv.lay a g⟩|cases a
 |.st k,c,_,a,b=>by
  obtain⟨p,h,n,o,d,i,j,e,f,g,l⟩:=b;cases c<;>simp only[bi] at a<;>try (cases a;done)
  have:=bi.size a;exact⟨aa,h,n,o,d,aa,aa,e,f,jt.lay a g,aa⟩
 |.pr _ _,_,_,_,b|.nil,_,_,_,b|.eL,_,_,_,b=>b.elim
 |.mp k,c,_,a,b=>by obtain⟨h,m,E,d,i,j,e,f,g,l⟩:=b;cases c<;>simp only[bi] at a<;>first|exact⟨h,m,E,d,i,j,e,f,g,fv.lay a l⟩|cases a
 |.fm _ k,c,_,a,b=>by obtain⟨h,m,E,d,i,j,e,f,g,l⟩:=b;cases c<;>simp only[bi] at a<;>first|exact⟨h,m,E,d,i,j,e,f,g,fv.lay a l⟩|cases a
 |.fn _ _,c,_,a,b=>by cases c<;>simp only[bi] at a<;>first|exact b|cases a
theorem jt.lay {P:b3}:∀{τ c:ao} {f:bp aly} {d:X} {e:ak0},bi τ c=bt->jt P τ f d e->jt P c f d e
 |.pr k l,c,m::o,d,e,b,a=>by
  obtain⟨g,h,n,i,j⟩:=a;cases c<;>simp only[bi] at b<;>try (cases b;done)
  simp only[cL] at b;have:=bi.size b.1;exact⟨g,fv.lay b.1 h,aa,by rw[<-this];exact i,by rw[<-this];exact jt.lay b.2 j⟩
 |.nil,c,[],_,_,b,a=>by grind [bi]
 |.pr _ _,_,[],_,_,_,a|.nil,_,_::_,_,_,_,a=>a.elim
 |.int _,_,_,_,_,_,a|.bool,_,_,_,_,_,a|.str,_,_,_,_,_,a|.bb _ _,_,_,_,_,_,a|.osl _,_,_,_,_,_,a|.ptr _ _,_,_,_,_,_,a|.optr _,_,_,_,_,_,a|.st _,_,_,_,_,_,a|.eL,_,_,_,_,_,a|.mp _,_,_,_,_,_,a=>by cases a
end
structure u6 where
 b:X
 T:bN
 k:cD
 xs:ak7
def M5 (P:b3) (a:u6):Prop:=∃b,P.underlying a.T=Y (.array a.xs.length b)/\fv P (.int a.k) b
def MH (P:b3) (T:bN):Prop:=P.stoodInHeld T=br/\P.eqGuardType P.depth T=br/\∃a,P.underlying T=Y (.struct a)/\(a.toList.all λb=>b.name !="_")=bt
structure fY where
 P:b3
 tt:bp (bN×ao)
 ok:∀T τ,ay tt T=Y τ->fv P τ T
 mix:P.follows .mixedOrders=bt
 glob:bp u6:=[]
 gok:∀g∈glob,M5 P g:=by intro g h;cases h
 eqs:akZ:=[]
 eqok:∀T∈eqs,MH P T:=by intro T h;cases h
end
section
def h1:X:=4294967296
def aq {b:Type} (c:bp b) (a:Z):bA b:=if 0<=a then c[a.toNat]? else bv
theorem Pu {b:bp N} {a:Z} {c:N} (d:aq b a=Y c):a=(a.toNat:Z)/\a.toNat<b.length/\b[a.toNat]?=Y c:=by grind [alT,aq]
inductive iM where
 |e9 (av:au) (new:bp (X×aT))
 |part (α:Type) (φ:α->Prop) (f:α->au×bp (X×aT))
 |bad
def iM.K (e:iM) (Q:au->bp (X×aT)->Prop):Prop:=
 match e with
 |.e9 c d=>Q c d
 |.part f g b=>∃a:f,g a/\Q (b a).1 (b a).2
 |.bad=>b7
def ao.pure:ao->bD
 |.osl _|.optr _|.eL|.mp _=>br
 |.st c=>c.pure
 |.pr a b=>a.pure&&b.pure
 |_=>bt
def gk:ao->bp bd->bA ao
 |τ,[]=>Y τ
 |.osl c,.idx _::b|.optr c,.deref::b|.mp c,.deref::b|.st c,.unst::b=>gk c b
 |.pr a _,.fst::b=>gk a b
 |.pr _ d,.snd::b=>gk d b
 |_,_=>bv
def ga:ao->X->bA (bp bd×ao)
 |.pr a _,0=>Y ([.fst],a)
 |.pr _ c,d+1=>match ga c d with|some b=>Y (.snd::b.1,b.2)|none=>bv
 |_,_=>bv
def gE:ao->X->X
 |.pr _ _,0=>0
 |.pr a b,c+1=>a.size+gE b c
 |_,_=>0
def r1:(e:ao)->e.den->X->bA aT
 |.pr a _,b,0=>Y ⟨a,b.1⟩
 |.pr _ c,b,d+1=>r1 c b.2 d
 |_,_,_=>bv
theorem Pf {h:b3}:∀{τ:ao} {j:bp aly} {f:X} {g:ak0} {e:X} {s:bp bd} {τf:ao},jt h τ j f g->ga τ e=Y (s,τf)->∃c,j[e]?=Y c/\c.offset=f+gE τ e/\fv h τf c.type
 |.pr a i,c::m,f,g,0,s,τf,d,b=>by simp only[ga,fc,iY] at b;obtain⟨rfl,rfl⟩:=b;exact⟨c,bq,by rw[d.1];rfl,d.2.1⟩
 |.pr a i,c::m,f,g,e+1,s,τf,d,b=>by
  simp only[ga] at b;split at b
  ·rename_i k l;simp only[fc,iY] at b;obtain⟨rfl,rfl⟩:=b;obtain⟨n,o,p,q⟩:=Pf (τ:=i) d.2.2.2.2 (s:=k.1) (τf:=k.2) l;grind [gE]
  grind
 |.pr _ _,[],_,_,_,_,_,d,_=>d.elim
 |.int _,_,_,_,_,_,_,_,b|.bool,_,_,_,_,_,_,_,b|.str,_,_,_,_,_,_,_,b|.bb _ _,_,_,_,_,_,_,_,b|.osl _,_,_,_,_,_,_,_,b|.ptr _ _,_,_,_,_,_,_,_,b|.optr _,_,_,_,_,_,_,_,b|.st _,_,_,_,_,_,_,_,b|.nil,_,_,_,_,_,_,_,b|.eL,_,_,_,_,_,_,_,b=>by cases b
theorem Pj:∀{τ:ao} {e:τ.den} {d:X} {c:aT},r1 τ e d=Y c->∃g,ga τ d=Y (g,c.1)
 |.pr a f,e,0,c,b=>by simp only[r1,fc] at b;subst b;exact⟨_,bq⟩
 |.pr a f,e,d+1,c,b=>by obtain⟨g,h⟩:=Pj (τ:=f) b;grind [ga]
 |.int _,_,_,_,b|.bool,_,_,_,b|.str,_,_,_,b|.bb _ _,_,_,_,b|.osl _,_,_,_,b|.ptr _ _,_,_,_,b|.optr _,_,_,_,b|.st _,_,_,_,b|.nil,_,_,_,b|.eL,_,_,_,b=>by cases b
theorem Bv:∀{τ:ao} {c:X} {s:bp bd} {tf:ao},ga τ c=Y (s,tf)->gE τ c+tf.size<=τ.size
 |.pr a d,0,s,tf,b=>by simp only[ga,fc,iY] at b;obtain⟨_,rfl⟩:=b;simp[gE,ao.size]
 |.pr a d,c+1,s,tf,b=>by
  simp only[ga] at b;split at b
  ·rename_i e f;simp only[fc,iY] at b;obtain⟨_,rfl⟩:=b;have:=Bv (τ:=d) (s:=e.1) (tf:=e.2) f;grind [gE,ao.size]
  grind
 |.int _,_,_,_,b|.bool,_,_,_,b|.str,_,_,_,b|.bb _ _,_,_,_,b|.osl _,_,_,_,b|.ptr _ _,_,_,_,b|.optr _,_,_,_,b|.st _,_,_,_,b|.nil,_,_,_,b|.eL,_,_,_,b=>by cases b
theorem Pg {i:eW->X->Prop} {w:bH}:∀{τ:ao} {f:τ.den} {e:X} {c:aT} {d:ak0},a5 i w τ d f []->r1 τ f e=Y c->a5 i w c.1 ((d.drop (gE τ e)).take c.1.size) c.2 []/\gE τ e+c.1.size<=τ.size
 |.pr a j,f,0,c,d,h,b=>by simp only[r1,fc] at b;subst b;obtain⟨g,f2,m,l,k⟩:=h;obtain⟨rfl,rfl⟩:g=[]/\f2=[]:=ag;grind [gE,ao.size]
 |.pr a j,f,e+1,c,d,h,b=>by obtain⟨g,f2,m,l,k⟩:=h;obtain⟨rfl,rfl⟩:g=[]/\f2=[]:=ag;obtain⟨n,o⟩:=Pg (τ:=j) k b;grind [amV,gE,ao.size]
 |.int _,_,_,_,_,_,b|.bool,_,_,_,_,_,b|.str,_,_,_,_,_,b|.bb _ _,_,_,_,_,_,b|.osl _,_,_,_,_,_,b|.ptr _ _,_,_,_,_,_,b|.optr _,_,_,_,_,_,b|.st _,_,_,_,_,_,b|.nil,_,_,_,_,_,b|.eL,_,_,_,_,_,b=>by cases b
theorem a8.gY {w:bH} {a b:Loc}:a8 w e a g [] q b y↔e=q/\a=b/\g=y:=by cases e<;>exact anw
theorem a8.append {w:bH}:∀{p c:bp bd} {τ u v:ao} {n q r:Loc} {m k l:ak0},a8 w τ n m p u q k->a8 w u q k c v r l->a8 w τ n m (p++c) v r l
 |[],c,τ,_,_,_,_,_,_,_,_,a,b=>by grind [a8.gY]
 |s::p,c,τ,_,_,_,_,_,_,_,_,a,b=>by
  cases τ<;>cases s<;>simp only[a8] at a
  case osl.idx t i=>
   obtain⟨d,o,z,x,e,f,g,h,j,y⟩:=a;exact⟨d,o,z,x,e,f,g,h,j,y.append b⟩
  case optr.deref t=>
   obtain⟨d,o,e,f,g,h,j⟩:=a;exact⟨d,o,e,f,g,h,j.append b⟩
  case st.unst t=>exact a8.append (p:=p) (τ:=t) a b
  case pr.fst t1 t2=>exact a8.append (p:=p) (τ:=t1) a b
  case pr.snd t1 t2=>exact a8.append (p:=p) (τ:=t2) a b
theorem a8.here {w:bH} {a:Loc}:a8 w e a g [] e a g:=by cases e<;>exact⟨bq,bq,bq⟩
def a8.ty {w:bH}:∀{p:bp bd} {τ c:ao} {m n:Loc} {e f:ak0},a8 w τ m e p c n f->gk τ p=Y c
 |[],τ,_,_,_,_,_,a=>by obtain⟨rfl,_⟩:=a8.gY.1 a;cases τ<;>rfl
 |s::p,τ,_,_,_,_,_,a=>by
  cases τ<;>cases s<;>simp only[a8] at a
  case osl.idx t i=>obtain⟨d,o,r,q,g,h,j,k,b,l⟩:=a;exact l.ty
  case optr.deref t=>obtain⟨d,o,g,h,j,k,b⟩:=a;exact b.ty
  case st.unst t=>exact a8.ty (p:=p) (τ:=t) a
  case pr.fst t1 t2=>exact a8.ty (p:=p) (τ:=t1) a
  case pr.snd t1 t2=>exact a8.ty (p:=p) (τ:=t2) a
theorem a8.at {w:bH}:∀{q:bp bd} {τ r:ao} {g p:Loc} {e h:ak0},a8 w τ g e q r p h->e.length=τ.size->(∀b o,g=Y (b,o)->fC w b o e)->h.length=r.size/\∀b o,p=Y (b,o)->fC w b o h
 |[],τ,_,_,_,_,_,c,n,f=>by grind [a8.gY]
 |s::q,τ,_,g,_,e,_,c,n,f=>by
  cases τ<;>cases s<;>simp only[a8] at c
  case osl.idx t i=>
   obtain⟨b,o,A,z,u,v,k,l,m,x⟩:=c;exact x.at l (λj y d=>by grind)
  case optr.deref t=>
   obtain⟨b,o,u,v,k,l,m⟩:=c;exact m.at k (λj y d=>by grind)
  case st.unst t=>exact a8.at (τ:=t) c n f
  case pr.fst a b=>
   exact a8.at (τ:=a) c (by grind [ao.size]) (λb o d=>(f b o d).take)
  case pr.snd a b=>
   refine a8.at (τ:=b) c (by grind [ao.size]) (λj o d=>?_);cases g with
   |none=>grind
   |some B=>
    simp only[jv,fc,iY] at d;obtain⟨rfl,rfl⟩:=d;exact(f _ _ rfl).drop
theorem a8.JD {w:bH}:∀{τ:ao} {e:X} {s:bp bd} {τf:ao} {l:Loc} {cs:ak0},ga τ e=Y (s,τf)->a8 w τ l cs s τf (l.map λc=>(c.1,c.2+gE τ e)) ((cs.drop (gE τ e)).take τf.size)
 |.pr a f,0,s,τf,l,cs,d=>by simp only[ga,fc,iY] at d;obtain⟨rfl,rfl⟩:=d;simp_all [mm,a8,gE]
 |.pr a f,e+1,s,τf,l,cs,d=>by
  simp only[ga] at d;split at d
  ·rename_i c g;simp only[fc,iY] at d;obtain⟨rfl,rfl⟩:=d;have:=a8.JD (w:=w) (τ:=f) (s:=c.1) (τf:=c.2) (l:=l.map λc=>(c.1,c.2+a.size)) (cs:=cs.drop a.size) g;simp only[a8,gE];rw[ri] at this;cases l with
   |none|some h=>grind
  grind
 |.int _,_,_,_,_,_,b|.bool,_,_,_,_,_,b|.str,_,_,_,_,_,b|.bb _ _,_,_,_,_,_,b|.osl _,_,_,_,_,_,b|.ptr _ _,_,_,_,_,_,b|.optr _,_,_,_,_,_,b|.st _,_,_,_,_,_,b|.nil,_,_,_,_,_,b|.eL,_,_,_,_,_,b=>by cases b
theorem e7.uniq:∀{p:bp bd} {τ:ao} {e:τ.den} {c:ao} {f g:c.den},e7 τ e p c f->e7 τ e p c g->f=g
 |[],τ,_,_,_,_,a,b=>by grind [e7.gY]
 |s::p,τ,_,_,_,_,a,b=>by
  cases τ<;>cases s<;>simp only[e7] at a b
  case osl.idx=>
   obtain⟨i,h,a⟩:=a;obtain⟨j,d,b⟩:=b;rw[h] at d;obtain rfl:=gy d;exact a.uniq b
  case optr.deref=>exact e7.uniq (p:=p) a b
  case st.unst=>exact e7.uniq (p:=p) a b
  case pr.fst=>exact e7.uniq (p:=p) a b
  case pr.snd=>exact e7.uniq (p:=p) a b
def Yields (E:fY) (C:fb) (st:aW) (a:Act) (w:bH) (I:X->Prop) (rt:X->ak0) (fp:X->ak6) (o:bU) (Q:au->bp (X×aT)->Prop):Prop:=
 ∃j d e i g f c,(bT a.eval o).run E.P w=.ok (.value j) d/\hL w d/\(∀b,I b->e b)/\(∀b,e b->I b\/(w.heap.size<=b/\b<d.heap.size))/\xu C st w d e c i g/\c8 (cG e C.B) d (c++st.h) (fA c i rt) (fA c g fp) f j/\Q f c
section
variable {E:fY} {C:fb} {st:aW} {a:Act} {w:bH} {I:X->Prop} {rt:X->ak0} {fp:X->ak6} {o:bU} {Q:au->bp (X×aT)->Prop}
def Yields.pure {v:Value} (d:(bT a.eval o).run E.P w=.ok (.value v) w) (e:c8 (cG I C.B) w st.h rt fp U v) (c:Q U []):Yields E C st a w I rt fp o Q:=
 ⟨v,w,I,rt,fp,U,[],d,.refl w,λ_ b=>b,λ_ b=>.inl b,.nil,e,c⟩
def Yields.wp (t:c6 C st a.tmps w I rt fp) (k:Yields E C st a w I rt fp o Q) {next:Act->bH->Prop} {j:ca->Act->bH->Prop} {f:X} (u:o.dst=Y f) (v:C.ok f) (x:∀b c e d,Q b c->e.defers=a.defers->g0 C ⟨(f,b)::st.g,c++st.h⟩ e.tmps d->next e d):o.wp E.P a w next j:=by
 obtain⟨y,d,i,A,z,b,c,l,m,n,p,q,r,s⟩:=k;unfold alJ;rw[l];show next (a.put o.dst y) d
 rw[u];exact x b c _ _ s bq ⟨i,_,_,(t.ext m n p q).put v r⟩
def mx (h:BinOp) (a:cD) (d:Z) (g:cD) (b:Z):iM:=
 let c (i:Prop) (f:Z):iM:=if a=g then .part Z (λc=>i/\f=c) (λc=>(.val (.int a) c,[])) else .bad
 let e (f:bD):iM:=if a=g then .e9 (.val .bool f) [] else .bad
 match h with
 |.add=>c True (a.wrap (d+b))
 |.sub=>c True (a.wrap (d-b))
 |.mul=>c True (a.wrap (d*b))
 |.quo=>c (b≠0) (a.wrap (d.tdiv b))
 |.rem=>c (b≠0) (d.tmod b)
 |.and=>c True (a.wrap (cn a.bits d&&&cn a.bits b).toNat)
 |.or=>c True (a.wrap (cn a.bits d|||cn a.bits b).toNat)
 |.xor=>c True (a.wrap (cn a.bits d^^^cn a.bits b).toNat)
 |.andNot=>c True (a.wrap (cn a.bits d&&&~~~cn a.bits b).toNat)
 |.shl=>.part Z (λc=>0<=b/\a.wrap (d*2^min b.toNat a.bits)=c) (λc=>(.val (.int a) c,[]))
 |.shr=>.part Z (λc=>0<=b/\d.fdiv (2^min b.toNat a.bits)=c) (λc=>(.val (.int a) c,[]))
 |.eql=>e (d==b)
 |.neq=>e (d !=b)
 |.lss=>e (bz (d<b))
 |.leq=>e (bz (d<=b))
 |.gtr=>e (bz (d>b))
 |.geq=>e (bz (d>=b))
def Ie (c:BinOp) (a b:au):iM:=
 match a,b with
 |.val (.int d) a,.val (.int e) b=>mx c d a e b
 |.val .bool a,.val .bool b=>match c with
  |.eql=>.e9 (.val .bool (a==b)) []
  |.neq=>.e9 (.val .bool (!(a==b))) []
  |_=>.bad
 |_,_=>.bad
theorem We {d:BinOp} {q:bN} {f:cD} {m e:Z} (j:o.op=.binOp d z c h q) (k:a.eval c=.int x m) (l:a.eval h=.int f e) (b:(mx d x m f e).K Q):Yields E C st a w I rt fp o Q:=by
 have i:∀w,(eqGuard d z c h (.int x m) (.int f e)).run E.P w=.ok () w:=λw=>(by simp_all [eqGuard]);have r:d=.shl->Yields E C st a w I rt fp o Q:=(by rintro rfl;simp only[mx] at b;obtain⟨g,⟨n,rfl⟩,b⟩:=b;exact .pure (v:=.int x _) (by simp[bT,j,k,l,i,alK,Op.shift,(aa:¬e<0)]) (.int x _) b);have s:d=.shr->Yields E C st a w I rt fp o Q:=(by rintro rfl;simp only[mx] at b;obtain⟨g,⟨n,rfl⟩,b⟩:=b;exact .pure (v:=.int x _) (by simp[bT,j,k,l,i,alK,Op.shift,(aa:¬e<0)]) (.int x _) b);by_cases p:x=f
 case neg=>
  cases d<;>simp only[mx,p,if_false] at b
  case shl=>grind
  case shr=>grind
  all_goals exact b.elim
 subst p;cases d<;>simp only[mx,cp] at b
 case shl=>grind
 case shr=>grind
 case quo|rem=>
  obtain⟨g,⟨n,rfl⟩,b⟩:=b;exact .pure (v:=.int x _) (by simp_all [bT,alK,Op.intDiv]) (.int x _) b
 case add|sub|mul=>
  obtain⟨g,⟨_,rfl⟩,b⟩:=b;exact .pure (v:=.int x _) (by simp_all [bT,alK,Op.intArith]) (.int x _) b
 case and|or|xor|andNot=>
  obtain⟨g,⟨_,rfl⟩,b⟩:=b;exact .pure (v:=.int x _) (by simp_all [b8,bT,alK,Op.intBits]) (.int x _) b
 all_goals exact .pure (v:=.bool _) (by simp[bT,j,k,l,i,alK,Op.intCmp]) (.bool _) b
def run_equalIn_bool {a:b3} (w:bH) (d:X) (b c:bD) (e:a.underlying z=Y .bool):(amW (d+1) z (.bool b) (.bool c)).run a w=.ok (b==c) w:=by simp[amW,cz e]
theorem run_eql_bool {a:b3} (w:bH) (b c:bD) (d:a.underlying z=Y .bool):(alK .eql z (.bool b) (.bool c)).run a w=.ok (.bool (b==c)) w:=by simp_all [run_equalIn_bool,Op.equal,Op.maxDepth,alK]
theorem run_neq_bool {a:b3} (w:bH) (b c:bD) (d:a.underlying z=Y .bool):(alK .neq z (.bool b) (.bool c)).run a w=.ok (.bool (!(b==c))) w:=by simp_all [run_equalIn_bool,Op.equal,Op.maxDepth,alK]
theorem NI (s:c6 C st a.tmps w I rt fp) {m:BinOp} {A:bN} (y:o.op=.binOp m z c h A) (x:∀i j:bD,(m=.eql\/m=.neq)->(bc st.g c=.val .bool i/\bc st.g h=.val .bool j)->E.P.underlying z=Y .bool) (d:(Ie m (bc st.g c) (bc st.g h)).K Q):Yields E C st a w I rt fp o Q:=by
 have e:=s.bc c;have f:=s.bc h;unfold Ie at d;split at d
 ·rename_i H L J M n p;rw[n] at e;rw[p] at f;obtain⟨b,l⟩:∃b,b=a.eval c:=⟨_,bq⟩;obtain⟨B,k⟩:∃b,b=a.eval h:=⟨_,bq⟩;rw[<-l] at e;rw[<-k] at f;cases e with|val q=>cases f with|val r=>
  obtain⟨_,rfl⟩:=q;obtain⟨_,rfl⟩:=r;exact We y l.symm k.symm d
 ·rename_i i j n p;have k:=x i j;have u:bc st.g c=.val .bool i/\bc st.g h=.val .bool j:=⟨n,p⟩;rw[n] at e;rw[p] at f;obtain⟨b,l⟩:∃b,b=a.eval c:=⟨_,bq⟩;obtain⟨B,t⟩:∃b,b=a.eval h:=⟨_,bq⟩;rw[<-l] at e;rw[<-t] at f;cases e with|val q=>cases f with|val r=>
  obtain⟨_,rfl⟩:=q;obtain⟨_,rfl⟩:=r;have G:a.eval c=.bool i:=l.symm;have F:a.eval h=.bool j:=t.symm;have D:∀w,(eqGuard m z c h (.bool i) (.bool j)).run E.P w=.ok () w:=λw=>(by simp_all [eqGuard]);split at d
  ·have:=k (.inl bq) u;exact .pure (v:=.bool _) (by simp_all [b8,cd,run_eql_bool,bT]) (.bool _) d
  ·have:=k (.inr bq) u;exact .pure (v:=.bool _) (by simp_all [b8,cd,run_neq_bool,bT]) (.bool _) d
  exact d.elim
 exact d.elim
end
end
section
section
variable {E:fY} {C:fb} {st:aW} {a:Act} {w:bH} {I:X->Prop} {rt:X->ak0} {fp:X->ak6} {o:bU} {Q:au->bp (X×aT)->Prop}
theorem c6.notM (c:c6 C st v w I rt fp) {id:X} (e:ay st.h id=Y P):∀a∈fp id,∀b,¬cG I C.B b a:=λa d b f=>by have:=(c.tree id P e).2.2 a d;grind [od]
theorem c6.r8 (d:c6 C st v w I rt fp) {id:X} (f:ay st.h id=Y P) {i:e.den} (l:e7 P.1 P.2 n e i) {c:Loc} (m:a8 w P.1 bv (rt id) n q c g):∃_e:q=e,∃a,a5 (cG I C.B) w e g i a/\qh w c g e.size/\∀j∈a,j∈fp id:=by obtain⟨p,o,_⟩:=d.tree id P f;obtain⟨x,r,a,y,k,s,t,u,_⟩:=JG n (loc:=bv) p (λ_ _ b=>by cases b) o (λ_ _ b=>by cases b) (d.notM f) l;obtain⟨rfl,rfl,rfl⟩:=m.mC k;grind
def c6.afk (d:c6 C st v w I rt fp) {id:X} (i:ay st.h id=Y P) {b:Loc} (f:a8 w P.1 bv (rt id) n e b g):g.length=e.size/\∀a o,b=Y (a,o)->fC w a o g:=f.at (d.tree id P i).1.len (λ_ _ c=>by cases c)
theorem qS {u:eW->X->Prop}:∀{p:bp bd} {τ:ao} {E:Loc} {j:ak0} {m:τ.den} {g:ak6} {c:ao} {F:Loc} {n:ak0},a5 u w τ j m g->a8 w τ E j p (.optr c) F n->∃d o e,n=[.pointer (Y ⟨d,o,bv⟩)]/\e.length=c.size/\fC w d o e
 |[],τ,_,_,_,_,_,_,_,a,b=>by obtain⟨rfl,rfl,rfl⟩:=a8.gY.1 b;obtain⟨d,o,g,e,q,_,t,h,_⟩:=a;grind
 |s::p,τ,_,j,m,g,_,_,_,a,b=>by
  cases τ<;>cases s<;>simp only[a8] at b
  case osl.idx c i=>
   obtain⟨d,o,N,J,e,rfl,r,t,h,l⟩:=b;obtain⟨I,K,f,a⟩:=a;simp only[iC,alh,cf] at f;obtain⟨rfl,rfl,rfl⟩:=f;rcases a with⟨k,_⟩|⟨v,G,B,k,_,aE,O,P,H⟩
   ·cases k
   cases k;obtain⟨z,L,x,y⟩:=H i m[i] (B[i]'(by omega)) ac ac
   obtain rfl:=h.eq x aa;exact qS (p:=p) y l
  case optr.deref c=>
   obtain⟨d,o,e,rfl,t,h,l⟩:=b;obtain⟨v,G,g,z,f,_,M,C,_,D⟩:=a;simp only[iC,ami,fc,alx,cf] at f;obtain⟨rfl,rfl⟩:=f;obtain rfl:=h.eq C aa;exact qS (p:=p) D l
  case st.unst c=>exact qS (p:=p) (τ:=c) a b
  case pr.fst t1 t2=>obtain⟨A,f2,_,q,_⟩:=a;exact qS (p:=p) (τ:=t1) q b
  case pr.snd t1 t2=>obtain⟨A,f2,_,_,r⟩:=a;exact qS (p:=p) (τ:=t2) r b
def hd (tt:bp (bN×ao)) (a:bN):bA ao:=match ay tt a with|some (.bb _ b)=>Y b|_=>bv
def m8 (tt:bp (bN×ao)) (a:bN):bA ao:=match ay tt a with|some (.st b)=>Y b|_=>bv
theorem hd.ok {a:bN} {e:ao} (c:hd E.tt a=Y e):∃d b,E.P.info? a=Y d/\E.P.underlying a=Y (.slice b)/\fv E.P e b:=by
 unfold hd at c;split at c
 ·rename_i j k f;cases c;obtain⟨d,b,g,_,_,_,h,i⟩:=E.ok a _ f;grind
 grind
theorem m8.ok {a:bN} {d:ao} (c:m8 E.tt a=Y d):∃b e,E.P.underlying a=Y (.struct b)/\jt E.P d b.toList 0 e:=by
 unfold m8 at c;split at c
 ·rename_i k f;cases c;obtain⟨_,j,b,e,g,_,_,_,h,i,_⟩:=E.ok a _ f;grind
 grind
def we (tt:bp (bN×ao)) (e:bp (X×aT)) (g:bN) (b:au):iM:=
 match hd tt g with
 |none=>.bad
 |some _=>match b with
  |.val (.bb _ _) a=>.e9 (.val (.int .i64) (a.length:Z)) []
  |.eN (.slice bv 0 0)=>.e9 (.val (.int .i64) (0:Z)) []
  |.ref id d=>match ay e id with
   |some ⟨c,b⟩=>match gk c d with
    |some (.osl f)=>.part (bp f.den) (λa=>e7 c b d (.osl f) a) (λa=>(.val (.int .i64) (a.length:Z),[]))
    |_=>.bad
   |none=>.bad
  |.view _ _ i h=>.e9 (.val (.int .i64) ((h-i:X):Z)) []
  |.app id d c j _=>match ay e id with
   |some ⟨k,b⟩=>.part (bp c.den) (λa=>e7 k b d (.osl c) a) (λa=>(.val (.int .i64) ((a.length+j.length:X):Z),[]))
   |none=>.bad
  |_=>.bad
def yK (f:hd E.tt z=Y e) (g:o.op=.call {callee:=.builtin .len,args:=#[c],argTypes:=#[z]}) (h:a.eval c=.slice t b i):(bT a.eval o).run E.P w=.ok (.value (.int .i64 b)) w:=by obtain⟨k,j,_,d,_⟩:=hd.ok f;simp[bT,g,resolve,invoke,builtin,h,Builtin.len_,cz d,goInt]
theorem ZG (s:c6 C st a.tmps w I rt fp) (j:o.op=.call {callee:=.builtin .len,args:=#[c],argTypes:=#[z]}) (b:(we E.tt st.h z (bc st.g c)).K Q):Yields E C st a w I rt fp o Q:=by
 have d:=s.bc c;unfold we at b;split at b
 ·exact b.elim
 rename_i T i;generalize f:a.eval c=U at d;split at b
 ·rename_i R D u e;rw[e] at d;cases d with|val B=>
  obtain⟨_,p,q,rfl,_⟩:=B;exact .pure (yK i j f) (.int _ _) b
 ·rename_i e;rw[e] at d;cases d;exact .pure (yK i j f) (.int _ _) b
 ·rename_i id t e;rw[e] at d;split at b
  ·rename_i G F l;split at b
   ·rename_i D O;obtain⟨u,m,b⟩:=b;cases d with|ref k n=>
    rw[l] at k;cases k;obtain⟨rfl,H,A,_⟩:=s.r8 l m n;obtain⟨p,q,rfl,_⟩:=A;exact .pure (yK i j f) (.int _ _) b
   exact b.elim
  exact b.elim
 ·rename_i id t P M e;rw[e] at d;cases d with
  |mN|view k n=>exact .pure (yK i j f) (.int _ _) b
 ·rename_i id t G V S e;rw[e] at d;split at b
  ·rename_i ad F l;obtain⟨u,m,b⟩:=b;cases d with|app k N n x J L v=>
   rw[l] at k;cases k;obtain⟨p,q,r,_⟩:=v;simp only[iC,cf] at r;have y:=e7.uniq m x;subst y;rw[r] at f;have:=yK (w:=w) i j f;rw[hq] at this;exact .pure this (.int _ _) b
  exact b.elim
 exact b.elim
def a8.PL {j:Loc} {o a c:X} (d:i<a) (f:g.length=e.size) (h:fC w b (o+i*e.size) g):a8 w (.osl e) j [.slice (Y ⟨b,o,bv⟩) a c] [.idx i] e (Y (b,o+i*e.size)) g:=⟨b,o,a,c,g,bq,d,f,h,a8.here⟩
def a8.Jb {d:Loc} {o:X} (a:g.length=e.size) (c:fC w b o g):a8 w (.optr e) d [.pointer (Y ⟨b,o,bv⟩)] [.deref] e (Y (b,o)) g:=⟨b,o,g,bq,a,c,a8.here⟩
def v9 (
 tt:bp (bN×ao)) (i:bp (X×aT)) (k:bN) (e d:au):iM:=
 match hd tt k with
 |none=>.bad
 |some g=>match d with
  |.val (.int _) d=>match e with
   |.val (.bb m b) n=>bif bi g b then .part b.den (λh=>aq n d=Y h) (λh=>(.val (.ptr m b) (Y h),[])) else .bad
   |.ref id c=>match ay i id with
    |some ⟨f,e⟩=>match gk f c with
     |some (.osl b)=>bif bi g b then .part (bp b.den×X) (λa=>e7 f e c (.osl b) a.1/\d=(a.2:Z)/\a.2<a.1.length) (λa=>(.addr id (c++[.idx a.2]),[])) else .bad
     |_=>.bad
    |none=>.bad
   |.view id c j l=>match ay i id with
    |some ⟨f,e⟩=>match gk f c with
     |some (.osl b)=>bif bi g b then .part (bp b.den×X) (λa=>e7 f e c (.osl b) a.1/\d=(a.2:Z)/\a.2<l-j) (λa=>(.addr id (c++[.idx (j+a.2)]),[])) else .bad
     |_=>.bad
    |none=>.bad
   |_=>.bad
  |_=>.bad
def JZ (l:hd E.tt z=Y q) (n:bi q e=bt) (p:o.op=.indexAddr z h c) {d f g:X} (s:a.eval h=.slice (Y ⟨d,f,bv⟩) i g) (m:a.eval c=.int x b) (u:b<i):(bT a.eval o).run E.P w=.ok (.value (.pointer (Y ⟨d,f+b*e.size,bv⟩))) w:=by obtain⟨v,t,_,j,k⟩:=hd.ok l;have r:=(k.lay n).sizeOf w;have:(0:Z)<=(b:Z)/\(b:Z)<(i:Z):=⟨aa,aa⟩;simp[bT,p,s,m,Instr.indexAt,asIntOf,cz j,this,r,al7];omega
theorem YT (D:c6 C st a.tmps w I rt fp) {A:bS} (N:o.op=.indexAddr z A c) (b:(v9 E.tt st.h z (bc st.g A) (bc st.g c)).K Q):Yields E C st a w I rt fp o Q:=by
 have k:=D.bc A;have M:=D.bc c;unfold v9 at b;split at b
 ·exact b.elim
 rename_i U L;generalize O:a.eval A=d6 at k;generalize P:a.eval c=d7 at M;split at b
 case h_2=>exact b.elim
 rename_i ap R bs;rw[bs] at M;cases M with|val T=>
 obtain⟨_,rfl⟩:=T;split at b
 ·rename_i c2 f y q;cases d:bi U f with
  |false=>rw[d] at b;exact b.elim
  |true=>
   rw[d] at b;obtain⟨V,c1,b⟩:=b;rw[q] at k;cases k with|val T=>
   obtain⟨_,ad,am,rfl,aE,av,S⟩:=T;obtain⟨ax,a4,bl⟩:=Pu c1;rcases S with rfl|⟨B,u,rfl,ce,v⟩
   ·grind
   obtain⟨G,n,p,F⟩:=v _ _ bl;have cv:a.eval c=.int ap (R.toNat:X):=(by rw[P];show alz ap R=_;grind);exact .pure (JZ L d N O cv a4) (.val (τ:=.ptr c2 f) (x:=Y V) (cs:=[.pointer (Y ⟨B,u+R.toNat*f.size,bv⟩)]) ⟨bq,B,_,G,bq,ce,n,p,F⟩) b
 ·rename_i id dg q;split at b
  case h_2=>exact b.elim
  rename_i a0 V j;split at b
  case h_2=>exact b.elim
  rename_i f co;cases d:bi U f with
  |false=>rw[d] at b;exact b.elim
  |true=>
   rw[d] at b;obtain⟨⟨y,e⟩,⟨r,rfl,l⟩,b⟩:=b;simp only at r l b;rw[q] at k;cases k with|ref t s=>
   rw[j] at t;cases t;obtain⟨rfl,bx,i,_⟩:=D.r8 j r s;obtain⟨ad,am,rfl,i⟩:=i;rcases i with⟨_,rfl,_⟩|⟨B,u,H,rfl,_,aE,av,S,v⟩
   ·grind
   obtain⟨G,n,p,F⟩:=v e y[e] (H[e]'(by omega)) ac ac
   exact .pure (JZ L d N O P l) (.addr j (s.append (a8.PL l n p))) b
 ·rename_i id dg m d0 q;split at b
  case h_2=>exact b.elim
  rename_i a0 V j;split at b
  case h_2=>exact b.elim
  rename_i f co;cases d:bi U f with
  |false=>rw[d] at b;exact b.elim
  |true=>
   rw[d] at b;obtain⟨⟨y,e⟩,⟨r,rfl,l⟩,b⟩:=b;simp only at r l b;rw[q] at k;cases k with|mN=>omega|view t s d1 d2 d3=>
   rename_i B u d4 am;rw[j] at t;cases t;obtain⟨a3,bx,i,_⟩:=D.r8 j r s;cases a3;obtain⟨ad,ds,an,i⟩:=i;simp only[iC,alh,cf] at an;obtain⟨rfl,rfl,rfl⟩:=an;rcases i with⟨J,_⟩|⟨dl,d5,H,J,_,aE,av,S,v⟩
   ·cases J
   cases J;have ci:m+e<y.length:=aa;obtain⟨G,n,p,F⟩:=v (m+e) y[m+e] (H[m+e]'(by omega)) ac ac
   have:=JZ (w:=w) L d N O P l;rw[aA aa,(ae:u+m*f.size+e*f.size=u+(m+e)*f.size)] at this;exact .pure this (.addr j (s.append (a8.PL ci n p))) b
 exact b.elim
def a5.pure {h:eW->X->Prop} {w:bH}:∀{τ:ao} {i:ak0} {e:τ.den} {g:ak6},τ.pure=bt->a5 h w τ i e g->g=[]
 |.int _,_,_,_,_,b|.bool,_,_,_,_,b|.str,_,_,_,_,b|.bb _ _,_,_,_,_,b|.ptr _ _,_,_,_,_,b|.nil,_,_,_,_,b=>b.1
 |.st k,_,_,_,c,b=>a5.pure (τ:=k) c b
 |.pr a f,_,_,_,c,b=>by simp only[ao.pure,cL] at c;obtain⟨n,f2,rfl,j,d⟩:=b;rw[a5.pure (τ:=a) c.1 j,a5.pure (τ:=f) c.2 d];rfl
 |.osl _,_,_,_,c,_|.optr _,_,_,_,c,_=>by cases c
 |.fm _ _,_,e,_,_,b=>by
  cases e with
  |none=>exact b.1
  |some o=>obtain⟨f,m,l,_,d,_⟩:=b;exact d
 |.fn _ _,_,_,_,_,b=>b.1
 |.eL,_,_,_,c,_=>by cases c
def wM (d:ao) (e:d.den) (id:X) (c:bp bd) (a:ao):iM:=
 bif a.pure then .part a.den (λb=>e7 d e c a b) (λb=>(.val a b,[])) else .e9 (.ref id c) []
def pi:ao->bD
 |.st _|.pr _ _|.nil|.eL=>br
 |_=>bt
def pM:ao->bD
 |.nil=>bt
 |.pr a b=>pi a&&pM b
 |_=>br
def Bw:(d:ao)->d.den->bp au
 |.pr a c,b=>.val a b.1::Bw c b.2
 |_,_=>[]
def pM.one {τ:ao} (a:pi τ=bt):τ.size=1/\∀cs,eY τ cs=cs.headD undef:=by cases τ<;>first|(cases a;done)|exact⟨bq,λ_=>rfl⟩
def Pk {g:eW->X->Prop} {w:bH} {h:bp (X×aT)} {rt:X->ak0} {fp:X->ak6}:∀{t:ao} {c:ak0} {e:t.den},pM t=bt->a5 g w t c e []->(Bw t e).length=c.length/\∀(b:X) (a:au) (f:Value),(Bw t e)[b]?=Y a->c[b]?=Y f->c8 g w h rt fp a f
 |.nil,c,e,_,j=>by obtain rfl:=j.2;exact⟨bq,λb a f d _=>by cases d⟩
 |.pr a o,c,e,i,j=>by
  simp only[pM,cL] at i;obtain⟨v,f2,r,d,k⟩:=j;obtain⟨rfl,rfl⟩:=aon.1 r.symm;obtain⟨ax,q⟩:=pM.one i.1;have m:=d.len;rw[ax] at d k m;cases c with
  |nil=>cases m
  |cons f c=>
   obtain⟨aE,s⟩:=Pk (t:=o) i.2 k;refine⟨b4 (· +1) aE,λb p u l n=>?_⟩;cases b with
   |zero=>
    cases l;cases n;have:=c8.val (M:=g) (w:=w) (h:=h) (rt:=rt) (fp:=fp) d;rw[q] at this;exact this
   |succ b=>exact s b p u l n
def wF:(t:ao)->t.den->au
 |.fn b t,a=>bif pM t then .eM b (Bw t a) else .val (.fn b t) a
 |t,a=>.val t a
def adO {w:bH} {rt:X->ak0} {fp:X->ak6} {b:e.den} (j:a5 d w e g b []):c8 d w p rt fp (wF e b) (eY e g):=by
 cases e<;>first|exact .val j|skip
 rename_i c e;cases i:pM e with
 |false=>
  have:wF (.fn c e) b=.val (.fn c e) b:=(by simp only[wF,i,bR]);rw[this];exact .val j
 |true=>
  have:wF (.fn c e) b=.eM c (Bw e b):=(by simp only[wF,i,bI]);rw[this];obtain⟨_,o,rfl,f⟩:=j;obtain⟨aE,m⟩:=Pk (h:=p) (rt:=rt) (fp:=fp) i f;exact .eM (by simpa using aE) (λl a n k f=>m l a n k (by simpa using f))
def wg (tt:bp (bN×ao)) (f:bp (X×aT)) (g:bN) (c:au):iM:=
 match ay tt g with
 |none=>.bad
 |some e=>match c with
  |.val (.ptr _ a) (Y i)=>bif bi e a then .e9 (wF a i) [] else .bad
  |.hY h=>bif pi e then .e9 h [] else .bad
  |.addr id b=>match ay f id with
   |some ⟨d,c⟩=>match gk d b with
    |some a=>bif bi e a then wM d c id b a else .bad
    |none=>.bad
   |none=>.bad
  |.ref id b=>match ay f id with
   |some ⟨d,c⟩=>match gk d b with
    |some (.optr a)=>bif bi e a then wM d c id (b++[.deref]) a else .bad
    |_=>.bad
   |none=>.bad
  |_=>.bad
theorem Kr (d:ay E.tt z=Y q) (j:bi q e=bt) (k:o.op=.load z c) (l:a.eval c=.pointer (Y ⟨b,i,bv⟩)) (f:fC w b i g) (h:g.length=e.size):(bT a.eval o).run E.P w=.ok (.value (eY e g)) w:=by have:=LS ((E.ok z q d).lay j) f h;simp_all [bT,apn,amz]
theorem SE (l:c6 C st a.tmps w I rt fp) {id:X} {k:q.den} (j:ay st.h id=Y ⟨q,k⟩) {p:Loc} (d:a8 w q bv (rt id) n e p g) (f:(bT a.eval o).run E.P w=.ok (.value (eY e g)) w) (b:(wM q k id n e).K Q):Yields E C st a w I rt fp o Q:=by
 unfold wM at b;cases c:e.pure with
 |true=>
  rw[c] at b;obtain⟨s,m,b⟩:=b;obtain⟨_,r,i,_⟩:=l.r8 j m d;have:=i.pure c;subst this;exact .pure f (.val i) b
 |false=>
  rw[c] at b;exact .pure f (.ref j d) b
theorem ZN (p:c6 C st a.tmps w I rt fp) (y:o.op=.load z c) (d:(wg E.tt st.h z (bc st.g c)).K Q):Yields E C st a w I rt fp o Q:=by
 have f:=p.bc c;unfold wg at d;split at d
 ·exact d.elim
 rename_i n r;generalize A:a.eval c=u at f;split at d
 ·rename_i a0 m G i;cases e:bi n m with
  |false=>rw[e] at d;exact d.elim
  |true=>
   rw[e] at d;rw[i] at f;cases f with|val U=>
   obtain⟨_,q,O,H,rfl,aE,F,S,T⟩:=U;exact .pure (Kr r e y A S F) (adO T) d
 ·rename_i am i;cases s:pi n with
  |false=>rw[s] at d;exact d.elim
  |true=>
   rw[s] at d;rw[i] at f;cases f with|hY ap L an M=>
   obtain⟨ax,J⟩:=pM.one s;rename_i u q;have:=LS (E.ok z n r) (cs:=[u]) (w:=w) (b:=q) (o:=0) (λD a3 B=>by
    cases D with
    |zero=>cases B;exact L
    |succ D=>cases B) (by rw[ax];rfl)
   have N:(bT a.eval o).run E.P w=.ok (.value u) w:=(by rw[J] at this;simp_all [bT,apn,amz]);exact .pure N M d
 ·rename_i id R i;split at d
  case h_2=>exact d.elim
  rename_i V G k;split at d
  case h_2=>exact d.elim
  rename_i m t;cases e:bi n m with
  |false=>rw[e] at d;exact d.elim
  |true=>
   rw[e] at d;rw[i] at f;cases f with|addr l j=>
   rw[k] at l;cases l;have:=j.ty;rw[t] at this;cases this;obtain⟨aE,F⟩:=p.afk k j;grind [SE,Kr]
 ·rename_i id R i;split at d
  case h_2=>exact d.elim
  rename_i V G k;split at d
  case h_2=>exact d.elim
  rename_i m t;cases e:bi n m with
  |false=>rw[e] at d;exact d.elim
  |true=>
   rw[e] at d;rw[i] at f;cases f with|ref l j=>
   rename_i a4 av ad;rw[k] at l;cases l;have:=j.ty;rw[t] at this;cases this;obtain⟨q,O,H,rfl,v,x⟩:=qS (p.tree id _ k).1 j;exact SE p k (j.append (a8.Jb v x)) (Kr r e y A x v) d
 exact d.elim
def vZ (tt:bp (bN×ao)) (g:bp (X×aT)) (h:bN) (k:au) (c:X):iM:=
 match m8 tt h with
 |none=>.bad
 |some e=>match k with
  |.val (.ptr i (.st a)) (Y l)=>bif bi e a then match r1 a l c with
   |some ⟨j,m⟩=>.e9 (.val (.ptr i j) (Y m)) []
   |none=>.bad
   else .bad
  |.ref id b=>match ay g id with
   |some ⟨f,_⟩=>match gk f b with
    |some (.optr (.st a))=>bif bi e a then match ga a c with
     |some (d,_)=>.e9 (.addr id (b++(.deref::.unst::d))) []
     |none=>.bad
     else .bad
    |_=>.bad
   |none=>.bad
  |.addr id b=>match ay g id with
   |some ⟨f,_⟩=>match gk f b with
    |some (.st a)=>bif bi e a then match ga a c with
     |some (d,_)=>.e9 (.addr id (b++(.unst::d))) []
     |none=>.bad
     else .bad
    |_=>.bad
   |none=>.bad
  |_=>.bad
def JE {g:ao} (m:m8 E.tt z=Y g) (r:bi g e=bt) (u:ga e b=Y (n,q)) (s:o.op=.fieldAddr z c b) {f:X} (v:a.eval c=.pointer (Y ⟨i,f,bv⟩)):(bT a.eval o).run E.P w=.ok (.value (.pointer (Y ⟨i,f+gE e b,bv⟩))) w:=by obtain⟨j,A,k,l⟩:=m8.ok m;obtain⟨h,y,t,d⟩:=Pf (jt.lay r l) u;have x:q.size≠0:=(by have:=d.pos;omega);have p:j[b]?=Y h:=ae;simp[bT,s,v,Instr.fieldAt,cz k,p,amz,fieldPlace,d.sizeOf,x,al7,t]
theorem Yb (H:c6 C st a.tmps w I rt fp) (y:o.op=.fieldAddr z c b) (d:(vZ E.tt st.h z (bc st.g c) b).K Q):Yields E C st a w I rt fp o Q:=by
 have m:=H.bc c;unfold vZ at d;split at d
 ·exact d.elim
 rename_i F v;generalize B:a.eval c=a0 at m;split at d
 ·rename_i U e N r;cases i:bi F e with
  |false=>rw[i] at d;exact d.elim
  |true=>
   rw[i] at d;simp only[bI] at d;split at d
   case h_2=>exact d.elim
   rename_i n ap J;rw[r] at m;cases m with|val am=>
   obtain⟨_,f,j,u,rfl,aE,av,ad,L⟩:=am;obtain⟨t,k⟩:=Pj J;obtain⟨M,an⟩:=Pg (τ:=e) L J;have S:=L.len;simp only[ao.size] at S M an;exact .pure (JE v i k y B) (.val (τ:=.ptr U n) (x:=Y ap) (cs:=[.pointer (Y ⟨f,j+gE e b,bv⟩)]) ⟨bq,f,_,_,bq,aE,ae,ad.drop.take,M⟩) d
 ·rename_i id V r;split at d
  case h_2=>exact d.elim
  rename_i O N q;split at d
  case h_2=>exact d.elim
  rename_i e A;cases i:bi F e with
  |false=>rw[i] at d;exact d.elim
  |true=>
   rw[i] at d;simp only[bI] at d;split at d
   case h_2=>exact d.elim
   rename_i t n k;rw[r] at m;cases m with|ref s p=>
   rw[q] at s;cases s;have:=p.ty;rw[A] at this;cases this;obtain⟨f,j,u,rfl,P,R⟩:=qS (H.tree id _ q).1 p;rename_i T;have D:a8 w (.optr (.st e)) T [.pointer (Y ⟨f,j,bv⟩)] (.deref::.unst::t) n (Y (f,j+gE e b)) ((u.drop (gE e b)).take n.size):=⟨f,j,u,bq,P,R,a8.JD (l:=Y (f,j)) k⟩;exact .pure (JE v i k y B) (.addr q (p.append D)) d
 ·rename_i id V r;split at d
  case h_2=>exact d.elim
  rename_i O N q;split at d
  case h_2=>exact d.elim
  rename_i e A;cases i:bi F e with
  |false=>rw[i] at d;exact d.elim
  |true=>
   rw[i] at d;simp only[bI] at d;split at d
   case h_2=>exact d.elim
   rename_i t n k;rw[r] at m;cases m with|addr s p=>
   rw[q] at s;cases s;have:=p.ty;rw[A] at this;cases this;rename_i f j G;have D:a8 w (.st e) (Y (f,j)) G (.unst::t) n (Y (f,j+gE e b)) ((G.drop (gE e b)).take n.size):=a8.JD (l:=Y (f,j)) k;exact .pure (JE v i k y B) (.addr q (p.append D)) d
 exact d.elim
def ahH (
 tt:bp (bN×ao)) (i:bp (X×aT)) (h:bN) (c:au) (d:X):iM:=
 match m8 tt h with
 |none=>.bad
 |some f=>match c with
  |.val (.st a) k=>bif bi f a then match r1 a k d with
   |some ⟨b,l⟩=>.e9 (.val b l) []
   |none=>.bad
   else .bad
  |.ref id e=>match ay i id with
   |some ⟨g,c⟩=>match gk g e with
    |some (.st a)=>bif bi f a then match ga a d with
     |some (j,b)=>wM g c id (e++(.unst::j)) b
     |none=>.bad
     else .bad
    |_=>.bad
   |none=>.bad
  |_=>.bad
def wx (f:bp (X×aT)) (b:au):iM:=
 match b with
 |.val (.ptr h d) b=>.part d.den (λc=>b=Y c) (λc=>(.val (.ptr h d) (Y c),[]))
 |.ref id a=>match ay f id with
  |some ⟨i,_⟩=>match gk i a with
   |some (.optr _)=>.e9 (.ref id a) []
   |_=>.bad
  |none=>.bad
 |.addr id a=>.e9 (.addr id a) []
 |.eM e g=>.e9 (.eM e g) []
 |_=>.bad
theorem aap (p:c6 C st a.tmps w I rt fp) (M:o.op=.nilCheck c) (b:(wx st.h (bc st.g c)).K Q):Yields E C st a w I rt fp o Q:=by
 have d:=p.bc c;unfold wx at b;generalize N:a.eval c=F at d;split at b
 ·rename_i u l m e;obtain⟨m,rfl,b⟩:=b;rw[e] at d;cases d with|val D=>
  obtain⟨_,f,k,n,rfl,aE,z,A,B⟩:=D;exact .pure (v:=.pointer (Y ⟨f,k,bv⟩)) (by simp_all [bT,eY]) (.val (τ:=.ptr u l) (x:=Y m) (cs:=[.pointer (Y ⟨f,k,bv⟩)]) ⟨bq,f,k,n,bq,aE,z,A,B⟩) b
 ·rename_i id y e;split at b
  case h_2=>exact b.elim
  rename_i G m j;split at b
  case h_2=>exact b.elim
  rename_i l t;rw[e] at d;cases d with|ref q i=>
  rw[j] at q;cases q;have:=i.ty;rw[t] at this;cases this;obtain⟨f,k,n,rfl,H,J⟩:=qS (p.tree id _ j).1 i;exact .pure (v:=.pointer (Y ⟨f,k,bv⟩)) (by simp_all [bT,eY]) (.ref (τ':=.optr l) j i) b
 ·rename_i id y e;rw[e] at d;cases d with|addr j i=>
  exact .pure (by simp_all [bT]) (.addr j i) b
 ·rename_i L O e;rw[e] at d;cases d with|eM s r=>
  exact .pure (by simp_all [bT]) (.eM s r) b
 exact b.elim
def s7 (d:bA au) (b a:X):Prop:=
 match d with
 |none=>a=b
 |some (.val (.int _) c)=>c=(a:Z)
 |some _=>b7
def wW (tt:bp (bN×ao)) (k:bp (X×aT)) (j:bN) (d:au) (g f:bA au):iM:=
 match hd tt j with
 |none=>.bad
 |some h=>match d with
  |.val (.bb l b) e=>bif bi h b then
   .part ew (λa=>s7 g 0 a.1/\s7 f e.length a.2/\a.1<=a.2/\a.2<=e.length) (λa=>(.val (.bb l b) ((e.take a.2).drop a.1),[])) else .bad
  |.ref id c=>match ay k id with
   |some ⟨i,d⟩=>match gk i c with
    |some (.osl b)=>bif bi h b then
     .part (bp b.den×X×X) (λa=>e7 i d c (.osl b) a.1/\s7 g 0 a.2.1/\s7 f a.1.length a.2.2/\a.2.1<=a.2.2/\a.2.2<=a.1.length) (λa=>(.view id c a.2.1 a.2.2,[])) else .bad
    |_=>.bad
   |none=>.bad
  |_=>.bad
def Ii (a:Act) (e:akX) (c b:X):Prop:=
 match e with
 |none=>b=c
 |some f=>∃d,a.eval f=.int d b
theorem LZ (p:hd E.tt z=Y q) (s:bi q e=bt) {j f:akX} (u:o.op=.slice z c j f bv) {g d:X} (x:a.eval c=.slice t g d) (k:Ii a j 0 i) (h:Ii a f g b) (D:i<=b) (F:b<=d):(bT a.eval o).run E.P w=.ok (.value (.slice (if d=i then t else t.map (·.add (i*e.size))) (b-i) (d-i))) w:=by
 obtain⟨H,B,_,m,n⟩:=hd.ok p;have v:=(n.lay s).sizeOf w;have ax:(0:Z)<=(b:Z)/\(b:Z)<=(d:Z):=⟨aa,aa⟩;have C:(0:Z)<=(i:Z)/\(i:Z)<=(b:Z):=⟨aa,aa⟩;have l:(amX bt g d (j.map a.eval) (f.map a.eval) bv).run E.P w=.ok (i,b,d) w:=by
  cases j with
  |none=>
   obtain rfl:i=0:=k;cases f with
   |none=>obtain rfl:b=g:=h;simp[amX]
   |some A=>obtain⟨y,r⟩:=h;simp_all [amX,aoo,asIntOf]
  |some J=>
   obtain⟨I,G⟩:=k;cases f with
   |none=>obtain rfl:b=g:=h;simp_all [amX,aoo,asIntOf]
   |some A=>
    obtain⟨y,r⟩:=h;simp_all [amX,aoo,asIntOf]
 simp[bT,u,x,Instr.sliceAt,Instr.slice,cz m,l,v]
theorem xP (h:c6 C st a.tmps w I rt fp) {d:akX} (c:s7 (d.map (bc st.g)) b i):Ii a d b i:=by
 cases d with
 |none=>exact c
 |some f=>
  have:=h.bc f;simp only[jv,s7] at c;split at c
  ·grind
  ·rename_i k m e;simp only[fc] at e;rw[e] at this;subst c;generalize j:a.eval f=n at this;cases this with|val l=>obtain⟨_,rfl⟩:=l;exact⟨k,j⟩
  grind
theorem afV (e:c6 C st a.tmps w I rt fp) {M y:akX} (A:o.op=.slice z c M y bv) (b:(wW E.tt st.h z (bc st.g c) (M.map (bc st.g)) (y.map (bc st.g))).K Q):Yields E C st a w I rt fp o Q:=by
 have r:=e.bc c;unfold wW at b;split at b
 ·exact b.elim
 rename_i P v;generalize F:a.eval c=co at r;split at b
 ·rename_i ad i G u;cases f:bi P i with
  |false=>rw[f] at b;exact b.elim
  |true=>
   rw[f] at b;obtain⟨⟨d,m⟩,⟨j,k,l,s⟩,b⟩:=b;simp only at j k l s b;rw[u] at r;cases r with|val ap=>
   obtain⟨_,R,q,rfl,aE,N,O⟩:=ap;have t:=LZ (w:=w) v f A F (xP e j) (xP e k) l aa;have V:((G.take m).drop d).length=m-d:=ae;refine .pure t (.val (τ:=.bb ad i) (x:=(G.take m).drop d) (cs:=[_]) ⟨bq,_,q-d,by rw[V],aa,?_,?_⟩) b
   ·intro bl;by_cases bs:q=d
    ·omega
    simp_all
   by_cases bx:m=d
   ·grind
   right;rcases O with rfl|⟨p,n,rfl,S,an⟩
   ·grind
   refine⟨p,n+d*i.size,by rw[aA aa];simp[al7],S,λci av y=>?_⟩;grind
 ·rename_i id am u;split at b
  case h_2=>exact b.elim
  rename_i a0 av D;split at b
  case h_2=>exact b.elim
  rename_i i ce;cases f:bi P i with
  |false=>rw[f] at b;exact b.elim
  |true=>
   rw[f] at b;obtain⟨⟨G,d,m⟩,⟨H,j,k,l,s⟩,b⟩:=b;simp only at H j k l s b;rw[u] at r;cases r with|ref L J=>
   rw[D] at L;cases L;obtain⟨rfl,a3,B,_⟩:=e.r8 D H J;obtain⟨R,q,rfl,B⟩:=B;rcases B with⟨rfl,rfl,rfl,_⟩|⟨p,n,a4,rfl,_,aE,N,O,an⟩
   ·have T:m=0:=ae;subst T;have U:d=0:=aa;subst U;exact .pure (LZ (w:=w) v f A F (xP e j) (xP e k) (bg _) (bg _)) (.mN id am) b
   have t:=LZ (w:=w) v f A F (xP e j) (xP e k) l aa;have:(if q=d then Y (⟨p,n,bv⟩:Addr) else(Y (⟨p,n,bv⟩:Addr)).map (·.add (d*i.size)))=Y ⟨p,if q=d then n else n+d*i.size,bv⟩:=(by grind [al7]);rw[this] at t;exact .pure t (.view D J l s N) b
 exact b.elim
end
end
section
def jl:(i:ao)->ak0->bA i.den
 |.int d,b=>match b with
  |[.int e n]=>if d=e then Y n else bv
  |_=>bv
 |.bool,b=>match b with
  |[.bool c]=>Y c
  |_=>bv
 |.str,b=>match b with
  |[.string s]=>Y s
  |_=>bv
 |.bb _ _,b=>match b with
  |[.slice bv 0 0]=>Y []
  |_=>bv
 |.osl _,b=>match b with
  |[.slice bv 0 0]=>Y []
  |_=>bv
 |.ptr _ _,b=>match b with
  |[.pointer bv]=>Y bv
  |_=>bv
 |.st f,b=>jl f b
 |.pr a c,b=>match jl a (b.take a.size),jl c (b.drop a.size) with
  |some g,Y h=>Y (g,h)
  |_,_=>bv
 |.nil,b=>match b with
  |[]=>Y ()
  |_=>bv
 |.optr _,_|.eL,_|.mp _,_|.fm _ _,_|.fn _ _,_=>bv
theorem qy {M:eW->X->Prop} {w:bH}:∀{τ:ao} {d:ak0} {c:τ.den},jl τ d=Y c->a5 M w τ d c []
 |.int j,d,c,b=>by
  simp only[jl] at b;split at b
  ·split at b
   ·rename_i f;cases b;subst f;exact⟨bq,bq⟩
   grind
  grind
 |.bool,d,c,b=>by simp only[jl] at b;split at b<;>cases b;exact⟨bq,bq⟩
 |.str,d,c,b=>by simp only[jl] at b;split at b<;>cases b;exact⟨bq,bq⟩
 |.bb _ _,d,c,b=>by simp only[jl] at b;split at b<;>cases b;exact⟨bq,bv,0,bq,bg _,λ_=>rfl,.inl bq⟩
 |.osl _,d,c,b=>by simp only[jl] at b;split at b<;>cases b;exact⟨bv,0,bq,.inl ⟨bq,bq,bq,bq⟩⟩
 |.ptr _ _,d,c,b=>by simp only[jl] at b;split at b<;>cases b;exact⟨bq,bq⟩
 |.st i,d,c,b=>qy (τ:=i) (by grind [jl])
 |.pr a e,d,c,b=>by
  simp only[jl] at b;split at b
  ·rename_i c k g h;cases b;exact⟨[],[],bq,qy (τ:=a) g,qy (τ:=e) h⟩
  grind
 |.nil,d,c,b=>by simp only[jl] at b;split at b<;>cases b;exact⟨bq,bq⟩
 |.optr _,d,c,b|.eL,d,c,b|.mp _,d,c,b|.fm _ _,d,c,b|.fn _ _,d,c,b=>by grind [jl]
theorem Pl (d:X):∀(e:ak0) (b:X) (a:akY),let f:=(e.zipIdx b).foldl (λa (h:Value×X)=>a.setIfInBounds (d+h.2) h.1) a
 f.size=a.size/\(∀c,c<d+b\/d+b+e.length<=c->f[c]?=a[c]?)/\(d+b+e.length<=a.size->∀c g,e[c]?=Y g->f[d+b+c]?=Y g)
 |[],b,a=>⟨bq,λ_ _=>rfl,λ_ c g i=>by grind⟩
 |x::e,b,a=>by obtain⟨j,k,l⟩:=Pl d e (b+1) (a.setIfInBounds (d+b) x);grind [List.zipIdx_cons]
theorem Br (k:X->bA ew):∀(j:bp (X×Value)) (c:akY),(∀a∈j,∃f b,k a.1=Y (f,b)/\a.2.cells.size=b/\f+b<=c.size)->(j.Pairwise λa g=>∀o b m q,k a.1=Y (o,b)->k g.1=Y (m,q)->o+b<=m\/m+q<=o)->∃g,apo k c j=Y g/\g.size=c.size/\(∀d,(∀a∈j,∀o b,k a.1=Y (o,b)->d<o\/o+b<=d)->g[d]?=c[d]?)/\(∀a∈j,∀o b,k a.1=Y (o,b)->∀d e,a.2.cells[d]?=Y e->g[o+d]?=Y e)
 |[],c,_,_=>⟨c,bq,bq,λ_ _=>rfl,λa h=>by cases h⟩
 |(i,e)::j,c,v,r=>by
  obtain⟨f,b,t,x,D⟩:=v (i,e) ac;simp only at t x;rw[ns] at r;have w:e.cells.zipIdx.foldl (λl (a:Value×X)=>l.setIfInBounds (f+a.2) a.1) c=(e.cells.toList.zipIdx 0).foldl (λl (a:Value×X)=>l.setIfInBounds (f+a.2) a.1) c:=(by rw[<-Array.foldl_toList,Array.toList_zipIdx]);obtain⟨n,f2,p⟩:=Pl f e.cells.toList 0 c;rw[<-w] at n f2 p;simp only[Array.length_toList] at f2 p;generalize A:e.cells.zipIdx.foldl (λl (a:Value×X)=>l.setIfInBounds (f+a.2) a.1) c=u at n f2 p;obtain⟨g,E,y,z,aU⟩:=Br k j u (λa h=>by
   grind) r.2
  refine⟨g,?_,by rw[y,n],λd s=>?_,λa h m q B d F C=>?_⟩
  ·grind [apo,decide]
  ·rw[z d (λa h=>s a (ht _ h)),f2 d (by have:=s (i,e) ac f b t;omega)]
  rcases gn.1 h with rfl|h
  ·grind
  grind
section
variable {E:fY} {C:fb} {st:aW} {a:Act} {w:bH} {I:X->Prop} {rt:X->ak0} {fp:X->ak6} {o:bU} {Q:au->bp (X×aT)->Prop}
theorem fC.alloc {w:bH} {c:akY} {e:bN} {o:X} {d:ak0} (f:∀a b,d[a]?=Y b->c[o+a]?=Y b):fC (w.alloc (.cells c e)) w.heap.size o d:=λa b g=>by simp_all
theorem jb.alloc {w:bH} {a:akY} {c:bN} {d b:X} (e:b<=a.size):jb (w.alloc (.cells a c)) w.heap.size d b:=λg _ f=>by grind [World.cell?_alloc_new,World.frozen?_alloc_new]
theorem Yields.new {d:X} {t:aT} {cs:ak0} {f:ak6} {cells:akY} {T:bN} (k:ay st.h d=bv) (e:c6 C st a.tmps w I rt fp) (n:(bT a.eval o).run E.P w=.ok (.value R) (w.alloc (.cells cells T))) (q:R=eY t.1 cs) (p:a5 (cG I C.B) (w.alloc (.cells cells T)) t.1 cs t.2 f) (i:∀c∈f,c=w.heap.size) (l:f.Nodup) (m:Q (.ref d []) [(d,t)]):Yields E C st a w I rt fp o Q:=by
 refine⟨R,_,I,λ_=>cs,λ_=>f,.ref d [],[(d,t)],n,.alloc w _,λ_ b=>b,λ_ b=>.inl b,.one k p l (λc g=>?_),?_,m⟩
 ·rw[i c g];exact⟨bg _,ac,λb=>by have:=e.ib _ (.inl b);omega⟩
 rw[q];have j:ay ([(d,t)]++st.h) d=Y t:=(by rw[zV,eX,aB bq]);refine .ref (t:=t) (τ':=t.1) (loc:=bv) j ?_;grind [a8.here,eX,fA]
def wj (tt:bp (bN×ao)) (g:bp (X×ao)) (h:bp (X×aT)) (b:X) (f:bN) (e d:au):iM:=
 match hd tt f,ay g b,ay h b with
 |some i,Y (.osl c),bv=>match np c,e,d with
  |some j,.val (.int _) e,.val (.int _) d=>bif bi i c&&b5 c.size 2000 then
   .part ew (λa=>e=(a.1:Z)/\d=(a.2:Z)/\a.1<=a.2/\a.2<=h1) (λa=>(.ref b [],[(b,⟨.osl c,bJ a.1 j⟩)])) else .bad
  |_,_,_=>.bad
 |_,_,_=>.bad
theorem ZY (a:akY) (d b c:X) (e:Value) (_hz:0<a.size) (h:a[c]?=Y e) (g:b<d):(aop a (d*a.size))[b*a.size+c]?=Y e:=by have i:c<a.size:=(CT.1 h).1;have f:(b+1)*a.size<=d*a.size:=iX _ g;rw[kL,kM] at f;grind [amY,Nat.add_mul_mod_self_right,Nat.mod_eq_of_lt,aop]
theorem Z0 (p:c6 C st a.tmps w I rt fp) {m:bS} (V:o.op=.makeSlice z m c) (e:(wj E.tt l st.h b z (bc st.g m) (bc st.g c)).K Q):Yields E C st a w I rt fp o Q:=by
 have r:=p.bc m;have q:=p.bc c;unfold wj at e;split at e
 case h_2=>exact e.elim
 rename_i bx v R co U;split at e
 case h_2=>exact e.elim
 rename_i ci a3 d1 a0 d0 an J H;cases j:(bi bx v&&b5 v.size 2000) with
 |false=>rw[j] at e;exact e.elim
 |true=>
  rw[j] at e;simp only[cL] at j;obtain⟨⟨n,i⟩,⟨rfl,rfl,M,A⟩,e⟩:=e;simp only at M A e;have dg:=g8 j.2;rw[J] at r;rw[H] at q;generalize am:a.eval m=d5 at r;generalize ad:a.eval c=d4 at q;cases r with|val bl=>cases q with|val bs=>
  obtain⟨_,rfl⟩:=bl;obtain⟨_,rfl⟩:=bs;obtain⟨ap,x,_,N,O⟩:=hd.ok R;have D:=O.lay j.1;obtain⟨t,k,aE,a4,d2,G⟩:=zz D an;obtain⟨ds,_,u,_⟩:=D.info;have y:=u.info;rw[aE] at y;cases y;have F:k.cells.size=v.size:=(by have:=(G (cG I C.B) w).len;omega);have S:(t.bytes:Z)*(i:Z)<=281474976710656:=(by have:t.bytes*i<=48000*h1:=mV (by have:=u.bytes;omega) A;grind [anB,h1]);have s:=run_make (P:=E.P) w z x t k N aE a4 a3 a0 (n:Z) (i:Z) aa aa S (by grind [h1]);simp only[gg,u.size] at s;rw[<-F] at s;refine .new (d:=b) (cells:=aop k.cells (i*k.cells.size)) (T:=x) (cs:=[.slice (Y ⟨w.heap.size,0,bv⟩) n i]) (f:=[w.heap.size]) U p ?_ bq ?_ ac ac e
  ·simp[bT,V,am,ad,eY,s]
  refine⟨Y ⟨w.heap.size,0,bv⟩,i,ac,.inr ⟨w.heap.size,0,bJ n [],bq,ac,ac,ae,jb.alloc (by grind [size_madeCells]),λav ce L dl cv=>?_⟩⟩;have c2:av<n:=ae;obtain rfl:ci=ce:=ae;obtain rfl:[]=L:=ae;refine⟨k.cells.toList,aa,fC.alloc (λap d3 c1=>?_),G _ _⟩;rw[nv,<-F];grind [ZY]
def xE (tt:bp (bN×ao)) (d:bp (X×ao)) (e:bp (X×aT)) (a:X) (c:bN):iM:=
 match ay tt c,ay d a,ay e a with
 |some f,Y b,bv=>match np b with
  |some g=>bif bi f b then .e9 (.ref a []) [(a,⟨.optr b,g⟩)] else .bad
  |none=>.bad
 |_,_,_=>.bad
theorem Yields.box {i:e.den} {cs:ak0} (q:ay st.h b=bv) (j:c6 C st a.tmps w I rt fp) (_hT:fv E.P e z) (s:(bT a.eval o).run E.P w=.ok (.value (.pointer (Y ⟨w.heap.size,0,bv⟩))) (w.alloc (.cells cs.toArray z))) (u:∀l,(∀g c,cG I C.B g c->eF w l c)->a5 (cG I C.B) l e cs i []) (r:Q (.ref b []) [(b,⟨.optr e,i⟩)]):Yields E C st a w I rt fp o Q:=by have m:∀g c,cG I C.B g c->eF w (w.alloc (.cells cs.toArray z)) c:=λg c n=>.of_heap ((hL.alloc w _).heap c (j.ib c (od n)));have k:=u _ m;have p:=k.len;refine .new (d:=b) (t:=⟨.optr e,i⟩) (cs:=[.pointer (Y ⟨w.heap.size,0,bv⟩)]) (f:=[w.heap.size]) q j s bq ⟨w.heap.size,0,[],cs,bq,bq,p,fC.alloc (λx y v=>by grind),jb.alloc ae,k⟩ ac ac r
theorem VP (g:c6 C st a.tmps w I rt fp) (k:o.op=.alloc z) (c:(xE E.tt l st.h b z).K Q):Yields E C st a w I rt fp o Q:=by
 unfold xE at c;split at c
 case h_2=>exact c.elim
 rename_i f q i s j;split at c
 case h_2=>exact c.elim
 rename_i x m;cases d:bi f q with
 |false=>rw[d] at c;exact c.elim
 |true=>
  rw[d] at c;have e:=(E.ok z f i).lay d;obtain⟨t,r,aE,n,u,p⟩:=zz e m;refine .box (cs:=r.cells.toList) j g e ?_ (λv _=>p _ _) c;simp[bT,k,Instr.alloc,alL,alN,aE,n,newVar,alU]
def Ai (tt:bp (bN×ao)) (e:bp (X×aT)) (a:X) (d:bN) (b:au):iM:=
 match ay tt d,ay e a with
 |some f,bv=>match b with
  |.val c b=>bif bi f c then .e9 (.ref a []) [(a,⟨.optr c,b⟩)] else .bad
  |_=>.bad
 |_,_=>.bad
theorem Wo (j:c6 C st a.tmps w I rt fp) (t:o.op=.box z c) (d:(Ai E.tt st.h b z (bc st.g c)).K Q):Yields E C st a w I rt fp o Q:=by
 have f:=j.bc c;unfold Ai at d;split at d
 case h_2=>exact d.elim
 rename_i l r s;split at d
 case h_2=>exact d.elim
 rename_i x B p;cases e:bi l x with
 |false=>rw[e] at d;exact d.elim
 |true=>
  rw[e] at d;rw[p] at f;generalize u:a.eval c=y at f;cases f with|val i=>
  rename_i m;have k:=(E.ok z l r).lay e;refine .box (cs:=m) s j k ?_ (λA q=>i.mono (λv n e=>⟨e,q v n e⟩) ac) d;simp[bT,t,u,anC,newVar,alU,pb k i.len i.one]
def coe (a:ao) (b:au):bA a.den:=
 match b with
 |.val d b=>if h:d=a then Y (h▸b) else bv
 |.eN c=>jl a c.cells.toList
 |_=>bv
def An (a:ao):bp au->bA (bp a.den)
 |[]=>Y []
 |x::c=>match coe a x,An a c with
  |some d,Y b=>Y (d::b)
  |_,_=>bv
theorem Iu (h:fv E.P e z) (c:c8 d w p rt fp U R) {f:e.den} (a:coe e U=Y f):a5 d w e R.cells.toList f []:=by
 unfold coe at a;split at a
 ·rename_i j i;split at a
  ·rename_i g;subst g;cases a;cases c with|val b=>
   rw[pb h b.len b.one];exact b
  grind
 ·cases c;exact qy a
 grind
def wT:bp (X×bS)->X->bD
 |[],_=>bt
 |q::b,a=>bL q.1 a&&wT b (a+1)
def xQ (tt:bp (bN×ao)) (g:bp (X×ao)) (i:bp (X×aT)) (h:bS->au) (b:X) (f:bN) (d:X) (c:bp (X×bS)):iM:=
 match hd tt f,ay i b with
 |some e,bv=>
  let a:=match ay g b with|some (.osl a)=>a|_=>e
  bif bi e a&&b5 a.size 2000&&b5 d 1000&&wT c 0&&bL c.length d then
   match An a (c.map λj=>h j.2) with
   |some k=>.e9 (.ref b []) [(b,⟨.osl a,k⟩)]
   |none=>.bad
  else .bad
 |_,_=>.bad
theorem Ok {d:ao}:∀{c:bp au} {b:bp d.den},An d c=Y b->b.length=c.length/\∀(e:X) (f:d.den),b[e]?=Y f->∃y:au,c[e]?=Y y/\coe d y=Y f
 |[],b,a=>by cases a;grind
 |y::c,b,a=>by
  simp only[An] at a;split at a
  ·rename_i l k j g;cases a;obtain⟨h,i⟩:=Ok g;grind
  grind
theorem sq:∀{e:bp (X×bS)} {d:X},wT e d=bt->∀(a:X) (b:X×bS),e[a]?=Y b->b.1=d+a
 |[],_,_,a,b,c=>by grind
 |x::e,d,c,a,b,f=>by
  simp only[wT,cL] at c;cases a with
  |zero=>simp_all
  |succ a=>have:=sq c.2 a b ae;omega
theorem Ws (G:c6 C st a.tmps w I rt fp) {j:bX (X×bS)} (d0:o.op=.buildSlice z b j) (k:(xQ E.tt l st.h (bc st.g) i z b j.toList).K Q):Yields E C st a w I rt fp o Q:=by
 unfold xQ at k;split at k
 case h_2=>exact k.elim
 rename_i a0 cv c1;generalize fr:(match ay l i with|some (.osl e)=>e|_=>a0)=e at k;simp only at k;cases n:(bi a0 e&&b5 e.size 2000&&b5 b 1000&&wT j.toList 0&&bL j.toList.length b) with
 |false=>rw[n] at k;exact k.elim
 |true=>
  rw[n] at k;simp only[cL] at n;obtain⟨⟨⟨⟨a4,A⟩,D⟩,F⟩,O⟩:=n;have A:=g8 A;have D:=g8 D;have O:j.toList.length=b:=fN O;simp only[bI] at k;split at k
  case h_2=>exact k.elim
  rename_i r d5;obtain⟨am,M,_,ci,co⟩:=hd.ok cv;have u:=co.lay a4;obtain⟨J,d9,an,_⟩:=u.info;have fl:=u.pos;obtain⟨bl,bs⟩:=Ok d5;simp only[di] at bl;have d4:r.length=b:=aa;have eq:b*e.size<=16777216:=(by have:b*e.size<=1000*2000:=mV D A;omega);have R:∀(c:X) (m:X×bS),j.toList[c]?=Y m->∃p:e.den,r[c]?=Y p/\a5 (cG I C.B) w e (a.eval m.2).cells.toList p []:=(by intro c m v;have dl:c<r.length:=ae;obtain⟨f6,ax,x⟩:=bs c r[c] ac;rw[jQ,v] at ax;simp only[jv,fc] at ax;subst ax;exact⟨r[c],ac,Iu u (G.bc m.2) x⟩);obtain⟨ad,c2,dg⟩:∃a3:akY,(b*e.size=0->a3=#[])/\(b*e.size≠0->∃s,(alL M).run E.P w=.ok s w/\a3=s.cells):=by
   by_cases q:b*e.size=0
   ·simp_all
   obtain⟨s,_,d7⟩:=fv.JW u;exact⟨s.cells,λk=>absurd k q,λ_=>⟨s,by simp[alL,alN,an.info,d7 J an.info],bq⟩⟩
  obtain⟨ap,av,f0,f1,aU⟩:=Br (λJ=>Y (J*e.size,e.size)) (j.toList.map λm=>(m.1,a.eval m.2)) ((Array.range (b*e.size)).map (ad[· %ad.size]!)) (by
   intro m d2;obtain⟨fT,d1,rfl⟩:=e1.1 d2;obtain⟨c,v,rfl⟩:=hV.1 d1;have y:j.toList[c]?=Y j.toList[c]:=ac;obtain⟨p,_,H⟩:=R c _ y;have ek:=sq F c _ y;have:(c+1)*e.size<=b*e.size:=iX _ aa;rw[kL,kM] at this;refine⟨_,_,bq,by have:=H.len;omega,?_⟩;grind) (by
   rw[it];intro c L v ds dl ft f3 fz f4 ax x;simp only[oE,fc,iY] at ax x;simp only[di] at v ds;have bx:=sq F c j.toList[c] ac;have f2:=sq F L j.toList[L] ac;obtain⟨rfl,rfl⟩:=ax;obtain⟨rfl,rfl⟩:=x;left;rw[bx,f2];have:(0+c+1)*e.size<=(0+L)*e.size:=iX _ aa;grind)
  have fn:ap.size=b*e.size:=ae;refine .new (d:=i) (t:=⟨.osl e,r⟩) (cells:=ap) (T:=M) (cs:=[.slice (Y ⟨w.heap.size,0,bv⟩) b b]) (f:=[w.heap.size]) c1 G ?_ bq ?_ ac ac k
  ·have d3:=u.sizeOf w;have ex:¬(16777216<b*e.size):=aa;have S:(anD (λp=>(p.fst,a.eval p.snd)) j).toList=j.toList.map λm=>(m.1,a.eval m.2):=ac;simp only[bT,d0,Instr.buildSlice,b8,cz ci,cd,d3];rw[aA aa];by_cases q:b*e.size=0
   ·rw[aB q];obtain rfl:=c2 q;rw[S];simp only[b8,alp,cd,av,alU,newObj];rfl
   rw[aA q];obtain⟨s,d6,rfl⟩:=dg q;rw[S];simp only[b8,alp,cd,d6,av,alU,newObj];rfl
  refine⟨Y ⟨w.heap.size,0,bv⟩,b,by rw[d4],.inr ⟨w.heap.size,0,bJ b [],bq,ac,ae,ae,jb.alloc aa,λc p ce H el=>?_⟩⟩;have v:c<b:=ae;obtain rfl:[]=ce:=ae;have y:j.toList[c]?=Y (j.toList[c]'(by omega)):=by simp
  obtain⟨f5,V,U⟩:=R c _ y;rw[H] at V;obtain rfl:=gy V;refine⟨_,U.len,fC.alloc (λam d8 em=>?_),U.mono (λfs N n=>⟨n,.of_heap ((hL.alloc w _).heap N (G.ib N (od n)))⟩) ac⟩;have:=aU (j.toList[c].1,a.eval j.toList[c].2) (e1.2 ⟨j.toList[c],cK _,bq⟩) _ _ rfl am d8 ae;grind [sq]
end
end
section
def mH (a:bp (X×bS)) (b:X):akX:=ay a b
def qP (
 g:bS->au) (e:bp (X×bS)):ao->X->bA aT
 |.pr a h,d=>
  match(match mH e d with
   |none=>match np a with
    |some j=>Y (⟨a,j⟩:aT)
    |none=>bv
   |some c=>match g c with
    |.val f b=>bif bi a f then Y ⟨f,b⟩ else bv
    |.eN i=>match jl a i.cells.toList with
     |some b=>Y ⟨a,b⟩
     |none=>bv
    |_=>bv),qP g e h (d+1) with
  |some c,Y b=>Y ⟨.pr c.1 b.1,(c.2,b.2)⟩
  |_,_=>bv
 |.nil,_=>Y ⟨.nil,()⟩
 |_,_=>bv
def m7:bp (X×bS)->X->bD
 |[],_=>bt
 |q::b,a=>b5 a q.1&&m7 b (q.1+1)
def gX:ao->X
 |.pr _ a=>gX a+1
 |_=>0
theorem J0:∀{e:bp (X×bS)} {d:X},m7 e d=bt->∀b∈e,d<=b.1
 |[],_,_,b,a=>by cases a
 |x::e,d,a,b,c=>by
  simp only[m7,cL] at a;rcases gn.1 c with rfl|c
  ·simp_all
  have:=J0 a.2 b c;have:=g8 a.1;omega
def J2:∀{b:bp (X×bS)} {d:X},m7 b d=bt->b.Pairwise λc f=>c.1<f.1
 |[],_,_=>amZ
 |x::b,d,a=>by simp only[m7,cL] at a;exact aqF (λc e=>by have:=J0 a.2 c e;omega) (J2 a.2)
theorem BG {e:Type}:∀{d:bp (X×e)} {b:X} {c:e},ay d b=Y c->(b,c)∈d
 |[],_,_,a=>by cases a
 |(f,v0)::r,b,c,a=>by
  rw[eX] at a;split at a
  ·grind
  exact ht _ (BG a)
def Kq {g:Type}:∀{e:bp (X×g)} {d:X},ay e d=bv->∀c∈e,c.1≠d
 |[],_,_,c,a=>by cases a
 |(h,v0)::r,d,b,c,a=>by
  rw[eX] at b;split at b
  ·cases b
  rename_i f;rcases gn.1 a with rfl|a
  ·exact f
  exact Kq b c a
theorem sg {j:b3}:∀{u:ao} {l:bp aly} {e:X} {f:ak0},jt j u l e f->∀d,d<gX u->∃h i,ga u d=Y (h,i)
 |.pr a g,k::m,e,f,c,0,_=>⟨_,_,bq⟩
 |.pr a g,k::m,e,f,c,d+1,b=>by obtain⟨h,i,n⟩:=sg (u:=g) c.2.2.2.2 d (by grind [gX]);grind [ga]
 |.pr _ _,[],_,_,c,_,_=>c.elim
 |.int _,_,_,_,_,_,b|.bool,_,_,_,_,_,b|.str,_,_,_,_,_,b|.bb _ _,_,_,_,_,_,b|.osl _,_,_,_,_,_,b|.ptr _ _,_,_,_,_,_,b|.optr _,_,_,_,_,_,b|.st _,_,_,_,_,_,b|.nil,_,_,_,_,_,b|.eL,_,_,_,_,_,b=>by grind [gX]
theorem v2:∀{u:ao} {e c:X} {s s':bp bd} {t t':ao},ga u e=Y (s,t)->ga u c=Y (s',t')->e<c->gE u e+t.size<=gE u c
 |.pr a f,0,c+1,s,s',t,t',b,d,_=>by simp only[ga,fc,iY] at b;obtain⟨_,rfl⟩:=b;simp[gE]
 |.pr a f,e+1,c+1,s,s',t,t',b,d,k=>by
  simp only[ga] at b d;cases g:ga f e with
  |none=>grind
  |some i=>
   cases h:ga f c with
   |none=>grind
   |some j=>
    rw[g] at b;rw[h] at d;simp only[fc,iY] at b d;obtain⟨_,rfl⟩:=b;obtain⟨_,rfl⟩:=d;have:=v2 (u:=f) (s:=i.1) (t:=i.2) (s':=j.1) (t':=j.2) g h aa;grind [gE]
 |.int _,_,_,_,_,_,_,b,_,_|.bool,_,_,_,_,_,_,b,_,_|.str,_,_,_,_,_,_,b,_,_|.bb _ _,_,_,_,_,_,_,b,_,_|.osl _,_,_,_,_,_,_,b,_,_|.ptr _ _,_,_,_,_,_,_,b,_,_|.optr _,_,_,_,_,_,_,b,_,_|.st _,_,_,_,_,_,_,b,_,_|.nil,_,_,_,_,_,_,b,_,_|.eL,_,_,_,_,_,_,b,_,_=>by cases b
theorem JF:∀{u:ao} {c:X} {s:bp bd} {t:ao},ga u c=Y (s,t)->c<gX u
 |.pr a d,0,_,_,_=>by simp[gX]
 |.pr a d,c+1,s,t,b=>by
  simp only[ga] at b;split at b
  ·rename_i e f;have:=JF (u:=d) (s:=e.1) (t:=e.2) f;grind [gX]
  grind
 |.int _,_,_,_,b|.bool,_,_,_,b|.str,_,_,_,b|.bb _ _,_,_,_,b|.osl _,_,_,_,b|.ptr _ _,_,_,_,b|.optr _,_,_,_,b|.st _,_,_,_,b|.nil,_,_,_,b|.eL,_,_,_,b=>by cases b
theorem J1:∀{d:bp (X×bS)} {e:X} {b:X×bS},m7 d e=bt->b∈d->mH d b.1=Y b.2
 |[],_,_,_,a=>by cases a
 |x::d,e,b,a,c=>by
  simp only[m7,cL] at a;obtain⟨f,g⟩:=x;unfold mH;rw[eX];rcases gn.1 c with rfl|c
  ·rw[aB bq]
  have:=J0 a.2 b c;simp only at this;rw[aA aa];exact J1 a.2 c
section
variable {E:fY} {C:fb} {st:aW} {a:Act} {w:bH} {I:X->Prop} {rt:X->ak0} {fp:X->ak6} {o:bU} {Q:au->bp (X×aT)->Prop}
def Ah (tt:bp (bN×ao)) (e:bS->au) (d:bN) (a:bp (X×bS)):iM:=
 match m8 tt d with
 |none=>.bad
 |some c=>bif m7 a 0&&a.all (λf=>cg f.1 (gX c)) then match qP e a c 0 with
  |some b=>.e9 (.val (.st b.1) b.2) []
  |none=>.bad
  else .bad
theorem QF {z:b3} {l:eW->X->Prop} {b:bp (X×aT)} {q:bS->au} {j:bS->Value} (v:∀c,c8 l w b rt fp (q c) (j c)) {parts:bp (X×bS)} {cells:ak0}:∀{u:ao} {n:X} {B:bp aly} {off:X} {zs:ak0} {i:aT},jt z u B off zs->qP q parts u n=Y i->cells.length=off+u.size->(∀e p d,ga u e=Y (p,d)->(∀c,mH parts (n+e)=Y c->(j c).cells.size=d.size/\(cells.drop (off+gE u e)).take d.size=(j c).cells.toList)/\(mH parts (n+e)=bv->(cells.drop (off+gE u e)).take d.size=(zs.drop (gE u e)).take d.size))->a5 l w i.1 (cells.drop off) i.2 []/\i.1.size=u.size
 |.pr a A,n,L::V,off,zs,i,r,g,E,o=>by
  simp only[qP] at g;split at g
  case h_2=>cases g
  rename_i c am h I;cases g;obtain⟨M,C,N,⟨R,an,aE,T,U⟩,D⟩:=r;have t:=o 0 _ a bq;simp only[nu,gE,mm] at t;have O:a5 l w c.1 ((cells.drop off).take a.size) c.2 []/\c.1.size=a.size:=by
   split at h
   ·grind [zz]
   rename_i k F;have f:=v k;obtain⟨S,x⟩:=t.1 k F;split at h
   ·rename_i d K m;cases s:bi a d with
    |false=>grind
    |true=>
     rw[s] at h;cases h;rw[m] at f;rw[x];generalize H:j k=J at f;cases f with|val y=>
     rw[pb (C.lay s) y.len y.one];grind [bi.size]
   ·rename_i J m;split at h
    ·rename_i K Q;cases h;rw[m] at f;rw[x];generalize H:j k=ad at f;cases f;grind [qy]
    grind
   grind
  have P:=QF v (parts:=parts) (cells:=cells) (u:=A) (n:=n+1) (off:=off+a.size) (zs:=zs.drop a.size) D I (by grind [ao.size]) (by
   intro e p d G;have:=o (e+1) (.snd::p) d (by simp[ga,G]);grind [amV,gE])
  refine⟨⟨[],[],bq,?_,?_⟩,by grind [ao.size]⟩
  ·grind
  simp_all
 |.nil,n,[],off,zs,i,r,g,E,o=>by cases g;exact⟨⟨bq,by grind [anE,ao.size]⟩,bq⟩
 |.pr _ _,_,[],_,_,_,b,_,_,_|.nil,_,_::_,_,_,_,b,_,_,_=>b.elim
 |.int _,_,_,_,_,_,b,_,_,_|.bool,_,_,_,_,_,b,_,_,_|.str,_,_,_,_,_,b,_,_,_|.bb _ _,_,_,_,_,_,b,_,_,_|.osl _,_,_,_,_,_,b,_,_,_|.ptr _ _,_,_,_,_,_,b,_,_,_|.optr _,_,_,_,_,_,b,_,_,_|.st _,_,_,_,_,_,b,_,_,_|.eL,_,_,_,_,_,b,_,_,_=>by cases b
theorem QG {z:b3} {m:eW->X->Prop} {b:bp (X×aT)} {o:bS->au} {h:bS->Value} (p:∀c,c8 m w b rt fp (o c) (h c)) {s:bp (X×bS)}:∀{u:ao} {n:X} {B:bp aly} {r:X} {y:ak0} {x:aT},jt z u B r y->qP o s u n=Y x->∀e v g,ga u e=Y (v,g)->∀c,mH s (n+e)=Y c->(h c).cells.size=g.size
 |.pr a A,n,N::T,r,y,x,E,k,e,v,g,d,c,q=>by
  simp only[qP] at k;split at k
  case h_2=>cases k
  rename_i V ad i I;obtain⟨O,C,P,⟨Q,am,aE,R,S⟩,D⟩:=E;cases e with
  |zero=>
   simp only[ga,fc,iY] at d;obtain⟨_,rfl⟩:=d;rw[nu] at q;rw[q] at i;have f:=p c;simp only at i;split at i
   ·rename_i g L j;cases F:bi a g with
    |false=>grind
    |true=>
     rw[j] at f;generalize H:h c=K at f;cases f with|val l=>
     rw[pb (C.lay F) l.len l.one];have:=l.len;grind [bi.size]
   ·rename_i K j;split at i
    ·rename_i L J;rw[j] at f;generalize H:h c=U at f;cases f;have:=(qy (M:=m) (w:=w) J).len;omega
    grind
   grind
  |succ e=>
   simp only[ga] at d;split at d
   ·rename_i t G;simp only[fc,iY] at d;obtain⟨_,rfl⟩:=d;exact QG p (u:=A) (n:=n+1) D I e t.1 t.2 G c (by rwa[(aa:n+1+e=n+(e+1))])
   grind
 |.pr _ _,_,[],_,_,_,b,_,_,_,_,_,_,_=>b.elim
 |.nil,_,_,_,_,_,_,_,_,_,_,d,_,_=>by cases d
 |.int _,_,_,_,_,_,b,_,_,_,_,_,_,_|.bool,_,_,_,_,_,b,_,_,_,_,_,_,_|.str,_,_,_,_,_,b,_,_,_,_,_,_,_|.bb _ _,_,_,_,_,_,b,_,_,_,_,_,_,_|.osl _,_,_,_,_,_,b,_,_,_,_,_,_,_|.ptr _ _,_,_,_,_,_,b,_,_,_,_,_,_,_|.optr _,_,_,_,_,_,b,_,_,_,_,_,_,_|.st _,_,_,_,_,_,b,_,_,_,_,_,_,_|.eL,_,_,_,_,_,b,_,_,_,_,_,_,_=>by cases b
theorem run_places {P:b3} (w:bH):∀(d:ao) (h:bp aly) (c:X) (g:ak0),jt P d h c g->(h.mapM λe=>do amk (e.offset,<-alY e.type):Sem ak8).run P w=.ok ((bK (gX d)).map λf=>(c+gE d f,match ga d f with|some k=>k.2.size|none=>0)) w
 |.pr a i,e::l,c,g,b=>by have j:=run_places w i l (c+a.size) (g.drop a.size) b.2.2.2.2;simp only[List.mapM_cons,b8,b.2.1.sizeOf,cd,alp,j];simp only[gX,List.range_succ_eq_map,ir,pp,b.1,gE,nu,ga];congr 2;apply iL;intro f _;simp only[Function.comp,gE,ga];grind
 |.nil,[],_,_,_=>rfl
 |.pr _ _,[],_,_,b|.nil,_::_,_,_,b=>b.elim
 |.int _,_,_,_,b|.bool,_,_,_,b|.str,_,_,_,b|.bb _ _,_,_,_,b|.osl _,_,_,_,b|.ptr _ _,_,_,_,b|.optr _,_,_,_,b|.st _,_,_,_,b|.eL,_,_,_,b=>by cases b
theorem Wl (ap:c6 C st a.tmps w I rt fp) {i:bX (X×bS)} (c1:o.op=.build z i) (e:(Ah E.tt (bc st.g) z i.toList).K Q):Yields E C st a w I rt fp o Q:=by
 unfold Ah at e;split at e
 ·exact e.elim
 rename_i b O;cases p:(m7 i.toList 0&&i.toList.all (λc=>cg c.1 (gX b))) with
 |false=>rw[p] at e;exact e.elim
 |true=>
  rw[p] at e;simp only[cL,hp] at p;obtain⟨a3,F⟩:=p;simp only[bI] at e;split at e
  case h_2=>exact e.elim
  rename_i d5 av;obtain⟨q,r,j,a4,d8,bl,bs,m,d9⟩:∃q r j,E.P.info? z=some q/\q.size=b.size/\q.zero=some (.agg j)/\E.P.underlying z=some (.struct r)/\jt E.P b r.toList 0 j.toList/\j.size=b.size:=by
   unfold m8 at O;split at O
   ·rename_i f1 ce;cases O;obtain⟨_,q,r,j,aE,ex,_,fl,fn,fr,fs⟩:=E.ok z _ ce;grind
   grind
  have S:=QG (λd=>ap.bc d) m av;have R:=run_places (P:=E.P) w b r.toList 0 j.toList m;simp only[nv] at R S;generalize el:((bK (gX b)).map λk=>(gE b k,match ga b k with|some c=>c.2.size|none=>0))=U at R;have y:∀k M l,ga b k=Y (M,l)->k<gX b->U.toArray[k]?=Y (gE b k,l.size):=ae;obtain⟨L,d1,ft,d2,aU⟩:=Br (λq=>U.toArray[q]?) (i.toList.map λc=>(c.1,a.eval c.2)) j (by
   intro c A;obtain⟨h,G,rfl⟩:=e1.1 A;have t:h.1<gX b:=g8 (F h G);obtain⟨M,l,f⟩:=sg m h.1 t;refine⟨_,_,y _ _ _ f t,S _ _ _ f h.2 ?_,by simp_all [Bv]⟩;grind [J1]) (by
   rw[oG];refine(J2 a3).imp_of_mem ?_;intro c V A dl t d0 d3 eq fz ax ad;have D:c.1<gX b:=g8 (F c A);have a0:V.1<gX b:=g8 (F V dl);obtain⟨d4,d6,s⟩:=sg m c.1 D;obtain⟨fT,f0,p⟩:=sg m V.1 a0;rw[y _ _ _ s D] at ax;rw[y _ _ _ p a0] at ad;cases ax;cases ad;exact .inl (v2 s p t))
  have em:L.toList.length=b.size:=ae;obtain⟨an,d7⟩:=QF (w:=w) (λd=>ap.bc d) (parts:=i.toList) (cells:=L.toList) (u:=b) (n:=0) (off:=0) m av aa (by
   intro J M l f;have ci:J<gX b:=JF f;simp only[nv];have ek:=Bv f;refine⟨λd H=>?_,λH=>?_⟩
   ·have co:=BG H;have T:=S J M l f d H;refine⟨T,?_⟩;apply ig;intro B;rcases cY B l.size with x|x
    ·obtain⟨N,ds⟩:∃N,(a.eval d).cells[B]?=some N:=⟨_,Hs aa⟩;have:=aU (J,a.eval d) (e1.2 ⟨(J,d),co,bq⟩) _ _ (y _ _ _ f ci) B N ds;grind
    grind
   apply ig;intro B;rcases cY B l.size with x|x
   ·rw[sK x,sK x,qf,qf];simp only[CU];refine d2 _ ?_;intro c A d0 d3 ax;obtain⟨h,G,rfl⟩:=e1.1 A;have cv:=Kq H h G;have D:h.1<gX b:=g8 (F h G);obtain⟨d4,d6,s⟩:=sg m h.1 D;rw[y _ _ _ s D] at ax;cases ax;rcases Nat.lt_or_gt_of_ne cv with t|bx
    ·have:=v2 s f t;omega
    have:=v2 f s bx;omega
   grind)
  rw[mm] at an;refine .pure (v:=.agg L) ?_ (.val (τ:=.st d5.1) (cs:=L.toList) an) e;have dg:(anD (λd=>(d.fst,a.eval d.snd)) i).toList=i.toList.map λc=>(c.1,a.eval c.2):=ac;have c2:(r.mapM λam=>do amk (am.offset,<-alY am.type):Sem (bX ew)).run E.P w=.ok U.toArray w:=(by rw[aoq,Sem.run_map,R];rfl);have T:(alL z).run E.P w=.ok (.agg j) w:=(by simp[alL,alN,a4,bl]);simp only[bT,c1,Instr.build,b8,T,cz bs,cd,c2,dg,Value.cells,d1];rfl
end
end
section
def im {α:Type}:bp (Z×α)->Z->bA α
 |[],_=>bv
 |(a,v)::r,k=>if a=k then Y v else im r k
def lj {α:Type}:bp (Z×α)->Z->α->bp (Z×α)
 |[],k,v=>[(k,v)]
 |(a,u)::r,k,v=>if k<a then(k,v)::(a,u)::r else if k=a then(k,v)::r else(a,u)::lj r k v
def lM {α:Type} (l:bp (Z×α)) (a:Z):bp (Z×α):=l.filter λb=>bz (b.1≠a)
def hk {α:Type} (b:bA (bp (Z×α)×X)) (a:Z):bA α:=b.bind λc=>im c.1 a
section
variable {α:Type}
theorem Gb:∀{l:bp (Z×α)} {c:Z} {d:α},im l c=Y d->(c,d)∈l
 |[],_,_,b=>by cases b
 |(a,u)::r,c,d,b=>by
  simp only[im] at b;split at b
  ·grind
  exact ht _ (Gb b)
theorem TD {l:bp (Z×α)} (c:l.Pairwise (λa b=>a.1<b.1)):(l.map (·.1)).Nodup:=by grind
theorem ZW {l:bp (Z×α)} (c:(l.map (·.1)).Nodup) {a:Z} {b:α}:im l a=Y b↔(a,b)∈l:=by
 constructor
 ·exact Gb
 intro d
 induction l with
 |nil=>cases d
 |cons e h g=>
  obtain⟨f,i⟩:=e;simp only[ir,lx] at c;simp only[im];grind
theorem Qq:∀{l:bp (Z×α)} {d:Z} {e:α} {c:Z×α},c∈lj l d e->c=(d,e)\/c∈l
 |[],d,e,c,b=>by grind [lj]
 |(a,u)::r,d,e,c,b=>by
  simp only[lj] at b;split at b
  ·grind
  split at b
  ·grind
  rcases gn.1 b with b|b
  ·grind
  exact(Qq b).imp id (ht _)
theorem Kw:∀{l:bp (Z×α)} {c:Z} {d:α},l.Pairwise (λa b=>a.1<b.1)->(lj l c d).Pairwise (λa b=>a.1<b.1)
 |[],c,d,_=>by simp[lj]
 |(a,u)::r,c,d,h=>by
  rw[ns] at h;simp only[lj];split
  ·grind [am0]
  rename_i g;split
  ·grind [am0]
  rename_i f;rw[ns];refine⟨λi e=>?_,Kw h.2⟩;rcases Qq e with rfl|e
  ·omega
  grind
theorem Kv:∀{l:bp (Z×α)} {k:Z} {v:α},l.Pairwise (λa b=>a.1<b.1)->(lj l k v).Perm ((k,v)::lM l k)
 |[],k,v,_=>by simp[lj,lM]
 |(a,u)::r,k,v,h=>by
  rw[ns] at h;simp only[lj];split
  ·rename_i d;have:lM ((a,u)::r) k=(a,u)::r:=by
    unfold lM;grind [amA]
   rw[this]
  rename_i d;split
  ·rename_i c;subst c;have:lM ((k,u)::r) k=r:=by
    unfold lM;rw[qd,aA ac,oD];grind
   rw[this]
  rename_i c;have:lM ((a,u)::r) k=(a,u)::lM r k:=(by unfold lM;grind);rw[this];exact((Kv h.2).cons _).trans (.swap _ _ _)
end
section
variable {P:b3} {w:bH} {b:X} {fx:bX alg} {c:X}
theorem wk:jy w b=Y (fx,c)↔w.heap[b]?=Y (.map fx c):=by grind [jy]
def Tb (a:w.heap[b]?=Y (.map fx c)):(setObj b (.map o i)).run P w=.ok () {w with heap:=w.heap.setIfInBounds b (.map o i)}:=by simp[setObj,am1,a]
def run_getObj_map (a:w.heap[b]?=Y (.map fx c)):(getObj b).run P w=.ok (.map fx c) w:=by simp[getObj,am1,a]
def Pc {j:cD} (b:Z):∀(fx:bp alg) (c:ak7) (d:X),fx.map (·.key)=c.map (alz .i64)->b∉c->amB (.int j) (.int .i64 b) fx d=Y bv
 |[],_,_,_,_=>rfl
 |e::fx,[],_,a,_=>by cases a
 |e::fx,f::c,d,a,h=>by simp only[ir,iC] at a;have i:(b==f)=br:=ae;simp only[amB,a.1,aor,cp,i];exact Pc b fx c (d+1) a.2 (λg=>h (ht _ g))
theorem Pd {kd:cD} (b:Z):∀(fx:bp alg) (d:ak7) (f:X),fx.map (·.key)=d.map (alz .i64)->b∈d->∃c e,d[c]?=Y b/\fx[c]?=Y e/\amB (.int kd) (.int .i64 b) fx f=Y (Y (f+c,e.val))
 |[],[],_,_,a|[],_::_,_,a,_|e::fx,[],_,a,_=>by cases a
 |e::fx,g::d,f,a,m=>by
  simp only[ir,iC] at a;by_cases h:b=g
  ·subst h;refine⟨0,e,bq,bq,?_⟩;simp_all [cp,alC,amB,aor]
  have n:(b==g)=br:=ae;obtain⟨c,i,j,k,l⟩:=Pd b fx d (f+1) a.2 ((gn.1 m).resolve_left h);refine⟨c+1,i,by simpa using j,by simpa using k,?_⟩;simp only[amB,a.1,aor,cp,n];rw[l];grind
structure ly (M:eW->X->Prop) (w:bH) (t:ao) (b:X) (l:bp (Z×t.den)) (c:X) (fx:bX alg) (L:bp (Z×X×t.den)):Prop where
 BN:nt L l c
 h:w.heap[b]?=Y (.map fx c)
 n:fx.size=L.length
 e:∀(i:X) (q:Z×X×t.den),L[i]?=Y q->∃ds:ak0,ds.length=t.size/\fx[i]?=Y (aom (.int .i64 q.1) (eY t ds) q.2.1)/\a5 M w t ds q.2.2 []
variable {M:eW->X->Prop} {t:ao} {l:bp (Z×t.den)} {L:bp (Z×X×t.den)}
theorem ly.keys (f:ly M w t b l c fx L):fx.toList.map (·.key)=(L.map (·.1)).map (alz .i64):=by
 apply ig;intro d;simp only[jQ,CU];rcases cY d L.length with a|a
 ·obtain⟨g,_,h,_⟩:=f.e d L[d] (bh a);grind
 rw[pn a,Array.getElem?_eq_none (by rw[f.n];exact a)];rfl
def nt.keys {α:Type} {L:bp (Z×X×α)} {l:bp (Z×α)} {c:X} (a:nt L l c):(L.map (·.1)).Perm (l.map (·.1)):=by have:=a.2.1.map (·.1);rwa[pp] at this
def nt.nd {α:Type} {L:bp (Z×X×α)} {l:bp (Z×α)} {c:X} (a:nt L l c):(L.map (·.1)).Nodup:=a.keys.nodup_iff.2 (TD a.1)
def nt.mem {α:Type} {L:bp (Z×X×α)} {l:bp (Z×α)} {c:X} (b:nt L l c) {a:Z×X×α} (d:a∈L):im l a.1=Y a.2.2:=
 (ZW (TD b.1)).2 (b.2.1.mem_iff.1 (e1.2 ⟨a,d,bq⟩))
theorem LR {P:b3} {w:bH} (e:P.underlying a=Y (.int x)) {b:Z} {fx:bp alg} {c:bA (X×Value)} (d:amB (.int x) (.int .i64 b) fx 0=Y c):(am2 a (.int .i64 b) fx).run P w=.ok c w:=by simp_all [b8,cz,cd,am2]
def Ct {P:b3} {w:bH} (c:P.underlying a=Y (.int x)) (b:bD) (e:X) (d:Z):(apq b (e+1) a (.int .i64 d)).run P w=.ok () w:=by simp[apq,b8,cz c]
theorem ly.find (j:ly M w t b l c fx L) (u:P.underlying a=Y (.int x)) (d:Z):(im l d=bv/\(∀o∈L,o.1≠d)/\∀f,(am2 a (.int .i64 d) fx.toList).run P f=.ok bv f)\/∃h m i g,im l d=Y i/\L[h]?=Y (d,m,i)/\g.length=t.size/\fx[h]?=Y ⟨.int .i64 d,eY t g,m⟩/\a5 M w t g i []/\∀f,(am2 a (.int .i64 d) fx.toList).run P f=.ok (Y (h,eY t g)) f:=by
 by_cases k:d∈L.map (·.1)
 ·obtain⟨h,q,r,s,B⟩:=Pd (kd:=x) d fx.toList _ 0 j.keys k;rw[jQ] at r;obtain⟨⟨C,m,i⟩,n,rfl⟩:=fO.1 r;obtain⟨g,v,p,y⟩:=j.e h _ n;rw[CU,p] at s;cases s;refine .inr ⟨h,m,i,g,j.BN.mem (jE n),n,v,p,y,λf=>LR u ?_⟩;grind
 refine .inl ⟨?_,λo A q=>k (e1.2 ⟨o,A,q⟩),λf=>LR u (Pc d _ _ 0 j.keys k)⟩;cases z:im l d with
 |none=>rfl
 |some i=>exact absurd (j.BN.keys.mem_iff.2 (e1.2 ⟨_,Gb z,bq⟩)) k
theorem ly.empty (M:eW->X->Prop) (t:ao) (a:w.heap[b]?=Y (.map #[] 0)):ly M w t b [] 0 #[] []:=
 ⟨⟨.nil,.refl _,.nil,ac⟩,a,bq,ac⟩
def ww {α:Type} (L:bp (Z×X×α)) (a:Z) (d:α) (c:X):bp (Z×X×α)×X:=
 if a∈L.map (·.1) then(L.map λb=>if b.1=a then(a,b.2.1,d) else b,c) else(L++[(a,c,d)],c+1)
theorem Sc {α:Type} {c:Z} {g:α}:∀{b:bp (Z×α)},(b.map (·.1)).Nodup->c∈b.map (·.1)->(b.map λd=>if d.1=c then(c,g) else d).Perm ((c,g)::lM b c)
 |[],_,e=>by cases e
 |(a,u)::b,e,j=>by
  simp only[ir,lx] at e;simp only[ir];by_cases h:a=c
  ·subst h;rw[aB bq];have i:(b.map λd=>if d.1=a then(a,g) else d)=b:=by
    conv=>rhs;rw[<-List.map_id b]
    refine iL λd k=>?_;grind
   have f:lM ((a,u)::b) a=b:=(by unfold lM;rw[qd,aA ac,oD];grind);rw[i,f]
  rw[aA h];have f:lM ((a,u)::b) c=(a,u)::lM b c:=(by simp_all [qd,aB,lM]);rw[f];refine((Sc e.2 ?_).cons _).trans (.swap _ _ _);grind
theorem nt.put {α:Type} {L:bp (Z×X×α)} {l:bp (Z×α)} {c:X} (e:nt L l c) (d:Z) (g:α):nt (ww L d g c).1 (lj l d g) (bif (im l d).isSome then c else c+1)/\(ww L d g c).2=(bif (im l d).isSome then c else c+1):=by
 have i:(im l d).isSome=bz (d∈L.map (·.1)):=by
  by_cases h:d∈L.map (·.1)
  ·obtain⟨a,f,rfl⟩:=e1.1 h;rw[e.mem f,alc h];rfl
  rw[alM h];cases i:im l d with
  |none=>rfl
  |some v=>exact absurd (e.keys.mem_iff.2 (e1.2 ⟨_,Gb i,bq⟩)) h
 rw[i];unfold ww;have n:((L.map λa=>(a.1,a.2.2)).filter λa=>bz (a.1≠d)).Perm (lM l d):=e.2.1.filter _;by_cases h:d∈L.map (·.1)
 ·rw[aB h,alc h];refine⟨⟨Kw e.1,?_,?_,?_⟩,bq⟩
  ·have ax:((L.map λa=>if a.1=d then(d,a.2.1,g) else a).map λa=>(a.1,a.2.2))=(L.map λa=>(a.1,a.2.2)).map λa=>if a.1=d then(d,g) else a:=by
    simp only[pp];refine iL λa _=>?_;grind
   show((L.map λa=>if a.1=d then(d,a.2.1,g) else a).map λa=>(a.1,a.2.2)).Perm _;rw[ax];refine(Sc ?_ ?_).trans ((n.cons _).trans (Kv e.1).symm)
   ·rw[pp];exact e.nd
   grind
  ·have ax:((L.map λa=>if a.1=d then(d,a.2.1,g) else a).map λa=>a.2.1)=L.map λa=>a.2.1:=by
    grind [alq,List.map_map]
   show((L.map λa=>if a.1=d then(d,a.2.1,g) else a).map λa=>a.2.1).Nodup;rw[ax];exact e.2.2.1
  intro a f;obtain⟨p,o,rfl⟩:=e1.1 f;have:=e.2.2.2 p o;grind
 rw[aA h,alM h];refine⟨⟨Kw e.1,?_,?_,?_⟩,bq⟩
 ·have j:lM l d=l:=by
   unfold lM;rw[oD];intro a f;simp only[alD];rintro rfl;exact h (e.keys.mem_iff.2 (e1.2 ⟨a,f,bq⟩))
  have:=Kv (k:=d) (v:=g) e.1;rw[j] at this;refine List.Perm.trans ?_ this.symm;show((L++[(d,c,g)]).map λa=>(a.1,a.2.2)).Perm _;rw[iK];exact List.perm_append_comm.trans ((e.2.1).cons _)
 ·show((L++[(d,c,g)]).map λa=>a.2.1).Nodup;rw[iK,j3];refine⟨e.2.2.1,ac,λq m b s r=>?_⟩;obtain⟨a,f,rfl⟩:=e1.1 m;have:=e.2.2.2 a f;grind
 intro a f;rcases hM.1 f with f|f
 ·have:=e.2.2.2 a f;grind
 grind
def a5.QJ (a:ly M w t b l c fx L):a5 M w (.mp t) [.map (Y b)] (Y (l,c)) [b]:=⟨b,fx,L,bq,bq,a.BN,wk.2 a.h,a.n,a.e⟩
def a5.QI (a:a5 M w (.mp t) g (Y (l,c)) k):∃b fx L,g=[.map (Y b)]/\k=[b]/\ly M w t b l c fx L:=by obtain⟨b,fx,L,d,e,f,h,i,j⟩:=a;exact⟨b,fx,L,d,e,f,wk.1 h,i,j⟩
def a5.ahb {a:eW} (d:a5 M w (.fm a t) g (Y (l,c)) k):∃b fx L,g=[.map (Y b)]/\k=[]/\M a b/\ly M w t b l c fx L:=by obtain⟨b,fx,L,e,f,h,n,i,j,m⟩:=d;exact⟨b,fx,L,e,f,n,h,wk.1 i,j,m⟩
def kV (w:bH) (b:X) (fx:bX alg) (c:X):World:={w with heap:=w.heap.setIfInBounds b (.map fx c)}
theorem zm (a:w.heap[b]?=Y (.map fx c)):(kV w b o i).heap[b]?=Y (.map o i):=by grind [Array.getElem?_eq_some_iff,kV]
theorem Cy {a:X} (c:i≠b):(kV w b o a).heap[i]?=w.heap[i]?:=by grind [Array.getElem?_setIfInBounds_ne,kV]
theorem To:(kV w b o i).heap.size=w.heap.size:=by simp[kV]
theorem afG {es':bX alg} {c':X} (d:w.heap[b]?=Y (.map fx c)) (a:Addr):(kV w b es' c').cell? a=w.cell? a:=by grind [apj,Cy,zm,aml]
theorem afH {es':bX alg} {c':X} (d:w.heap[b]?=Y (.map fx c)) (a:Addr):(kV w b es' c').frozen? a=w.frozen? a:=by grind [apk,Cy,zm,World.frozen?]
def Tp {a:X} (c:i≠b):eF w (kV w b o a) i:=.of_heap (Cy c)
theorem ly.update (f:ly M w t b l c fx L) {K:bN} (I:P.underlying z=Y (.map a K)) (E:P.underlying a=Y (.int x)) (d:Z) {o:t.den} (ap:g.length=t.size) (ci:a5 M w t g o []):∃u N,(aos z (.map (Y b)) (.int .i64 d) (eY t g)).run P w=.ok () (kV w b u (bif (im l d).isSome then c else c+1))/\(∀{v:eW->X->Prop},(∀r d,M r d->v r d/\d≠b)->ly v (kV w b u (bif (im l d).isSome then c else c+1)) t b (lj l d o) (bif (im l d).isSome then c else c+1) u N)/\mQ w (kV w b u (bif (im l d).isSome then c else c+1)) b:=by
 have bl:∀{v:eW->X->Prop} {u:bX alg} {O:X},(∀r d,M r d->v r d/\d≠b)->∀{g:ak0} {o:t.den},a5 M w t g o []->a5 v (kV w b u O) t g o []:=
  λy _ _ ce=>ce.mono (λr d C=>⟨(y r d C).1,Tp (y r d C).2⟩) ac
 obtain⟨q,cv⟩:=f.BN.put d o;rcases f.find (P:=P) E d with⟨D,G,H⟩|⟨B,dg,dl,co,D,G,H,ad,cs,am⟩
 ·rw[D] at q|-;have C:d∉L.map (·.1):=λc1=>ae;simp only[apr,bR] at q|-;have ax:(ww L d o c).1=L++[(d,c,o)]:=(by simp_all [aA,ww]);rw[ax] at q;refine⟨fx.push ⟨.int .i64 d,eY t g,c⟩,L++[(d,c,o)],?_,λy=>⟨q,zm f.h,by simp[f.n],λm k p=>?_⟩,?_⟩
  ·simp only[aos,b8,cz I,cd,run_getObj_map f.h,Ct E,H];exact Tb f.h
  ·rcases cY m L.length with F|F
   ·rw[rm F] at p;obtain⟨U,R,S,T⟩:=f.e m k p;grind
   rw[qe F] at p;have a0:m-L.length=0:=ae;rw[a0] at p;simp only[zP,fc] at p;subst p;exact⟨g,ap,by rw[Array.getElem?_push,aB (by rw[f.n];omega)],bl y ci⟩
  intro V Q A;rw[wk.2 f.h] at A;cases A;refine⟨_,_,wk.2 (zm f.h),Nat.le_succ _,λm s av an=>?_⟩;grind
 rw[D] at q|-;have C:d∈L.map (·.1):=e1.2 ⟨_,jE G,bq⟩;simp only[aps,bI] at q|-;have ax:(ww L d o c).1=L.map λk=>if k.1=d then(d,k.2.1,o) else k:=by simp_all [aB,ww]
 rw[ax] at q;have c2:∀(m:X) (k:Z×X×t.den),L[m]?=Y k->k.1=d->m=B:=λm k p s=>(by have bs:=f.BN.nd;have a3:m<(L.map (·.1)).length:=ae;have:=List.getElem?_inj a3 bs (i:=m) (j:=B);grind);refine⟨fx.modify B λs=>{s with key:=.int .i64 d,val:=eY t g},L.map λk=>if k.1=d then(d,k.2.1,o) else k,?_,λy=>⟨q,zm f.h,by simp[f.n],λm k p=>?_⟩,?_⟩
 ·have a4:(apt (((fx[B]?).map (·.key)).getD (.int .i64 d)) (.int .i64 d)).run P w=.ok (.int .i64 d) w:=by
   rw[ad];simp[apt,Instr.sameBits]
  simp only[aos,b8,cz I,cd,run_getObj_map f.h,Ct E,am,a4];exact Tb f.h
 ·rw[jQ] at p;obtain⟨J,bx,rfl⟩:=fO.1 p;by_cases s:J.1=d
  ·grind
  rw[aA s];obtain⟨U,R,S,T⟩:=f.e m J bx;grind
 intro V Q A;rw[wk.2 f.h] at A;cases A;refine⟨_,_,wk.2 (zm f.h),bg _,λm s av an=>?_⟩;grind
end
end
section
section
variable {E:fY} {C:fb} {st:aW} {a:Act} {w:bH} {I:X->Prop} {rt:X->ak0} {fp:X->ak6} {o:bU} {Q:au->bp (X×aT)->Prop}
def sc (tt:bp (bN×ao)) (b:bN):bA ao:=match ay tt b with|some (.mp a)=>Y a|some (.fm _ a)=>Y a|_=>bv
theorem sc.ok {c:bN} {f:ao} (d:sc E.tt c=Y f):∃a b,E.P.underlying c=Y (.map a b)/\E.P.underlying a=Y (.int .i64)/\fv E.P f b:=by
 unfold sc at d;split at d
 ·rename_i k e;cases d;obtain⟨j,a,b,_,_,_,_,g,h,i⟩:=E.ok c _ e;grind
 ·rename_i l k e;cases d;obtain⟨j,a,b,_,_,_,_,g,h,i⟩:=E.ok c _ e;grind
 grind
def yW (tt:bp (bN×ao)) (d:bp (X×ao)) (e:bp (X×aT)) (a:X) (c:bN):iM:=
 match sc tt c,ay d a,ay e a with
 |some f,Y (.mp b),bv=>bif bi f b then .e9 (.ref a []) [(a,⟨.mp b,Y ([],0)⟩)] else .bad
 |_,_,_=>.bad
theorem aac (f:c6 C st a.tmps w I rt fp) (k:o.op=.makeMap z bv) (c:(yW E.tt l st.h b z).K Q):Yields E C st a w I rt fp o Q:=by
 unfold yW at c;split at c
 case h_2=>exact c.elim
 rename_i m d p q g;cases e:bi m d with
 |false=>rw[e] at c;exact c.elim
 |true=>
 rw[e] at c;have i:(w.alloc (.map #[] 0)).heap[w.heap.size]?=Y (.map #[] 0):=(by show(w.heap.push _)[w.heap.size]?=_;grind);refine⟨.map (Y w.heap.size),w.alloc (.map #[] 0),I,λ_=>[.map (Y w.heap.size)],λ_=>[w.heap.size],.ref b [],[(b,⟨.mp d,Y ([],0)⟩)],?_,.alloc w _,λ_ c=>c,λ_ c=>.inl c,.one g (a5.QJ (ly.empty _ _ i)) ac (λn e=>?_),?_,c⟩
 ·simp[bT,k,Instr.makeMap,newObj,am1]
 ·simp only[fH] at e;subst e;exact⟨bg _,ac,λc=>by have:=f.ib _ (.inl c);omega⟩
 have j:ay ([(b,(⟨.mp d,Y ([],0)⟩:aT))]++st.h) b=Y ⟨.mp d,Y ([],0)⟩:=(by rw[zV,eX,aB bq]);refine .ref (t:=⟨.mp d,Y ([],0)⟩) (τ':=.mp d) (loc:=bv) (cs:=[.map (Y w.heap.size)]) j ?_;have:fA [(b,(⟨.mp d,Y ([],0)⟩:aT))] (λ_=>[Value.map (Y w.heap.size)]) rt b=[.map (Y w.heap.size)]:=(by simp[fA,eX]);grind [a8.here]
def F9 (a:ao) (c:bA (bp (Z×a.den)×X)) (d:a.den) (b:Z):bD->au
 |true=>.fG [.val a ((hk c b).getD d),.val .bool (hk c b).isSome]
 |false=>.val a ((hk c b).getD d)
def wh (tt:bp (bN×ao)) (j:bp (X×aT)) (i:bN) (k c:au) (f:bD):iM:=
 match sc tt i,c with
 |some h,.val (.int .i64) c=>match k with
  |.val (.fm l a) b=>match np a with
   |some d=>bif bi h a then .e9 (F9 a b d c f) [] else .bad
   |none=>.bad
  |.ref id g=>match ay j id with
   |some e=>match gk e.1 g with
    |some (.mp a)=>match np a with
     |some d=>bif bi h a then .part (bA (bp (Z×a.den)×X)) (λb=>e7 e.1 e.2 g (.mp a) b) (λb=>(F9 a b d c f,[])) else .bad
     |none=>.bad
    |_=>.bad
   |none=>.bad
  |_=>.bad
 |_,_=>.bad
theorem Qj {l k:bN} (s:E.P.underlying l=Y (.map z k)) (f:E.P.underlying z=Y (.int .i64)) (N:fv E.P e k) {J:bS} {d:bD} (R:o.op=.lookup l c J d) {n:Z} (Q:a.eval J=.int .i64 n) {v:e.den} (T:np e=Y v) {m:bA (bp (Z×e.den)×X)} (g:(m=bv/\a.eval c=.map bv)\/∃p t q A y,m=Y (t,q)/\a.eval c=.map (Y p)/\ly (cG I C.B) w e p t q A y):∃u,(bT a.eval o).run E.P w=.ok (.value u) w/\∀D:bp (X×aT),c8 (cG I C.B) w D rt fp (F9 e m v n d) u:=by
 obtain⟨H,x,aE,V,ad,a3⟩:=zz N T;have G:(alL k).run E.P w=.ok x w:=(by simp[alL,alN,aE,V]);have U:∃i,a5 (cG I C.B) w e i ((hk m n).getD v) []/\(anF l (a.eval c) (.int .i64 n) d).run E.P w=.ok (if d then .tuple #[eY e i,.bool (hk m n).isSome] else eY e i) w:=by
  rcases g with⟨rfl,g⟩|⟨p,t,q,A,y,rfl,g,r⟩
  ·refine⟨x.cells.toList,by grind [hk],?_⟩;rw[g];have O:(am2 z (.int .i64 n) []).run E.P w=.ok bv w:=LR f bq;simp only[anF,b8,cz s,cd,alp,Ct f,O,G];rw[<-ad];cases d<;>rfl
  rw[g];rcases r.find (P:=E.P) f n with⟨b,_,L⟩|⟨a0,a4,bl,K,b,_,an,ap,av,M⟩
  ·refine⟨x.cells.toList,by grind [hk],?_⟩;simp only[anF,b8,cz s,cd,alp,run_getObj_map r.h,Ct f,L,G];grind [apr,hk]
  refine⟨K,by grind [hk],?_⟩;simp only[anF,b8,cz s,cd,alp,run_getObj_map r.h,Ct f,M];grind [aps,hk]
 obtain⟨i,F,S⟩:=U;refine⟨_,by simp only[bT,R,Q,b8,S];rfl,λD=>?_⟩;cases d with
 |false=>exact .val F
 |true=>
  refine .fG ac (λH am u b j=>?_)
  match H with
  |0=>simp at b j;subst b;subst j;exact .val F
  |1=>simp at b j;subst b;subst j;exact .bool _
  |n+2=>grind
theorem a5.aae {b:bA (bp (Z×e.den)×X)} (f:a5 d w (.mp e) g b k):(b=bv/\g=[.map bv]/\k=[])\/∃a h c j i,b=Y (h,c)/\g=[.map (Y a)]/\k=[a]/\ly d w e a h c j i:=by
 cases b with
 |none=>exact .inl ⟨bq,f.2,f.1⟩
 |some l=>
  obtain⟨h,c⟩:=l;obtain⟨a,j,i,m,n,o⟩:=f.QI;grind
theorem a5.aha {l:eW} {a:bA (bp (Z×e.den)×X)} (j:a5 d w (.fm l e) g a k):(a=bv/\g=[.map bv])\/∃b f c i h,a=Y (f,c)/\g=[.map (Y b)]/\ly d w e b f c i h:=by
 cases a with
 |none=>exact .inl ⟨bq,j.2⟩
 |some m=>
  obtain⟨f,c⟩:=m;obtain⟨b,i,h,n,_,_,o⟩:=j.ahb;grind
theorem ZQ (s:c6 C st a.tmps w I rt fp) {j:bS} {J:bD} (F:o.op=.lookup z c j J) (b:(wh E.tt st.h z (bc st.g c) (bc st.g j) J).K Q):Yields E C st a w I rt fp o Q:=by
 have f:=s.bc c;have t:=s.bc j;unfold wh at b;split at b
 case h_2=>exact b.elim
 rename_i O bx R P;obtain⟨a0,a3,L,M,N⟩:=sc.ok R;rw[P] at t;generalize D:a.eval j=bs at t;cases t with|val ad=>
 obtain⟨_,rfl⟩:=ad;split at b
 ·rename_i av B x r;split at b
  case h_2=>exact b.elim
  rename_i ap u;cases e:bi O B with
  |false=>rw[e] at b;exact b.elim
  |true=>
  rw[e] at b;rw[r] at f;generalize i:a.eval c=an at f;cases f with|val V=>
  obtain⟨am,y,A⟩:=Qj (rt:=rt) (fp:=fp) (I:=I) (C:=C) (E:=E) (w:=w) (a:=a) (m:=x) L M (N.lay e) F D u (by
   rcases V.aha with⟨ax,d⟩|⟨l,v,n,q,k,ax,d,p⟩
   ·exact .inl ⟨ax,by rw[i,d];rfl⟩
   exact .inr ⟨l,v,n,q,k,ax,by rw[i,d];rfl,p⟩)
  exact .pure y (A _) b
 ·rename_i id ce r;split at b
  case h_2=>exact b.elim
  rename_i ci G;split at b
  case h_2=>exact b.elim
  rename_i B bl;split at b
  case h_2=>exact b.elim
  rename_i ap u;cases e:bi O B with
  |false=>rw[e] at b;exact b.elim
  |true=>
  rw[e] at b;obtain⟨x,S,b⟩:=b;rw[r] at f;generalize i:a.eval c=an at f;cases f with|ref H T=>
  rw[G] at H;cases H;obtain⟨rfl,a4,U,_⟩:=s.r8 G S T;obtain⟨am,y,A⟩:=Qj (rt:=rt) (fp:=fp) (I:=I) (C:=C) (E:=E) (w:=w) (a:=a) (m:=x) L M (N.lay e) F D u (by
   rcases U.aae with⟨ax,d,_⟩|⟨l,v,n,q,k,ax,d,_,p⟩
   ·exact .inl ⟨ax,by rw[i,d];rfl⟩
   exact .inr ⟨l,v,n,q,k,ax,by rw[i,d];rfl,p⟩)
  exact .pure y (A _) b
 exact b.elim
end
end
section
section
variable {E:fY} {C:fb} {st:aW} {a:Act} {w:bH} {I:X->Prop} {rt:X->ak0} {fp:X->ak6} {o:bU} {Q:au->bp (X×aT)->Prop}
def GJ (b c d:au):iM:=
 match b with
 |.val .bool b=>.part bD (λa=>b=a) (λa=>(match a with|true=>c|false=>d,[]))
 |_=>.bad
theorem ad8 (e:c6 C st a.tmps w I rt fp) {d:bS} (m:o.op=.pick c h d) (b:(GJ (bc st.g c) (bc st.g h) (bc st.g d)).K Q):Yields E C st a w I rt fp o Q:=by
 have f:=e.bc c;unfold GJ at b;split at b
 case h_2=>exact b.elim
 rename_i i j;obtain⟨i,rfl,b⟩:=b;rw[j] at f;generalize n:a.eval c=l at f;cases f with|val k=>
 obtain⟨_,rfl⟩:=k;cases i
 ·exact .pure (v:=a.eval d) (by simp_all [bT,eY,asBool]) (e.bc d) b
 exact .pure (v:=a.eval h) (by simp_all [bT,eY,asBool]) (e.bc h) b
def Mn (e:UnOp) (c:au):iM:=
 match e,c with
 |.neg,.val (.int a) c=>.part Z (λb=>a.wrap (0-c)=b) (λb=>(.val (.int a) b,[]))
 |.xor,.val (.int a) c=>.part Z (λb=>a.wrap (cn a.bits (if a.signed then-1 else a.max)^^^cn a.bits c).toNat=b) (λb=>(.val (.int a) b,[]))
 |.not,.val .bool d=>.e9 (.val .bool (!d)) []
 |_,_=>.bad
theorem agL (j:c6 C st a.tmps w I rt fp) {i:UnOp} (p:o.op=.unOp i z c) (b:(Mn i (bc st.g c)).K Q):Yields E C st a w I rt fp o Q:=by
 have d:=j.bc c;unfold Mn at b;generalize q:a.eval c=m at d;split at b
 ·rename_i f k e;obtain⟨l,rfl,b⟩:=b;rw[e] at d;cases d with|val h=>
  obtain⟨_,rfl⟩:=h;exact .pure (v:=.int f _) (by simp_all [bT,eY,aot,Op.intArith]) (.int f _) b
 ·rename_i f k e;obtain⟨l,rfl,b⟩:=b;rw[e] at d;cases d with|val h=>
  obtain⟨_,rfl⟩:=h;exact .pure (v:=.int f _) (by simp_all [bT,eY,aot,Op.intBits]) (.int f _) b
 ·rename_i n e;rw[e] at d;cases d with|val h=>
  obtain⟨_,rfl⟩:=h;exact .pure (v:=.bool _) (by simp_all [bT,eY,aot]) (.bool _) b
 exact b.elim
def DB (tt:bp (bN×ao)) (e d:bN) (a:au):iM:=
 match ay tt e,ay tt d,a with
 |some (.int _),Y (.int c),.val (.int _) a=>.part Z (λb=>c.wrap a=b) (λb=>(.val (.int c) b,[]))
 |_,_,_=>.bad
theorem W3 (k:c6 C st a.tmps w I rt fp) {e:bN} (n:o.op=.convert e z c) (b:(DB E.tt e z (bc st.g c)).K Q):Yields E C st a w I rt fp o Q:=by
 have d:=k.bc c;unfold DB at b;split at b
 case h_2=>exact b.elim
 rename_i q f r s i j h;obtain⟨x,rfl,b⟩:=b;generalize p:a.eval c=m at d;rw[h] at d;cases d with|val l=>
 obtain⟨_,rfl⟩:=l;obtain⟨_,_,_,_,_,t⟩:=E.ok e _ i;obtain⟨_,_,_,_,_,u⟩:=E.ok z _ j;exact .pure (v:=.int f _) (by simp_all [cz,bT,eY,convert,Conv.intToInt]) (.int f _) b
def q5 (c:ByteArray) (a:Z):ak1:=if 0<=a then(c[a.toNat]?).map λb=>(b.toNat:Z) else bv
def F5:ByteArray:=⟨#[0,1,2,2,3,3,3,3,4,4,4,4,4,4,4,4,5,5,5,5,5,5,5,5,5,5,5,5,5,5,5,5,6,6,6,6,6,6,6,6,6,6,6,6,6,6,6,6,6,6,6,6,6,6,6,6,6,6,6,6,6,6,6,6,7,7,7,7,7,7,7,7,7,7,7,7,7,7,7,7,7,7,7,7,7,7,7,7,7,7,7,7,7,7,7,7,7,7,7,7,7,7,7,7,7,7,7,7,7,7,7,7,7,7,7,7,7,7,7,7,7,7,7,7,7,7,7,7,8,8,8,8,8,8,8,8,8,8,8,8,8,8,8,8,8,8,8,8,8,8,8,8,8,8,8,8,8,8,8,8,8,8,8,8,8,8,8,8,8,8,8,8,8,8,8,8,8,8,8,8,8,8,8,8,8,8,8,8,8,8,8,8,8,8,8,8,8,8,8,8,8,8,8,8,8,8,8,8,8,8,8,8,8,8,8,8,8,8,8,8,8,8,8,8,8,8,8,8,8,8,8,8,8,8,8,8,8,8,8,8,8,8,8,8,8,8,8,8,8,8,8,8,8,8,8,8]⟩
def G8 (tt:bp (bN×ao)) (d:bN) (f e:au):iM:=
 match ay tt d,f,e with
 |some .str,.eN (.string c),.val (.int _) b=>.part Z (λa=>q5 c b=Y a) (λa=>(.val (.int .u8) a,[]))
 |some .str,.val .str c,.val (.int _) b=>.part Z (λa=>q5 c b=Y a) (λa=>(.val (.int .u8) a,[]))
 |_,_,_=>.bad
theorem agd (x:c6 C st a.tmps w I rt fp) (H:o.op=.index z h c) (l:(G8 E.tt z (bc st.g h) (bc st.g c)).K Q):Yields E C st a w I rt fp o Q:=by
 have j:=x.bc h;have i:=x.bc c;have u:∀(f:ByteArray) (k:cD) (e b:Z),ay E.tt z=Y .str->a.eval h=.string f->a.eval c=.int k e->q5 f e=Y b->Q (.val (.int .u8) b) []->Yields E C st a w I rt fp o Q:=by
  intro f k e b m q p d n;obtain⟨_,_,_,_,_,y⟩:=E.ok z _ m;refine .pure (v:=.int .u8 b) ?_ (.int .u8 b) n;unfold q5 at d;split at d
  case isFalse=>cases d
  rename_i F;obtain⟨D,G,rfl⟩:=fO.1 d;simp_all [cz,bT,Instr.index,asIntOf]
 unfold G8 at l;split at l
 ·rename_i f k e m q p;obtain⟨b,d,n⟩:=l;rw[q] at j;rw[p] at i;generalize s:a.eval h=A at j;generalize r:a.eval c=y at i;cases j;cases i with|val t=>
  obtain⟨_,rfl⟩:=t;exact u f k e b m s r d n
 ·rename_i f k e m q p;obtain⟨b,d,n⟩:=l;rw[q] at j;rw[p] at i;generalize s:a.eval h=A at j;generalize r:a.eval c=y at i;cases j with|val B=>
  obtain⟨_,rfl⟩:=B;cases i with|val t=>
  obtain⟨_,rfl⟩:=t;exact u f k e b m s r d n
 exact l.elim
def Fw (d:au) (c:X):iM:=
 match d with
 |.fG b=>match b[c]? with
  |some a=>.e9 a []
  |none=>.bad
 |_=>.bad
theorem XU (j:c6 C st a.tmps w I rt fp) (q:o.op=.extract c b) (d:(Fw (bc st.g c) b).K Q):Yields E C st a w I rt fp o Q:=by
 have f:=j.bc c;unfold Fw at d;generalize r:a.eval c=n at f;split at d
 case h_2=>exact d.elim
 rename_i s i;split at d
 case h_2=>exact d.elim
 rename_i h l;rw[i] at f;cases f with|fG p k=>
 rename_i e;have m:b<e.size:=ae;have:e[b]?=Y e[b]:=Hs m;exact .pure (v:=e[b]) (by simp_all [bT,Instr.extract]) (k b h _ l this) d
def yX (c:bD) (a:au):bp au->iM
 |[]=>.e9 a []
 |y::d=>match a,y with
  |.val (.int b) a,.val (.int e) y=>if b=e then(match c with|true=>yX c (.val (.int b) (if y>a then y else a)) d|false=>yX c (.val (.int b) (if y<a then y else a)) d) else .bad
  |_,_=>.bad
def Gf (j:c6 C st a.tmps w I rt fp) (m:bD):∀(e:bp bS) (i:au) (f:Value),c8 (cG I C.B) w st.h rt fp i f->(yX m i (e.map (bc st.g))).K Q->∃d c,((e.map a.eval).foldlM (match m with|true=>Builtin.max2|false=>Builtin.min2) f).run E.P w=.ok d w/\c8 (cG I C.B) w st.h rt fp c d/\Q c []
 |[],i,f,k,b=>⟨f,i,bq,k,b⟩
 |y::e,i,f,k,b=>by
  have l:=j.bc y;simp only[ir,yX] at b;generalize p:a.eval y=A at l;split at b
  case h_2=>exact b.elim
  rename_i q x v z r;split at b
  case isFalse=>exact b.elim
  rename_i s;subst s;rw[r] at l;cases k with|val t=>cases l with|val u=>
  obtain⟨_,rfl⟩:=t;obtain⟨_,rfl⟩:=u;cases m
  ·obtain⟨d,c,aE,n,o⟩:=Gf j br e _ _ (.int q _) b;refine⟨d,c,?_,n,o⟩;simp only[ir,apu,p,b8];exact aE
  obtain⟨d,c,aE,n,o⟩:=Gf j bt e _ _ (.int q _) b;refine⟨d,c,?_,n,o⟩;simp only[ir,apu,p,b8];exact aE
def J5:au->bD
 |.val _ _|.eN _|.eM _ _=>bt
 |_=>br
def hj (tt:bp (bN×ao)) (i:bp (X×ao)) (d:bp (X×aT)) (b:bS->au) (f:X) (h:Op):iM:=
 match h with
 |.move a=>.e9 (b a) []
 |.assign a=>bif J5 (b a) then .e9 (b a) [] else .bad
 |.pick e a n=>GJ (b e) (b a) (b n)
 |.alloc c=>xE tt i d f c
 |.box c a=>Ai tt d f c (b a)
 |.build c l=>Ah tt b c l.toList
 |.buildSlice c g l=>xQ tt i d b f c g l.toList
 |.load c a=>wg tt d c (b a)
 |.nilCheck a=>wx d (b a)
 |.binOp h c a n _=>match b a,b n with
  |.val .bool x,.val .bool y=>match ay tt c with
   |some .bool=>Ie h (.val .bool x) (.val .bool y)
   |_=>.bad
  |.val (.int k) v,.val (.int s) g=>mx h k v s g
  |_,_=>.bad
 |.unOp h _ a=>Mn h (b a)
 |.convert z f a=>DB tt z f (b a)
 |.makeSlice c t e=>wj tt i d f c (b t) (b e)
 |.slice c a u r bv=>wW tt d c (b a) (u.map b) (r.map b)
 |.fieldAddr c a g=>vZ tt d c (b a) g
 |.indexAddr c a j=>v9 tt d c (b a) (b j)
 |.index c a j=>G8 tt c (b a) (b j)
 |.extract a g=>Fw (b a) g
 |.call e=>match e.callee,e.args.toList,e.argTypes.toList with
  |.builtin .len,[a],[c]=>match hd tt c with
   |some _=>we tt d c (b a)
   |none=>.bad
  |.builtin .max,a::m,_=>yX bt (b a) (m.map b)
  |.builtin .min,a::m,_=>yX br (b a) (m.map b)
  |_,_,_=>.bad
 |.makeMap c bv=>yW tt i d f c
 |.lookup c a k w=>wh tt d c (b a) (b k) w
 |.makeFunc (.func p) q o=>bif q.isEmpty then .e9 (.eM p (o.toList.map b)) [] else .bad
 |_=>.bad
theorem XN (f:c6 C st a.tmps w I rt fp) (c:(hj E.tt l st.h (bc st.g) b o.op).K Q):Yields E C st a w I rt fp o Q:=by
 unfold hj at c;split at c
 ·rename_i d e;exact .pure (v:=a.eval d) (by simp[bT,e]) (f.bc d) c
 ·rename_i d e;cases z:J5 (bc st.g d) with
  |false=>rw[z] at c;exact c.elim
  |true=>rw[z] at c;exact .pure (v:=a.eval d) (by simp[bT,e]) (f.bc d) c
 ·grind [ad8]
 ·grind [VP]
 ·grind [Wo]
 ·grind [Wl]
 ·grind [Ws]
 ·grind [ZN]
 ·grind [aap]
 ·rename_i am k d r an e;split at c
  ·rename_i L M s t;split at c
   ·rename_i J;refine NI f e (λ_ _ _ _=>?_) ae;exact(E.ok k _ J).choose_spec.2.2.2.2
   exact c.elim
  ·rename_i s t;refine NI f e (λL M _ T=>?_) (by rw[s,t];exact c);grind
  exact c.elim
 ·grind [agL]
 ·grind [W3]
 ·grind [Z0]
 ·grind [afV]
 ·grind [Yb]
 ·grind [YT]
 ·grind [agd]
 ·grind [XU]
 ·rename_i F e;obtain⟨P,m,B⟩:=F;simp only at c;split at c
  ·rename_i d k ax R;have j:m=#[d]:=ae;have S:B=#[k]:=ae;split at c
   ·grind [ZG]
   exact c.elim
  ·rename_i d i ax;have j:m=(d::i).toArray:=ae;obtain⟨q,D,aE,n,p⟩:=Gf (E:=E) f bt i _ _ (f.bc d) c;refine .pure (v:=q) ?_ n p;simp only[bT,e,resolve,invoke,builtin,b8,alp,cd,j,Builtin.max_];simp_all
  ·rename_i d i ax;have j:m=(d::i).toArray:=ae;obtain⟨q,D,aE,n,p⟩:=Gf (E:=E) f br i _ _ (f.bc d) c;refine .pure (v:=q) ?_ n p;simp only[bT,e,resolve,invoke,builtin,b8,alp,cd,j,Builtin.min_];simp_all
  exact c.elim
 ·grind [aac]
 ·grind [ZQ]
 ·rename_i H u G e;cases A:u.isEmpty with
  |false=>rw[A] at c;exact c.elim
  |true=>
   rw[A] at c;obtain rfl:u=#[]:=ae;refine .pure (v:=.func (.func H) #[] (G.map a.eval)) (by simp[bT,e,Instr.makeFunc]) (.eM ac (λad d O x y=>?_)) c;rw[jQ] at x;rw[Array.getElem?_map] at y;obtain⟨r,U,rfl⟩:=fO.1 x;obtain⟨N,V,rfl⟩:=fO.1 y;obtain rfl:r=N:=ae;exact f.bc r
 exact c.elim
end
end
def e6 (b:X) (a:ak6):bD:=a.any λc=>bL c b
theorem hQ:e6 b k=bt↔b∈k:=by grind [anG,alX,apv,e6]
def au.fK (a:ak6) (b:au):bD:=b.ids.any λc=>e6 c a
def wV:bp bd->bA (bp bd)
 |.unst::a=>(wV a).map λb=>.unst::b
 |.fst::_=>Y [.snd]
 |.snd::_=>Y [.fst]
 |_=>bv
def su:bp bd->bp bd->bA (bp bd)
 |p,[]=>wV p
 |.idx _::p,.idx _::a|.deref::p,.deref::a|.unst::p,.unst::a|.fst::p,.fst::a|.snd::p,.snd::a=>su p a
 |_,_=>bv
def J8 (a b:bp bd):bD:=hG a b||(su a b).isSome
def Ty:∀{p b:bp bd},wV p=Y b->hG p b=bt
 |.unst::p,b,a=>by obtain⟨d,c,rfl⟩:=fO.1 a;exact Ty (p:=p) c
 |.fst::_,_,a=>by cases a;rfl
 |.snd::_,_,a=>by cases a;rfl
 |[],_,a|.idx _::_,_,a|.deref::_,_,a=>by cases a
def Tx:∀{q p b:bp bd},su p q=Y b->hG p (q++b)=bt
 |[],p,b,a=>by have c:wV p=Y b:=(by cases p<;>exact a);exact Ty c
 |s::q,p,b,a=>by
  cases p with
  |nil=>cases s<;>cases a
  |cons d p=>cases s<;>cases d<;>first|(cases a;done)|exact Tx (q:=q) (p:=p) a
def Tz:∀{p e:bp bd} {τ h:ao},gk τ p=Y h->wV p=Y e->∃(o:ao) (m:X),∀(i:bH) (c:Loc) (g:ak0),∃k,a8 i τ c g e o (c.map λd=>(d.1,d.2+m)) k
 |.unst::p,e,τ,h,b,a=>by
  obtain⟨q,l,rfl⟩:=fO.1 a;cases τ with
  |st n=>exact Tz (p:=p) (τ:=n) b l
  |_=>cases b
 |.fst::p,e,τ,h,b,a=>by
  cases a;cases τ with
  |pr f j=>exact⟨j,f.size,λi c g=>⟨_,a8.here⟩⟩
  |_=>cases b
 |.snd::p,e,τ,h,b,a=>by
  cases a;cases τ with
  |pr f j=>
   refine⟨f,0,λi c g=>⟨g.take f.size,?_⟩⟩;have:(c.map λd=>(d.1,d.2+0))=c:=ag;rw[this];exact a8.here
  |_=>cases b
 |[],_,_,_,_,a|.idx _::_,_,_,_,_,a|.deref::_,_,_,_,_,a=>by cases a
theorem zo {n:bH}:∀{q p d:bp bd} {e f:ao} {j:Loc} {i:ak0} {g:ao} {k:Loc} {h:ak0},gk e p=Y f->su p q=Y d->a8 n e j i q g k h->∃l,gk g l=Y f/\wV l=Y d
 |[],p,d,e,f,j,i,g,k,h,c,b,a=>by obtain⟨rfl,_,_⟩:=a8.gY.1 a;have o:wV p=Y d:=(by cases p<;>exact b);grind
 |s::q,p,d,e,f,j,i,g,k,h,c,b,a=>by
  cases p with
  |nil=>cases s<;>cases b
  |cons m p=>
   cases e<;>cases s<;>simp only[a8] at a<;>cases m<;>first|(cases b;done)|skip
   case osl.idx.idx=>obtain⟨_,_,_,_,_,_,_,_,_,a⟩:=a;exact zo (q:=q) (p:=p) c b a
   case optr.deref.deref=>obtain⟨_,_,_,_,_,_,a⟩:=a;exact zo (q:=q) (p:=p) c b a
   case st.unst.unst=>exact zo (q:=q) (p:=p) c b a
   case pr.fst.fst=>exact zo (q:=q) (p:=p) c b a
   case pr.snd.snd=>exact zo (q:=q) (p:=p) c b a
def a8.split {u:bH}:∀{q j:bp bd} {d k:ao} {g i:Loc} {f h:ak0},a8 u d g f (q++j) k i h->∃e c b,a8 u d g f q e c b/\a8 u e c b j k i h
 |[],j,d,k,g,i,f,h,a=>⟨d,g,f,a8.here,a⟩
 |s::q,j,d,k,g,i,f,h,a=>by
  rw[oB] at a;cases d<;>cases s<;>simp only[a8] at a
  case osl.idx=>
   obtain⟨l,t,x,v,m,ax,n,o,w,a⟩:=a;obtain⟨e,c,b,p,r⟩:=a8.split (q:=q) a;exact⟨e,c,b,⟨l,t,x,v,m,ax,n,o,w,p⟩,r⟩
  case optr.deref=>
   obtain⟨l,t,m,ax,n,o,a⟩:=a;obtain⟨e,c,b,p,r⟩:=a8.split (q:=q) a;exact⟨e,c,b,⟨l,t,m,ax,n,o,p⟩,r⟩
  case st.unst=>exact a8.split (q:=q) a
  case pr.fst=>exact a8.split (q:=q) a
  case pr.snd=>exact a8.split (q:=q) a
theorem a8.upper {B:ao} {c A:bp bd} (z:gk e c=Y B) (h:su c n=Y A) (a:a8 f e bv y n q (Y (b,i)) g) (x:∀(n:bp bd) (q:ao) (k:Loc) (g:ak0),hG c n=bt->a8 f e bv y n q k g->a8 m e bv y n q k g):∃o,a8 m e bv y n q (Y (b,i)) o:=by
 obtain⟨F,r,s⟩:=zo z h a;obtain⟨I,E,d⟩:=Tz r s;obtain⟨C,t⟩:=d f (Y (b,i)) g;obtain⟨H,j,l,u,v⟩:=a8.split (x _ _ _ _ (Tx h) (a.append t));have ax:=u.ty;rw[a.ty] at ax;obtain rfl:=gy ax;obtain⟨D,w⟩:=d m j l;obtain⟨_,p,_⟩:=v.mC w;cases j with
 |none=>cases p
 |some G=>
  grind
def nH (c:bp (X×bp bd)):au->bD
 |.ref id []=>c.any λa=>bL a.1 id
 |.ref id b=>c.any λa=>bL a.1 id&&hG a.2 b
 |.addr id b=>c.any λa=>bL a.1 id&&J8 a.2 b
 |.view id b _ _=>c.any λa=>bL a.1 id&&hG a.2 b
 |_=>br
def li (c:ak6) (b:bp (X×bp bd)):au->bD
 |.eM _ f=>f.all λa=>!(a.fK c)||nH b a
 |.hY a=>nH b a
 |.app id h _ _ g=>(g.all λe=>!(e6 e c))&&b.any λd=>bL d.1 id&&lF d.2 h
 |a=>nH b a
def fy (b:ak6) (c:bp (X×bp bd)) (a:au):au:=bif a.fK b&&!(li b c a) then .dead else a
def gb (b:ak6) (c:bp (X×bp bd)):au->au
 |.fG d=>.fG (d.map (fy b c))
 |a=>fy b c a
def kill (b:ak6) (d:bp (X×bp bd)) (c:bp (X×au)):bp (X×au):=c.map λa=>(a.1,gb b d a.2)
def del (a:ak6) (b:bp (X×aT)):bp (X×aT):=b.filter λc=>!(e6 c.1 a)
theorem Ka (a:bp bd):hG [] a=br:=by grind [hG,n8]
def F2 (b:ak6):bp (X×bp bd):=b.map λa=>(a,[])
theorem sb (c:ak6) (e:bp (X×bp bd)):∀(d:bp (X×au)) (b:X),gt (kill c e d) b=gb c e (gt d b)
 |[],b=>by simp[kill,gt,ay,gb,fy,au.fK,au.ids]
 |(f,a)::d,b=>by
  show gt ((f,gb c e a)::kill c e d) b=_;rw[jx,jx];split
  ·rfl
  exact sb c e d b
theorem oc (a:ak6):∀(c:bp (X×aT)) (b:X),ay (del a c) b=if b∈a then bv else ay c b
 |[],b=>by simp[del,ay]
 |(d,t)::c,b=>by
  have f:=oc a c b;simp only[del] at f|-;rw[qd];cases e:e6 d a with
  |true=>
   have:d∈a:=hQ.1 e;simp only[g7,Bool.false_eq_true,if_false];grind [eX]
  |false=>
   have:d∉a:=λc=>(by grind [hQ]);simp only[mP,cp];grind [eX]
theorem Uj (a:U.fK k=br):∀id∈U.ids,id∉k:=λid c b=>by grind [apv,hQ,au.fK]
structure rB (C:fb) (st:aW) (w w':bH) (I I':X->Prop) (rt:X->ak0) (fp:X->ak6) (S:ak6) (PY:bp (X×bp bd)) (new:bp (X×aT)) (rtn:X->ak0) (fpn:X->ak6):Prop where
 size:w.heap.size<=w'.heap.size
 os:w'.os=w.os
 tape:w'.tape=w.tape
 output:w'.output=w.output
 heap:∀b,b<w.heap.size->(∀id∈S,∀t,ay st.h id=Y t->b∉fp id)->w'.heap[b]?=w.heap[b]?
 evo:∀b,b<w.heap.size->mQ w w' b
 i:∀b,I b->I' b
 i2:∀b,I' b->I b\/(b<w'.heap.size/\(w.heap.size<=b\/∃id∈S,∃t,ay st.h id=Y t/\b∈fp id))
 tree:∀id t,ay new id=Y t->(id∈S\/ay st.h id=bv)/\a5 (cG I' C.B) w' t.1 (rtn id) t.2 (fpn id)/\(fpn id).Nodup/\∀b∈fpn id,¬I' b/\b<w'.heap.size/\(w.heap.size<=b\/∃PJ∈S,∃t',ay st.h PJ=Y t'/\b∈fp PJ)
 dis:∀i j t u,ay new i=Y t->ay new j=Y u->i≠j->∀b∈fpn i,b∉fpn j
 keep:∀e∈PY,∀t,ay st.h e.1=Y t->∃t',ay new e.1=Y t'/\t'.1=t.1/\rtn e.1=rt e.1/\(∃ahD,gk t.1 e.2=Y ahD)/\∀(q:bp bd) (UA:ao) (Qp:Loc) (Ot:ak0),hG e.2 q=bt->a8 w t.1 bv (rt e.1) q UA Qp Ot->a8 w' t.1 bv (rt e.1) q UA Qp Ot
 app:∀e∈PY,∀t,ay st.h e.1=Y t->∀(q:bp bd) (τ:ao) (xs:bp τ.den) (loc:Loc) (vh:ak0) (f1:ak6),lF e.2 q=bt->τ.lm=bt->a8 w t.1 bv (rt e.1) q (.osl τ) loc vh->e7 t.1 t.2 q (.osl τ) xs->a5 (cG I C.B) w (.osl τ) vh xs f1->∃t',ay new e.1=Y t'/\e7 t'.1 t'.2 q (.osl τ) xs/\∀b∈f1,b∈fpn e.1/\eF w w' b
theorem c6.eK {w':bH} {I':X->Prop} {rtn:X->ak0} {fpn:X->ak6} {S:ak6} {keep:bp (X×bp bd)} {new:bp (X×aT)} (e:c6 T O v f j r s) (l:rB T O f w' j I' r s S keep new rtn fpn):c6 T ⟨kill S keep O.g,new++del S O.h⟩ v w' I' (fA new rtn r) (fA new fpn s):=by
 have V:∀a0 a,cG j T.B a0 a->cG I' T.B a0 a/\eF f w' a:=λa0 a b=>by
  refine⟨?_,.of_heap (l.heap a (e.ib a (od b)) (λid _ c k fp=>e.notM k a fp a0 b))⟩;cases a0
  ·exact l.i a b
  exact b.imp (l.i a) id
 have co:∀id c,ay (new++del S O.h) id=Y c->(ay new id=Y c/\fA new rtn r id=rtn id/\fA new fpn s id=fpn id)\/(ay new id=bv/\id∉S/\ay O.h id=Y c/\fA new rtn r id=r id/\fA new fpn s id=s id):=λid c k=>by
  rw[lL,oc] at k;cases J:ay new id with
  |none=>
   rw[J] at k;simp only[Option.none_or] at k;split at k
   ·cases k
   rename_i D;exact .inr ⟨bq,D,k,by simp[fA,J],by simp[fA,J]⟩
  |some l=>grind [fA]
 have dl:∀id c,ay O.h id=Y c->id∉S->∀a∈s id,eF f w' a:=λid c k D a b=>.of_heap (l.heap a ((e.tree id c k).2.2 a b).2.2.1 (λI av p H A=>
  e.dis id I c p k H (λd=>D ae) a b A))
 have eq:∀id c,ay O.h id=Y c->id∉S->∀a∈s id,¬I' a:=λid c k D a b K=>by
  have u:=(e.tree id c k).2.2 a b;rcases l.i2 a K with K|⟨_,K|⟨I,av,p,H,A⟩⟩
  ·grind
  ·omega
  exact e.dis id I c p k H (λd=>D ae) a b A
 refine{n:=e.n,i0:=λa b=>l.i a (e.i0 a b),i1:=?_,ib:=?_,tree:=?_,dis:=?_,tmp:=?_,frame:=?_,evo:=λa b=>(e.evo a b).trans (l.evo a (jG b e.size)),size:=dk e.size l.size,os:=l.os.trans e.os,tape:=l.tape.trans e.tape,output:=l.output.trans e.output,pin:=e.pin}
 ·intro a b;rcases l.i2 a b with b|⟨_,b|⟨I,av,p,H,A⟩⟩
  ·exact e.i1 a b
  ·exact .inr (.inl (dk e.size b))
  exact .inr ((e.tree I p H).2.2 a A).2.2.2
 ·intro a b;rcases b with b|b
  ·rcases l.i2 a b with b|⟨b,_⟩
   ·exact jG (e.ib a (.inl b)) l.size
   omega
  exact jG (e.ib a (.inr b)) l.size
 ·intro id c k;rcases co id c k with⟨q,m,x⟩|⟨ek,D,q,m,x⟩
  ·obtain⟨_,aE,z,C⟩:=l.tree id c q;rw[m,x];refine⟨aE,z,λa b=>?_⟩;obtain⟨a3,a4,ap⟩:=C a b;rcases ap with ap|⟨I,av,p,H,A⟩
   ·exact⟨a3,λel=>by have:=e.ib a (.inr el);omega,a4,.inl (dk e.size ap)⟩
   have u:=(e.tree I p H).2.2 a A;grind
  obtain⟨aE,z,C⟩:=e.tree id c q;rw[m,x];refine⟨aE.mono V (dl id c q D),z,λa b=>?_⟩;obtain⟨a3,a4,ap,aU⟩:=C a b;exact⟨eq id c q D a b,a4,jG ap l.size,aU⟩
 ·intro o ad c M K fs d0 a b;rcases co o c K with⟨q,_,x⟩|⟨ek,D,q,_,x⟩<;>rcases co ad M fs with⟨am,_,d6⟩|⟨gi,FY,am,_,d6⟩<;>rw[x] at b<;>rw[d6]
  ·exact l.dis o ad c M q am d0 a b
  ·intro A;rcases((l.tree o c q).2.2.2 a b).2.2 with u|⟨I,av,p,H,ci⟩
   ·have:=((e.tree ad M am).2.2 a A).2.2.1;omega
   exact e.dis ad I M p am H (λd=>FY ae) a A ci
  ·intro A;rcases((l.tree ad M am).2.2.2 a A).2.2 with u|⟨I,av,p,H,ci⟩
   ·have:=((e.tree o c q).2.2 a b).2.2.1;omega
   exact e.dis o I c p q H (λd=>D ae) a b ci
  exact e.dis o ad c M q am d0 a b
 ·intro bl;show c8 _ _ _ _ _ (gt (kill S keep O.g) bl) _;rw[sb];have y:=e.tmp bl;generalize gt O.g bl=w at y;generalize v.getD bl bZ=P at y;suffices d9:∀(w:au) (P:Value),c8 (cG j T.B) f O.h r s w P->c8 (cG I' T.B) w' (new++del S O.h) (fA new rtn r) (fA new fpn s) (fy S keep w) P by
   cases w with
   |fG f1=>
    cases y with|fG d1 J=>
    refine .fG ae (λo U M q m=>?_);grind
   |_=>exact d9 _ _ y
  clear y;have bx:∀(w:au) (P:Value),c8 (cG j T.B) f O.h r s w P->w.fK S=br\/nH keep w=bt->c8 (cG I' T.B) w' (new++del S O.h) (fA new rtn r) (fA new fpn s) w P:=by
   intro w P y fT;cases d5:w.fK S with
   |false=>
    refine y.ws V (λid cs c k=>?_);have D:=Uj d5 id cs;have fz:ay new id=bv:=by
     cases J:ay new id with
     |none=>rfl
     |some c2=>
      rcases(l.tree id c2 J).1 with u|u
      ·grind
      grind
    refine⟨by simp_all [lL,oc,aA],by grind [fA],by grind [fA],(e.tree id c k).1,dl id c k D⟩
   |true=>
    have L:nH keep w=bt:=fT.resolve_left ae;have bs:∀(id:X) (c:aT),ay O.h id=Y c->∀d∈keep,d.1=id->∃p,ay (new++del S O.h) id=Y p/\p.1=c.1/\fA new rtn r id=r id/\(∃f8,gk c.1 d.2=Y f8)/\
     ∀(u:bp bd) (d8:ao) (d7:Loc) (ce:ak0),hG d.2 u=bt->a8 f c.1 bv (r id) u d8 d7 ce->a8 w' c.1 bv (r id) u d8 d7 ce:=by
     intro id c k d E cs;subst cs;obtain⟨p,aE,z,C,an,R⟩:=l.keep d E _ k;grind [lL]
    have dg:∀(id:X) (u:bp bd),(keep.any λd=>bL d.1 id&&hG d.2 u)=bt->∃d∈keep,d.1=id/\hG d.2 u=bt:=ag;cases w with
    |ref id Q=>
     cases Q with
     |nil=>
      obtain⟨d,E,m⟩:=qa.1 (show(keep.any λd=>bL d.1 id)=bt from L);have m:=fN m;cases y with|ref k F=>
      obtain⟨rfl,rfl,rfl⟩:=a8.gY.1 F;obtain⟨p,aE,z,C,_⟩:=bs id _ k d E m;rw[<-z];refine .ref (loc:=bv) aE ?_;grind [a8.here]
     |cons f6 Q=>
      obtain⟨d,E,m,x⟩:=dg id (f6::Q) L;cases y with|ref k F=>
      obtain⟨p,aE,z,C,an,R⟩:=bs id _ k d E m;have G:=R _ _ _ _ x F;rw[<-C,<-z] at G;exact .ref aE G
    |addr id Q=>
     obtain⟨d,E,m⟩:=qa.1 (show(keep.any λd=>bL d.1 id&&J8 d.2 Q)=bt from L);simp only[cL] at m;obtain⟨m,x⟩:=m;have m:=fN m;cases y with|addr k F=>
     obtain⟨p,aE,z,C,an,R⟩:=bs id _ k d E m;rcases CV.1 x with x|x
     ·have G:=R _ _ _ _ x F;rw[<-C,<-z] at G;exact .addr aE G
     obtain⟨go,N⟩:=HG.1 x;obtain⟨_,an⟩:=an;obtain⟨ce,G⟩:=a8.upper an N F R;rw[<-C,<-z] at G;exact .addr aE G
    |view id Q gl K=>
     obtain⟨d,E,m,x⟩:=dg id Q L;cases y with|mN=>(exact .mN _ _)|view k F f2 f3 f4=>
     obtain⟨p,aE,z,C,an,R⟩:=bs id _ k d E m;have G:=R _ _ _ _ x F;rw[<-C,<-z] at G;exact .view aE G f2 f3 f4
    |_=>cases L
  intro w P y;unfold fy;cases d5:w.fK S with
  |false=>grind
  |true=>
   cases L:li S keep w with
   |false=>simp only[mP,Bool.and_self,bI];exact .dead _
   |true=>
    simp only[g7,Bool.and_false,bR];cases w with
    |eM f9 f1=>
     cases y with|eM d1 J=>
     refine .eM d1 (λo U M q m=>bx U M (J o U M q m) ?_);have:=hp.1 L U (jE q);grind
    |hY U=>
     cases y with|hY b fl cv ex=>
     exact .hY (V _ _ b).1 (by rw[((V _ _ b).2.1 0).1];exact fl) cv (bx U _ ex (.inr L))
    |app id u f7 hi c1=>
     cases y with|app k d4 F fr q gc m f0 ge ft=>
     have N:((c1.all λo=>!(e6 o S))&&keep.any λd=>bL d.1 id&&lF d.2 u)=bt:=L;rw[cL] at N;obtain⟨cv,N⟩:=N;have cv:∀o∈c1,o∉S:=λo K d2=>(by grind [hQ,amj]);obtain⟨d,E,N⟩:=qa.1 N;simp only[cL] at N;obtain⟨fn,ds⟩:=N;obtain rfl:=fN fn;obtain⟨p,aE,z,C⟩:=l.app d E _ k u f7 _ _ _ _ ds d4 F fr q;obtain⟨gs,a3,a4,ap,_,f5⟩:=l.keep d E _ k;rw[aE] at a3;obtain rfl:=gy a3;have fz:∀o∈c1,ay new o=bv:=λo K=>by
      cases J:ay new o with
      |none=>rfl
      |some c2=>
       obtain⟨_,hc,gf⟩:=f0 o K;rcases(l.tree o c2 J).1 with u|u
       ·grind
       grind
     have d2:fA new rtn r d.1=r d.1:=(by grind [fA]);have d3:=f5 u _ _ _ (Jd ds) F;rw[<-a4,<-d2] at d3;refine .app (t:=p) (by grind [lL]) d4 d3 z (q.mono V (λa b=>(C a b).2)) (λa b=>by grind [fA]) (m.mono V (λa b=>?_)) (λo K=>?_) (λa b=>?_) ft
     ·grind
     ·simp_all [lL,oc,aA]
     grind [fA]
    |_=>exact bx _ P y (.inr L)
 intro a b em;rw[l.heap a (jG b e.size)]
 ·exact e.frame a b em
 intro id _ c k A;have:=((e.tree id c k).2.2 a A).2.2.2;grind
section
def k0 (k:eW->X->Prop) (i:bH) (a:ao) (l:bA Addr) (d:bp a.den) (g:eC):Prop:=
 g.length=d.length/\(d=[]\/∃e h,l=Y ⟨e,h,bv⟩/\∀(c:X) (j:a.den) (f:ak6),d[c]?=Y j->g[c]?=Y f->∃b,b.length=a.size/\fC i e (h+c*a.size) b/\a5 k i a b j f)
theorem k0.bb {h:eW} {a:bp e.den} (c:a5 d f (.bb h e) [.slice t b i] a []):b=a.length/\k0 d f e t a (bJ a.length []):=by obtain⟨_,j,k,g,_,_,c⟩:=c;simp only[iC,alh,cf] at g;obtain⟨rfl,rfl,rfl⟩:=g;refine⟨bq,ac,c.imp id ?_⟩;grind
theorem k0.osl {l:bp e.den} (g:a5 d f (.osl e) [.slice t i b] l k):i=l.length/\i<=b/\∃h,k0 d f e t l h/\(∀j∈h.flatten,j∈k)/\(k.Nodup->h.flatten.Nodup)/\((t=bv/\b=0/\k=[])\/∃a c,t=Y ⟨a,c,bv⟩/\k=a::h.flatten/\jb f a c (c+b*e.size)):=by
 obtain⟨s,j,m,g⟩:=g;simp only[iC,alh,cf] at m;obtain⟨rfl,rfl,rfl⟩:=m;rcases g with⟨rfl,rfl,rfl,rfl⟩|⟨a,c,n,rfl,rfl,aE,p,q,r⟩
 ·exact⟨bq,bg _,[],⟨bq,.inl bq⟩,ac,ac,.inl ⟨bq,bq,bq⟩⟩
 refine⟨bq,p,n,⟨aE,.inr ⟨a,c,bq,r⟩⟩,λj o=>ht _ o,λg=>(lx.1 g).2,.inr ⟨a,c,bq,bq,q⟩⟩
theorem k0.cells {b:bp e.den} {q:eC} (j:k0 d f e t b q) (v:0<e.size):∃n:ak0,n.length=b.length*e.size/\(∀i∈n,i.oneCell'=bt)/\(∀c,t=Y c->b≠[]->∀(k:X) i,n[k]?=Y i->f.cell? (c.add k)=Y i)/\∀(g:X) (o:e.den) (m:ak6),b[g]?=Y o->q[g]?=Y m->a5 d f e ((n.drop (g*e.size)).take e.size) o m:=by
 obtain⟨D,j⟩:=j;rcases j with rfl|⟨c,l,rfl,j⟩
 ·simp_all
 have C:∀a,a<b.length*e.size->∃i,f.cell? ⟨c,l+a,bv⟩=Y i/\i.oneCell'=bt:=by
  intro a B;have s:a/e.size<b.length:=(anH v).2 B;obtain⟨h,x,p,r⟩:=j (a/e.size) b[a/e.size] (q[a/e.size]'(by omega)) ac ac
  have E:=amm a v;have:h[a %e.size]?=Y (h[a %e.size]'(by omega)):=bh _
  refine⟨_,?_,r.one _ (cK (by omega:a %e.size<h.length))⟩;have:=p _ _ this;grind [anI,Nat.mul_comm]
 have A:∀a,((bK (b.length*e.size)).map λa=>(f.cell? ⟨c,l+a,bv⟩).getD bZ)[a]?=if a<b.length*e.size then f.cell? ⟨c,l+a,bv⟩ else bv:=by grind
 refine⟨(bK (b.length*e.size)).map λa=>(f.cell? ⟨c,l+a,bv⟩).getD bZ,ac,?_,?_,?_⟩
 ·grind
 ·grind [al7]
 intro g o m w z;obtain⟨h,x,p,r⟩:=j g o m w z;have s:g<b.length:=(ih.1 w).1;have:(((bK (b.length*e.size)).map λa=>(f.cell? ⟨c,l+a,bv⟩).getD bZ).drop (g*e.size)).take e.size=h:=by
  apply ig;intro k;rcases cY k e.size with u|u
  ·rw[sK u,qf,A];have y:(g+1)*e.size<=b.length*e.size:=iX _ s;rw[kL,kM] at y;rw[aB aa];have:h[k]?=Y (h[k]'(by omega)):=bh _
   rw[this,<-sM];exact p _ _ this
  grind
 grind
section
variable {P:b3}
theorem V1 {w:bH} {ty:bN} {j:TypeInfo} (p:P.underlying z=Y (.slice a)) (A:fv P e a) (i:P.info? a=Y j) (a4:e.size<=1300) {ad yd:bA Addr} {n cap m c:X} {olds news:ak0} (M:olds.length=n*e.size) (ap:∀b,ad=Y b->∀(f:X) (g:Value),olds[f]?=Y g->w.cell? (b.add f)=Y g) (av:∀b,ad=Y b->b.spot=bv) (J:n<=cap) (an:ad=bv->cap=0) (t:news.length=m*e.size) (H:∀g∈news,g.oneCell'=bt) (C:∀b,yd=Y b->0<m->∀(f:X) (g:Value),news[f]?=Y g->w.cell? (b.add f)=Y g) (bl:yd=bv->m=0) (L:∀b,ad=Y b->jb w b.block b.off (b.off+cap*e.size)) (U:n+m<=h1):∃F o,(am3 #[z,z] ty #[.slice ad n cap,.slice yd m c]).run P w=.ok F o/\((
   n+m<=cap/\F=.slice ad (n+m) cap/\((ad=bv/\o=w)\/∃b,ad=Y b/\o=w.setCells b.block (b.off+n*e.size) news))\/
   ∃(d:X) (v:akY),cap<n+m/\n+m<=d/\F=.slice (Y ⟨w.heap.size,0,bv⟩) (n+m) d/\hL w o/\o.heap[w.heap.size]?=Y (.cells v a (0,0))/\o.heap.size=w.heap.size+1/\d*e.size<=v.size/\∀(f:X) (g:Value),(olds++news)[f]?=Y g->v[f]?=Y g):=by
 obtain⟨bs,_,h,_⟩:=A.info;have G:=h.info;rw[i] at G;cases G;have a3:=A.pos;by_cases D:n+m<=cap
 ·by_cases q:m=0
  ·subst q;obtain rfl:news=[]:=rk aa;have K:(apw e.size 0 (.slice yd 0 c)).run P w=.ok #[] w:=by
    cases yd with
    |none=>rfl
    |some b=>simp[apw,loadCells,loadCellsFrom]
   refine⟨.slice ad n cap,w,?_,.inl ⟨D,bq,?_⟩⟩
   ·cases ad with
    |none=>simp[am3,cz p,alY,alN,i,apx,h.size,J,K]
    |some b=>simp[am3,cz p,alY,alN,i,apx,h.size,J,K,storeCells]
   cases ad with
   |none=>grind
   |some b=>exact .inr ⟨b,bq,bq⟩
  cases ad with
  |none=>grind
  |some b=>
   cases yd with
   |none=>grind
   |some k=>
    obtain⟨N,O,Q⟩:=b;obtain rfl:Q=none:=av _ rfl;have V:(n+m)*e.size<=cap*e.size:=iX _ D;rw[kL] at V;have r:=run_append_room_cells (P:=P) w z ty a j p i N O n cap k m c news (by rw[h.size];exact t) (C k bq aa) H D (λf T=>(L _ rfl _ ae (by rw[h.size];grind)).1) (λf T=>(L _ rfl _ ae (by rw[h.size];grind)).2);rw[h.size] at r;grind
 obtain⟨l,a0,u⟩:=A.JW;have u:=u j i;have q:0<m:=aa;cases yd with
 |none=>grind
 |some k=>
  have I:(n+m)*j.bytes<=140737488355328:=(by have H:(n+m)*j.bytes<=h1*31200:=mV U (by have:=h.bytes;omega);grind [h1]);have B:((n+m:X):Z)<=9223372036854775807:=(by grind [h1]);have y:∀(E:X),let d:=grownCap w (n+m) E a
   n+m<=d/\hL w (w.drew.alloc (.cells (olds.toArray++news.toArray++am4 l.cells (d-(n+m))) a))/\
   (w.drew.alloc (.cells (olds.toArray++news.toArray++am4 l.cells (d-(n+m))) a)).heap[w.heap.size]?=Y (.cells (olds.toArray++news.toArray++am4 l.cells (d-(n+m))) a (0,0))/\
   d*e.size<=(olds.toArray++news.toArray++am4 l.cells (d-(n+m))).size/\
   ∀(f:X) (g:Value),(olds++news)[f]?=Y g->(olds.toArray++news.toArray++am4 l.cells (d-(n+m)))[f]?=Y g:=by
   intro E d;have S:n+m<=d:=grownCap_ge w (n+m) E a;refine⟨S,(hL.refl w).drew.trans (hL.alloc _ _),heap_alloc_new w.drew _,?_,?_⟩
   ·simp only[Array.size_append,uW,size_zeroCells,a0,M,t,<-kL];grind
   grind
  cases ad with
  |some b=>
   have r:=run_append_grow (P:=P) w z ty a j l p i u b n cap olds (by rw[h.size];exact M) (ap b bq) k m c news (by rw[h.size];exact t) (C k bq q) aa B (growslice_fits aa I);obtain⟨x,f2,s,f4,f5⟩:=y cap;exact⟨_,_,r,.inr ⟨_,_,aa,x,bq,f2,s,ac,f4,f5⟩⟩
  |none=>
   have R:=an bq;have am:n=0:=aa;subst R;subst am;obtain rfl:olds=[]:=rk aa;simp only[nv] at B I y;have r:=run_append_nil (P:=P) w z ty a j l p i u k m c news (by rw[h.size];exact t) (C k bq q) q B aa;obtain⟨x,f2,s,f4,f5⟩:=y 0;simp only[iD,apy] at x f2 s f4 f5;refine⟨_,_,r,.inr ⟨_,_,aa,aa,by rw[nv],f2,s,ac,f4,f5⟩⟩
end
end
theorem zl (b:X):∀(g:ak0) (d:X) (c:bH) (a:X),a≠b->(c.setCells b d g).heap[a]?=c.heap[a]?
 |[],_,_,_,_=>rfl
 |v::f,d,c,a,e=>by rw[anJ,zl b f _ _ a e];simp only[apz,Array.getElem?_modify];grind
theorem uw (b:X):∀(e:ak0) (c:X) (a:bH),(a.setCells b c e).heap.size=a.heap.size
 |[],_,_=>rfl
 |v::d,c,a=>by rw[anJ,uw b d];simp
def pW (b:X):∀(d:ak0) (c:X) (a:bH),(a.setCells b c d).os=a.os/\(a.setCells b c d).tape=a.tape/\(a.setCells b c d).output=a.output
 |[],_,_=>⟨bq,bq,bq⟩
 |v::e,c,a=>by rw[anJ];exact pW b e _ _
theorem LW (d:X) (e:ak0) (b:X) (f:bH) (g:∀c,c<e.length->(f.cell? ⟨d,b+c,bv⟩).isSome=bt) (a:X):((f.setCells d b e).cell? ⟨d,a,bv⟩).isSome=(f.cell? ⟨d,a,bv⟩).isSome:=by
 by_cases h:b<=a/\a<b+e.length
 ·obtain⟨c,rfl⟩:∃c,a=b+c:=⟨a-b,aa⟩;grind [am5]
 grind [anK]
theorem Z1 (b:bH) (c:Addr) (d:Value) (a:X):jy (b.setCell c d) a=jy b a:=by unfold jy apz;grind
def BM (d:X):∀(f:ak0) (b:X) (c:bH) (a:X),jy (c.setCells d b f) a=jy c a
 |[],_,_,_=>rfl
 |v::e,b,c,a=>by rw[anJ,BM d e (b+1),Z1]
theorem sr {vs:ak0} {o:X} {w:bH} (a:i≠b):eF w (w.setCells b o vs) i:=.of_heap (zl b vs o w i a)
theorem Nx {P:b3} {ty:bN} {ek:TypeInfo} (c1:P.underlying z=Y (.slice a)) (ap:fv P e a) (d1:P.info? a=Y ek) (d6:e.size<=1300) {R:bA Addr} {c:X} {q I:bp e.den} {s:eC} (U:a5 d f (.osl e) [.slice t i b] q k) (V:k0 d f e R I s) (bl:k.Nodup) (cs:∀h∈k,∀o,¬d o h) (f8:s.flatten.Nodup) (dl:∀h∈k,h∉s.flatten) (cv:∀o h,d o h->h<f.heap.size) (ds:∀h∈k,h<f.heap.size) (d9:∀h∈s.flatten,h<f.heap.size) (d3:q.length+I.length<=h1):∃an p f2,(am3 #[z,z] ty #[.slice t i b,.slice R I.length c]).run P f=.ok an p/\a5 d p (.osl e) [an] (q++I) f2/\a5 d p (.osl e) [.slice t i b] q k/\f2.Nodup/\(∀h∈f2,h∈k\/h∈s.flatten\/(f.heap.size<=h/\h<p.heap.size))/\f.heap.size<=p.heap.size/\p.os=f.os/\p.tape=f.tape/\p.output=f.output/\(∀h,h<f.heap.size->h∉k->p.heap[h]?=f.heap[h]?)/\(∀o h,d o h->eF f p h)/\(∀h∈s.flatten,eF f p h)/\(∀h,h<f.heap.size->jy p h=jy f h):=by
 obtain⟨rfl,av,y,ce,fz,fT,d8⟩:=k0.osl U;have bs:=ap.pos;obtain⟨G,am,gf,ex,gi⟩:=ce.cells bs;obtain⟨v,el,em,eq,gc⟩:=V.cells bs;have a4:=ce.1;have f5:=V.1;obtain⟨an,p,T,dg⟩:=V1 (P:=P) (w:=f) (ty:=ty) c1 ap d1 d6 (ad:=t) (yd:=R) (n:=q.length) (cap:=b) (m:=I.length) (c:=c) (olds:=G) (news:=v) am (λh K l x A=>ex h K ae l x A) (λh K=>by grind) av (λM=>by grind) el em (λh K f6 l x A=>eq h K ae l x A) (λM=>by rcases V.2 with rfl|⟨h,ge,E,_⟩;rfl;grind) (λh K=>by
   grind) d3
 have ft:(y++s).flatten=y.flatten++s.flatten:=ac;have f7:(y++s).flatten.Nodup:=ae;have S:∀(g:X) (F:e.den) (C:ak6),(q++I)[g]?=Y F->(y++s)[g]?=Y C->a5 d f e (((G++v).drop (g*e.size)).take e.size) F C/\∀h∈C,h∈y.flatten\/h∈s.flatten:=by
  intro g F C j L;rcases cY g q.length with E|E
  ·rw[rm E] at j;rw[rm aa] at L;have u:(g+1)*e.size<=q.length*e.size:=iX _ E;rw[kL,kM] at u;rw[sJ aa,uX ae];grind [amy,alo]
  rw[qe E] at j;rw[qe aa,a4] at L;have u:q.length*e.size<=g*e.size:=iX _ E;rw[List.drop_append,rj aa,iD,am,show g*e.size-q.length*e.size=(g-q.length)*e.size by rw[Nat.sub_mul]];grind [amy,alo]
 rcases dg with⟨d5,rfl,d7⟩|⟨ci,co,f1,f0,rfl,D,d0,f3,fs,fr⟩
 ·rcases d7 with⟨rfl,rfl⟩|⟨h,rfl,rfl⟩
  ·have fp:b=0:=ae;obtain rfl:q=[]:=rk aa;obtain rfl:I=[]:=rk aa;exact⟨_,p,k,T,ae,U,bl,λh K=>.inl K,bg _,bq,bq,bq,λ_ _ _=>rfl,λ_ _ _=>eF.refl _ _,λ_ _=>eF.refl _ _,λ_ _=>rfl⟩
  rcases d8 with⟨M,_⟩|⟨r,B,M,rfl,a0⟩
  ·cases M
  cases M;have fn:r∉y.flatten:=(lx.1 bl).1;have c2:r∉s.flatten:=dl r ac;have d4:(q.length+I.length)*e.size<=b*e.size:=iX _ d5;rw[kL] at d4;have bx:∀l,l<v.length->(f.cell? ⟨r,B+q.length*e.size+l,bv⟩).isSome=bt:=λl A=>(a0 _ aa aa).1;have J:∀o g,d o g->d o g/\eF f (f.setCells r (B+q.length*e.size) v) g:=λo g j=>⟨j,sr (λO=>cs r ac o (O▸j))⟩;have a3:jb (f.setCells r (B+q.length*e.size) v) r B (B+b*e.size):=λl u N=>(by rw[LW r v _ f bx,aou];exact a0 l u N);have fl:∀l x,(G++v)[l]?=Y x->(f.setCells r (B+q.length*e.size) v).cell? ⟨r,B+l,bv⟩=Y x:=by
   intro l x A;rcases cY l G.length with E|E
   ·grind [al7,anK,List.getElem?_append_left]
   rw[qe E] at A;obtain⟨H,rfl⟩:∃H,l=G.length+H:=⟨l-G.length,aa⟩;rw[sN] at A;have Q:H<v.length:=(ih.1 A).1;rw[am,<-sM,am5 r v _ f bx H Q];grind
  refine⟨_,_,r::(y++s).flatten,T,?_,?_,?_,?_,by rw[uw];omega,(pW _ _ _ _).1,(pW _ _ _ _).2.1,(pW _ _ _ _).2.2,?_,λo g j=>(J o g j).2,λg j=>sr (λO=>c2 ae),λg _=>BM _ _ _ _ _⟩
  ·refine⟨Y ⟨r,B,bv⟩,b,ac,.inr ⟨r,B,y++s,bq,bq,ae,ae,a3,λg F C j L=>?_⟩⟩;obtain⟨u,N⟩:=S g F C j L;refine⟨_,u.len,λl x A=>?_,u.mono J (λH Q=>sr (λO=>?_))⟩
   ·have d2:(G++v)[g*e.size+l]?=Y x:=by
     grind
    grind
   grind
  ·refine⟨Y ⟨r,B,bv⟩,b,bq,.inr ⟨r,B,y,bq,bq,a4,av,a3,λg F C j L=>?_⟩⟩;have f4:g<q.length:=(ih.1 j).1;obtain⟨u,N⟩:=S g F C ae ae;refine⟨_,u.len,λl x A=>?_,u.mono J (λH Q=>sr (λO=>?_))⟩
   ·have d2:(G++v)[g*e.size+l]?=Y x:=by
     grind
    grind
   grind
  ·grind
  ·grind
  grind [zl]
 have J:∀o g,d o g->d o g/\eF f p g:=λo g j=>⟨j,.of_heap (D.heap g (cv o g j))⟩;have f9:∀l,p.cell? ⟨f.heap.size,l,bv⟩=co[l]?/\p.frozen? ⟨f.heap.size,l,bv⟩=br:=λl=>(by simp[aml,World.frozen?,d0]);refine⟨_,p,f.heap.size::(y++s).flatten,T,?_,U.mono J (λg j=>.of_heap (D.heap g (ds g j))),?_,?_,D.size,D.os,D.tape,D.output,λg j _=>D.heap g j,λo g j=>(J o g j).2,λg j=>.of_heap (D.heap g (d9 g j)),λg j=>(eF.of_heap (D.heap g j)).2⟩
 ·refine⟨Y ⟨f.heap.size,0,bv⟩,ci,ac,.inr ⟨f.heap.size,0,y++s,bq,bq,ae,ae,λl _ N=>?_,λg F C j L=>?_⟩⟩
  ·grind
  obtain⟨u,N⟩:=S g F C j L;refine⟨_,u.len,λl x A=>?_,u.mono J (λH Q=>.of_heap (D.heap H ?_))⟩
  ·grind
  grind
 ·grind
 grind
section
def gD.get:∀{p:bp bd} {b:ao} {c j:b.den} {e:ao} {k:e.den},gD b c p e k j->∃d,e7 b c p e d
 |[],b,c,_,_,_,a=>by obtain⟨rfl,_⟩:=gD.gY.1 a;exact⟨c,e7.gY.2 ⟨bq,bq⟩⟩
 |s::p,b,_,_,_,_,a=>by
  cases b<;>cases s<;>simp only[gD] at a
  case osl.idx=>obtain⟨g,f,i,a,_⟩:=a;obtain⟨d,h⟩:=gD.get (p:=p) a;exact⟨d,g,i,h⟩
  case optr.deref=>exact gD.get (p:=p) a
  case st.unst=>exact gD.get (p:=p) a
  case pr.fst=>obtain⟨f,a,_⟩:=a;exact gD.get (p:=p) a
  case pr.snd=>obtain⟨f,a,_⟩:=a;exact gD.get (p:=p) a
theorem gD.same:∀{p:bp bd} {c:ao} {b:c.den} {d:ao} {f:d.den},e7 c b p d f->gD c b p d f b
 |[],c,b,_,_,a=>by grind [gD.gY,e7.gY]
 |s::p,c,b,_,_,a=>by
  cases c<;>cases s<;>simp only[e7] at a
  case osl.idx i=>
   obtain⟨e,g,a⟩:=a;refine⟨e,e,g,gD.same (p:=p) a,?_⟩;grind [List.set_getElem_self,alT]
  case optr.deref=>exact gD.same (p:=p) a
  case st.unst=>exact gD.same (p:=p) a
  case pr.fst=>exact⟨b.1,gD.same (p:=p) a,bq⟩
  case pr.snd=>exact⟨b.2,gD.same (p:=p) a,bq⟩
def Gd {a:N} {c:X->N}:fA [(b,P)] (λ_=>a) c b=a:=by simp[fA,eX]
section
variable {E:fY} {C:fb} {st:aW} {a:Act} {A:akY} {w:bH} {I:X->Prop} {rt:X->ak0} {fp:X->ak6} {o:bU}
theorem afE {c:X} (j:g.length=c) (f:jb w i b (b+c)) (d:X):uJ w (w.setCells i b g) (Y (i,b)) c d:=by
 have k:∀a,a<g.length->(w.cell? ⟨i,b+a,bv⟩).isSome=bt:=λa h=>(f _ aa aa).1;refine⟨λa h=>anK i g b w _ (λe _=>?_),λa=>aou _ _ _ _ _,λa=>?_,BM _ _ _ _ _⟩
 ·grind
 by_cases e:d=i
 ·grind [LW]
 rw[((sr (w:=w) (o:=b) (vs:=g) e).1 a).1]
theorem c6.agc (q:c6 C st A w I rt fp) {id:X} (r:ay st.h id=Y P) {F:ak0} (N:a8 w P.1 bv (rt id) n e (Y (b,i)) F) {x:e.den} {s:P.1.den} (D:gD P.1 P.2 n e x s) {p:ak6} (E:a5 (cG I C.B) w e y x p) (fr:p.Nodup) (a3:id∉k) (eq:∀a∈p,(∃G,∃U:e.den,e.lm=bt/\a5 (cG I C.B) w e F U G/\a∈G)\/∃c∈k,∃f,ay st.h c=Y f/\a∈fp c):jb w b i (i+e.size)/\∃rtn fpn,c6 C ⟨kill (id::k) [(id,n)] st.g,(id,⟨P.1,s⟩)::del (id::k) st.h⟩ A (w.setCells b i y) I rtn fpn/\rtn id=rt id/\a8 (w.setCells b i y) P.1 bv (rt id) n e (Y (b,i)) y:=by
 obtain⟨cs,R,ek⟩:=q.tree id P r;obtain⟨U,ci⟩:=D.get;obtain⟨f0,d5,ad,T,am,d7,an,J,d8,ap,av⟩:=FE n (loc:=bv) cs (λ_ _ j=>by cases j) R (λ_ _ j=>by cases j) (q.notM r) ci;obtain⟨_,ax,V⟩:=N.mC am;subst ax;subst V;obtain⟨_,z⟩:=an b i bq;have el:b∈T:=ae;have bl:b∈fp id:=J.mem_iff.2 ae;have Q:=J.nodup_iff.1 R;rw[j3] at Q;obtain⟨fl,O,fn⟩:=Q;have em:∀a∈p,a∈ad\/∃c∈k,∃f,ay st.h c=Y f/\a∈fp c:=λa d=>(by grind [a5.uniq]);have fs:∀c∈k,∀f,ay st.h c=Y f->∀a∈fp c,a∉fp id:=λc m f l a d K=>q.dis c id f P l r (λo=>a3 (o▸m)) a d K;have ce:∀a∈p,a∉T:=λa d K=>ae;have a0:∀v a,cG I C.B v a->a≠b:=λv a d o=>q.notM r b bl v (o▸d);have bs:=afE (w:=w) E.len z;have c1:a5 (cG I C.B) (w.setCells b i y) e y x p:=E.mono (λv a d=>⟨d,sr (a0 v a d)⟩) (λa d=>sr (λo=>ce a d ae));have ft:∀u,u<y.length->(w.cell? ⟨b,i+u,bv⟩).isSome=bt:=λu t=>(z _ aa (by have:=E.len;omega)).1;have d9:fC (w.setCells b i y) b i y:=λu d2 t=>(by grind [bV,am5,alT]);obtain⟨d6,H,c2,_,dl,_,fz,ds,dg⟩:=ap (w.setCells b i y) (cG I C.B) y x p s (λ_ _ j=>j) (λa _=>bs a) c1 (λj=>by cases j) (λd3 f1 o=>by grind) D;obtain rfl:=dl bq (.inl ac);have bx:∀a∈H,a∈fp id\/∃c∈k,∃f,ay st.h c=Y f/\a∈fp c:=λa d=>ae;have a4:=q.eK (S:=id::k) (keep:=[(id,n)]) (new:=[(id,⟨P.1,s⟩)]) (rtn:=λ_=>rt id) (fpn:=λ_=>H) (w':=w.setCells b i y) (I':=I) ⟨?_,(pW _ _ _ _).1,(pW _ _ _ _).2.1,(pW _ _ _ _).2.2,?_,λa _=>.of_eq (BM _ _ _ _ _),λ_ j=>j,λ_ j=>.inl j,?_,?_,?_,?_⟩
 ·exact⟨z,_,_,a4,by rw[Gd],ds⟩
 ·grind [uw]
 ·grind [zl]
 ·intro c f l;rw[eX] at l;split at l
  ·rename_i o;subst o;cases l;refine⟨.inl ac,c2,?_,λa d=>?_⟩
   ·grind
   rcases bx a d with j|⟨c,m,f,l,j⟩
   ·grind [uw]
   obtain⟨aE,d1,f3,f4⟩:=(q.tree c f l).2.2 a j;grind [uw]
  cases l
 ·intro c u f d2 m t ex;rw[eX] at m t;split at m
  ·split at t
   ·omega
   cases t
  cases m
 ·intro c m f l;simp only[fH] at m;subst m;rw[r] at l;obtain rfl:=gy l;refine⟨⟨P.1,s⟩,?_,bq,bq,⟨_,N.ty⟩,dg⟩;rw[eX,aB bq]
 intro c m f l d0 f6 f5 fT d4 f2 L co O M cv;simp only[fH] at m;subst m;rw[r] at l;obtain rfl:=gy l;refine⟨⟨P.1,s⟩,by rw[eX,aB bq],yv L D M,λa d=>?_⟩;obtain⟨aE,d1⟩:=av d0 _ _ _ _ _ L (by exact co) M O cv a d;grind [anL,sr]
theorem c6.store (p:c6 C st A w I rt fp) {id:X} (v:ay st.h id=Y P) {b:X} {c:ak0} (s:a8 w P.1 bv (rt id) n e (Y (b,i)) c) {o:e.den} {m:P.1.den} (u:gD P.1 P.2 n e o m) {S2:ak6} (x:a5 (cG I C.B) w e y o k) (t:k.Nodup) (q:id∉S2) (r:∀a∈k,(∃d,∃D:e.den,e.lm=bt/\a5 (cG I C.B) w e c D d/\a∈d)\/∃j∈S2,∃z,ay st.h j=Y z/\a∈fp j):jb w b i (i+e.size)/\∃l f,c6 C ⟨kill (id::S2) [(id,n)] st.g,(id,⟨P.1,m⟩)::del (id::S2) st.h⟩ A (w.setCells b i y) I l f:=by obtain⟨E,l,f,F,_⟩:=p.agc v s u x t q r;grind
inductive xv where
 |e9 (s:aW)
 |part (α:Type) (φ:α->Prop) (f:α->aW)
 |bad
def xv.K (c:xv) (Q:aW->Prop):Prop:=
 match c with
 |.e9 d=>Q d
 |.part e f b=>∃a:e,f a/\Q (b a)
 |.bad=>b7
def fI (E:fY) (C:fb) (o:bU) (st:aW) (Q:aW->Prop):Prop:=
 ∀(a:Act) (w:bH),g0 C st a.tmps w->∀(next:Act->bH->Prop) (e:ca->Act->bH->Prop),(∀c b d,Q c->b.defers=a.defers->g0 C c b.tmps d->next b d)->o.wp E.P a w next e
variable {Q:aW->Prop}
def fI.eval {an:bp (X×ao)} (j:o.dst=Y b) (l:C.ok b) (i:(hj E.tt an st.h (bc st.g) b o.op).K (λc e=>Q ⟨(b,c)::st.g,e++st.h⟩)):fI E C o st Q:=by
 rintro a w ⟨I,rt,fp,d⟩ next r m
 exact(XN d i).wp d j l (λc e f q n k p=>m _ f q n k p)
def sk (b:bp (X×aT)) (c:au):bA (X×bp bd):=
 match c with
 |.addr id a=>Y (id,a)
 |.ref id a=>match ay b id with
  |some ⟨d,_⟩=>match gk d a with
   |some (.optr _)=>Y (id,a++[.deref])
   |_=>bv
  |none=>bv
 |_=>bv
def G7 (
 tt:bp (bN×ao)) (st:aW) (m:bN) (o v:au):xv:=
 match sk st.h o with
 |none=>.bad
 |some (
  id,p)=>match ay st.h id,ay tt m with
  |some ⟨b,e⟩,Y n=>match gk b p with
   |none=>.bad
   |some c=>bif bi n c then match v with
    |.ref d i=>match ay st.h d with
     |some ⟨r,j⟩=>bif bL id d then .bad else
      .part (c.den×b.den) (λa=>e7 r j i c a.1/\gD b e p c a.1 a.2) (λa=>⟨kill [id,d] [(id,p)] st.g,(id,⟨b,a.2⟩)::del [id,d] st.h⟩)
     |none=>.bad
    |.app d i f q l=>if _e:c=.osl f then
     .part (bp f.den×b.den) (λa=>d=id/\i=p/\e7 b e p (.osl f) a.1/\gD b e p (.osl f) (a.1++q) a.2) (λa=>⟨kill (id::l) [(id,p)] st.g,(id,⟨b,a.2⟩)::del (id::l) st.h⟩) else .bad
    |v=>match coe c v with
     |some j=>.part b.den (λk=>gD b e p c j k) (λk=>⟨kill [id] [(id,p)] st.g,(id,⟨b,k⟩)::del [id] st.h⟩)
     |none=>.bad
   else .bad
  |_,_=>.bad
theorem aec (m:c6 C st a.tmps w I rt fp) {id:X} (b:sk st.h (bc st.g c)=Y (id,n)) (k:ay st.h id=Y P) (v:gk P.1 n=Y e):∃j q r,a.eval c=.pointer (Y ⟨j,q,bv⟩)/\a8 w P.1 bv (rt id) n e (Y (j,q)) r:=by
 have i:=m.bc c;unfold sk at b;generalize B:a.eval c=E at i;split at b
 ·rename_i y A l;cases b;rw[l] at i;cases i with|addr f d=>
  rw[k] at f;cases f;have:=d.ty;grind
 ·rename_i y A l;split at b
  case h_2=>cases b
  rename_i G F p;split at b
  case h_2=>cases b
  rename_i D x;cases b;rw[k] at p;cases p;rw[l] at i;cases i with|ref f d=>
  rw[k] at f;cases f;have:=d.ty;rw[x] at this;cases this;obtain⟨j,z,u,rfl,s,t⟩:=qS (m.tree id _ k).1 d;have o:=d.append (a8.Jb s t);have:=o.ty;rw[v] at this;cases this;exact⟨j,z,u,bq,o⟩
 grind
theorem agb (k:ay E.tt z=Y e) (m:bi e q=bt) (t:o.op=.store z h c) (u:a.eval h=.pointer (Y ⟨i,b,bv⟩)) (r:(a.eval c).cells=g.toArray) (s:g.length=q.size) (j:∀c∈g,c.oneCell'=bt) (f:jb w i b (b+q.size)):(bT a.eval o).run E.P w=.ok .skip (w.setCells i b g):=by have p:=(E.ok z e k).lay m;have n:=run_storeCells_cells (P:=E.P) i b g 0 w (λd l=>by simpa using(f (b+d) aa aa).1) (λd l=>by simpa using(f (b+d) aa aa).2) j;simp only[nu] at n;have:(storeVar z ⟨i,b,bv⟩ (a.eval c)).run E.P w=.ok () (w.setCells i b g):=(by simp only[storeVar,r,b8,p.sizeOf,cd];grind);simp_all [bT,Instr.storeAt,amz]
theorem aga (c2:o.op=.store z h c) (bl:o.dst=bv) (b:(G7 E.tt st z (bc st.g h) (bc st.g c)).K Q):fI E C o st Q:=by
 rintro a w ⟨I,rt,fp,f⟩ next ap c1
 have i:=f.bc c;unfold G7 at b;split at b
 ·exact b.elim
 rename_i id fn dl;split at b
 case h_2=>exact b.elim
 rename_i f1 f0 am q S;split at b
 ·exact b.elim
 rename_i u d1;cases v:bi am u with
 |false=>rw[v] at b;exact b.elim
 |true=>
 rw[v] at b;simp only[bI] at b;obtain⟨O,L,d8,d2,x⟩:=aec f dl q d1;have G:=(E.ok z am S).lay v;have F:∀(k:ak0) (M:aW) (e:X->ak0) (d:X->ak6),(a.eval c).cells=k.toArray->k.length=u.size->(∀c∈k,c.oneCell'=bt)->jb w O L (L+u.size)->c6 C M a.tmps (w.setCells O L k) I e d->Q M->o.wp E.P a w next ap:=by
  intro k M e d ax B a0 a3 d0 ds;unfold alJ;rw[agb S v c2 d2 ax B a0 a3];show next (a.put o.dst bZ) _
  rw[bl];exact c1 _ _ _ ds bq ⟨I,e,d,d0⟩
 split at b
 ·rename_i j V D;split at b
  case h_2=>exact b.elim
  rename_i f3 fz A;cases T:bL id j with
  |true=>rw[T] at b;exact b.elim
  |false=>
   rw[T] at b;obtain⟨⟨N,an⟩,⟨ce,p⟩,b⟩:=b;have eq:id≠j:=λR=>ag;rw[D] at i;generalize J:a.eval c=d6 at i;cases i with|ref r H=>
   rw[A] at r;cases r;obtain⟨t,ad,fr⟩:=f.tree j _ A;obtain⟨fl,d9,f2,fs,d4,s,_,U,_⟩:=JG V (τ':=u) (y:=N) t (loc:=bv) (λ_ _ b=>by cases b) ad (λ_ _ b=>by cases b) (f.notM A) ce;obtain⟨rfl,rfl,rfl⟩:=H.mC d4;have cv:f2.Nodup:=(j3.1 (U.nodup_iff.1 ad)).1;obtain⟨n,e,d,m⟩:=f.store q x p s cv (S2:=[j]) ae (λav a4=>.inr ⟨j,ac,_,A,U.mem_iff.2 ae⟩);exact F _ _ e d (by rw[J];exact pb G s.len s.one) s.len s.one n m b
 ·rename_i j V d7 fT d5 D;split at b
  case isFalse=>exact b.elim
  rename_i R;subst R;obtain⟨⟨ft,an⟩,⟨rfl,rfl,bs,p⟩,b⟩:=b;rw[D] at i;generalize J:a.eval c=d6 at i;cases i with|app r co H bx ek el l dg ex cs=>
  rw[q] at r;cases r;obtain rfl:=e7.uniq bs bx;obtain⟨_,ax,B⟩:=x.mC H;subst ax;subst B;have em:(ao.osl d7).lm=bt:=co;obtain⟨n,e,d,m⟩:=f.store q x p l cs (S2:=d5) (λci=>(dg _ ci).1 bq) (λav a4=>by
   grind)
  exact F _ _ e d (by rw[J];have:=pb G l.len l.one;exact this) l.len l.one n m b
 split at b
 case h_2=>exact b.elim
 rename_i N d3;obtain⟨an,p,b⟩:=b;have t:=Iu G i d3;obtain⟨n,e,d,m⟩:=f.store q x p t ac (S2:=[]) ac ac;exact F _ _ e d ac t.len t.one n m b
end
end
section
theorem FD (a:bp (bp N)) (c b:X):((a.take b).drop c).flatten.Sublist a.flatten:=by have d:a.flatten=((a.take b).take c).flatten++((a.take b).drop c).flatten++(a.drop b).flatten:=(by grind [List.flatten_append,amC]);grind
section
variable {E:fY} {C:fb} {st:aW} {a:Act} {A:akY} {w:bH} {I:X->Prop} {rt:X->ak0} {fp:X->ak6} {o:bU} {Q:aW->Prop}
def Dq (c:bp (X×ao)) (st:aW) (a:X) (i:au):xv:=
 match i with
 |.ref id []=>match ay st.h id with
  |some b=>.e9 ⟨(a,.ref a [])::kill [id,a] [] st.g,(a,b)::del [id,a] st.h⟩
  |none=>.bad
 |.ref id f=>bif bL id a then .bad else .e9 ⟨(a,.ref id f)::kill [a] [] st.g,del [a] st.h⟩
 |.view id [] e d=>match ay st.h id with
  |some ⟨.osl b,j⟩=>.e9 ⟨(a,.ref a [])::kill [id,a] [] st.g,(a,⟨.osl b,(j.take d).drop e⟩)::del [id,a] st.h⟩
  |_=>.bad
 |.eN (.slice bv 0 0)=>match ay c a with
  |some (.osl b)=>.e9 ⟨(a,.ref a [])::kill [a] [] st.g,(a,⟨.osl b,[]⟩)::del [a] st.h⟩
  |_=>.bad
 |_=>.bad
theorem rB.one {w':bH} {I':X->Prop} {S:ak6} {d:X} {t:aT} {cs:ak0} {f:ak6} (x:d∈S\/ay st.h d=bv) (j:w.heap.size<=w'.heap.size) (k:w'.os=w.os) (l:w'.tape=w.tape) (m:w'.output=w.output) (n:∀a,a<w.heap.size->(∀id∈S,∀t,ay st.h id=Y t->a∉fp id)->w'.heap[a]?=w.heap[a]?) (q:∀a,a<w.heap.size->jy w' a=jy w a) (o:∀a,I a->I' a) (p:∀a,I' a->I a\/(a<w'.heap.size/\(w.heap.size<=a\/∃id∈S,∃t,ay st.h id=Y t/\a∈fp id))) (A:a5 (cG I' C.B) w' t.1 cs t.2 f) (y:f.Nodup) (g:∀a∈f,¬I' a/\a<w'.heap.size/\(w.heap.size<=a\/∃i∈S,∃u,ay st.h i=Y u/\a∈fp i)):rB C st w w' I I' rt fp S [] [(d,t)] (λ_=>cs) (λ_=>f):=by
 refine⟨j,k,l,m,n,λa g=>.of_eq (q a g),o,p,?_,?_,(λid r=>by grind),(λid r=>by grind)⟩
 ·intro s v e;rw[eX] at e;split at e
  ·grind
  cases e
 intro s D v E b c z;rw[eX] at b c;split at b
 ·split at c
  ·omega
  cases c
 cases b
theorem fI.V6 (d5:o.op=.assign c) (d1:o.dst=Y b) (ad:C.ok b) (e:(Dq l st b (bc st.g c)).K Q):fI E C o st Q:=by
 rintro a w ⟨I,rt,fp,s⟩ next U d4
 have n:=s.bc c;have an:(bT a.eval o).run E.P w=.ok (.value (a.eval c)) w:=(by simp[bT,d5]);have H:∀(T:aW) (rtn:X->ak0) (fpn:X->ak6),c6 C T (a.tmps.setIfInBounds b (a.eval c)) w I rtn fpn->Q T->o.wp E.P a w next U:=by
  intro T rtn fpn x M;unfold alJ;rw[an];show next (a.put o.dst (a.eval c)) w
  rw[d1];exact d4 _ _ _ M bq ⟨I,rtn,fpn,x⟩
 have z:∀(S:ak6) (i:aT) (A:ak0) (p:ak6),b∈S->a5 (cG I C.B) w i.1 A i.2 p->p.Nodup->(∀k∈p,∃a3∈S,∃ek,ay st.h a3=Y ek/\k∈fp a3)->a.eval c=eY i.1 A->Q ⟨(b,.ref b [])::kill S [] st.g,(b,i)::del S st.h⟩->o.wp E.P a w next U:=by
  intro S i A p d2 x D u d6 M;have v:=s.eK (rB.one (st:=st) (C:=C) (rt:=rt) (w':=w) (I':=I) (S:=S) (d:=b) (t:=i) (cs:=A) (f:=p) (.inl d2) (bg _) rfl rfl rfl (λ_ _ _=>rfl) (λ_ _=>rfl) (λ_ e=>e) (λ_ e=>.inl e) x D (λk dl=>by
   obtain⟨F,q,el,v,ds⟩:=u k dl;obtain⟨aE,d8,a4,bl⟩:=(s.tree F el v).2.2 k ds;grind))
  refine H _ _ _ (v.put ad (av:=.ref b []) ?_) M;rw[d6];refine .ref (t:=i) (loc:=bv) (by rw[lL,eX,aB bq];rfl) ?_;rw[Gd];exact a8.here
 unfold Dq at e;split at e
 ·rename_i id m;split at e
  case h_2=>exact e.elim
  rename_i i y;rw[m] at n;obtain⟨R,bs,d9⟩:=s.tree id i y;refine z [id,b] i (rt id) (fp id) ac R bs (λk u=>⟨id,ac,i,y,u⟩) ?_ e;generalize ap:a.eval c=bx at n;cases n with|ref N am=>
  grind [a8.gY]
 ·rename_i id O _ m;cases u:bL id b with
  |true=>rw[u] at e;exact e.elim
  |false=>
   rw[u] at e;have f2:id≠b:=λfs=>ag;have v:=s.eK (S:=[b]) (keep:=[]) (new:=[]) (rtn:=rt) (fpn:=fp) (w':=w) (I':=I) ⟨bg _,bq,bq,bq,λ_ _ _=>rfl,λ_ _=>.refl _ _,λ_ e=>e,λ_ e=>.inl e,(λ_ _ e=>by cases e),(λ_ _ _ _ e=>by cases e),(λ_ e=>by cases e),(λ_ e=>by cases e)⟩;refine H _ _ _ (v.put ad (av:=.ref id O) ?_) e;have:=v.bc (a:=a) c;have ft:bc (kill [b] [] st.g) c=.ref id O:=by
    cases c with
    |tmp i=>
     show gt (kill [b] [] st.g) i=_;rw[sb,show gt st.g i=.ref id O from m];grind [hQ,gb,fy,au.fK,au.ids,e6,absurd]
    |const em=>exact absurd m (by cases em<;>simp[bc])
    |global fz|func p=>cases m
   grind
 ·rename_i id j q m;split at e
  case h_2=>exact e.elim
  rename_i i ce y;rw[m] at n;obtain⟨R,bs,d9⟩:=s.tree id _ y;generalize ap:a.eval c=bx at n z H an;cases n with|mN=>(exact z [id,b] ⟨.osl i,[]⟩ [.slice bv 0 0] [] ac ⟨bv,0,bq,.inl ⟨bq,bq,bq,bq⟩⟩ ac ac bq e)|view N am f3 f4 f5=>
  rename_i k G f6 r;rw[y] at N;cases N;obtain⟨ax,_,c1⟩:=a8.gY.1 am;cases ax;obtain⟨ex,fn,L,x⟩:=R;rw[c1] at L;simp only[iC,alh,cf] at L;obtain⟨rfl,rfl,rfl⟩:=L;rcases x with⟨J,_⟩|⟨fl,f7,V,J,f0,aE,d8,a4,bl⟩
  ·cases J
  cases J;have d3:((ce.take q).drop j).length=q-j:=ae;refine z [id,b] ⟨.osl i,(ce.take q).drop j⟩ [.slice (Y ⟨k,if r=j then G else G+j*i.size,bv⟩) (q-j) (r-j)] (k::((V.take q).drop j).flatten) ac ?_ ?_ ?_ bq e
  ·refine⟨Y ⟨k,if r=j then G else G+j*i.size,bv⟩,r-j,by rw[d3],.inr ⟨k,_,(V.take q).drop j,bq,bq,ae,ae,?_,?_⟩⟩
   ·intro d7 c2 dg;by_cases d0:r=j
    ·grind
    rw[aA d0] at c2 dg;have:j*i.size+(r-j)*i.size=r*i.size:=(by rw[<-kL];grind);exact a4 d7 aa aa
   intro F eq p a0 D;have f1:F<q-j:=ae;rw[qf,sK aa] at a0 D;obtain⟨cv,ci,fr,co⟩:=bl (j+F) eq p a0 D;refine⟨cv,ci,?_,co⟩;grind
  ·grind [List.nodup_cons,FD]
  grind [FD,anv]
 ·rename_i m;split at e
  case h_2=>exact e.elim
  rename_i i fT;rw[m] at n;refine z [b] ⟨.osl i,[]⟩ [.slice bv 0 0] [] ac ⟨bv,0,bq,.inl ⟨bq,bq,bq,bq⟩⟩ ac ac ?_ e;generalize ap:a.eval c=bx at n;cases n;rfl
 exact e.elim
end
end
section
inductive mw (σ:ao) where
 |e9 (ys:bp σ.den)
 |part (α:Type) (φ:α->Prop) (f:α->bp σ.den)
 |bad
def sA (g:bp (X×aT)) (b:ao) (k:au):mw b:=
 match k with
 |.val (.bb _ j) a=>if e:j=b then .e9 (e▸a) else .bad
 |.eN (.slice bv 0 0)=>.e9 []
 |.ref id c=>match ay g id with
  |some ⟨f,d⟩=>bif b.pure then .part (bp b.den) (λa=>e7 f d c (.osl b) a) (λa=>a) else .bad
  |none=>.bad
 |.view id c i h=>match ay g id with
  |some ⟨f,d⟩=>bif b.pure then .part (bp b.den) (λa=>e7 f d c (.osl b) a) (λa=>(a.take h).drop i) else .bad
  |none=>.bad
 |_=>.bad
def mw.to {f:ao} (g:mw f) (c:X->Prop) (b:bp f.den->aW):xv:=
 match g with
 |.e9 e=>.part bw (λ_=>c e.length) (λ_=>b e)
 |.part h i d=>.part h (λa=>i a/\c (d a).length) (λa=>b (d a))
 |.bad=>.bad
def Do (
 tt:bp (bN×ao)) (t:bp (X×ao)) (st:aW) (a:X) (s:bN) (j k:au):xv:=
 match hd tt s with
 |none=>.bad
 |some o=>match j with
  |.ref id []=>match ay st.h id with
   |some ⟨.osl b,d⟩=>bif bi o b&&b5 b.size 1300 then
    match b.pure,k with
    |false,.ref n []=>match ay st.h n with
     |some ⟨.osl v,c⟩=>if e:v=b then bif bL id n then .bad else .part bw (λ_=>d.length+c.length<=h1) (λ_=>⟨(a,.ref a [])::kill [id,n,a] [] st.g,(a,⟨.osl b,d++(e▸c)⟩)::del [id,n,a] st.h⟩) else .bad
     |_=>.bad
    |_,k=>(sA st.h b k).to (λl=>d.length+l<=h1) (λc=>⟨(a,.ref a [])::kill [id,a] [] st.g,(a,⟨.osl b,d++c⟩)::del [id,a] st.h⟩)
    else .bad
   |_=>.bad
  |.ref id f=>match ay st.h id,ay st.h a with
   |some ⟨m,j⟩,bv=>match gk m f with
    |some (.osl b)=>bif bi o b&&b5 b.size 1300&&b.lm then
     match sA st.h b k with
     |.e9 c=>.part (bp b.den) (λd=>e7 m j f (.osl b) d/\d.length+c.length<=h1) (λ_=>⟨(a,.app id f b c [a])::kill [id] [(id,f),(id,[])] st.g,(a,⟨.eL,()⟩)::(id,⟨m,j⟩)::del [id] st.h⟩)
     |.part u w p=>.part (bp b.den×u) (λi=>e7 m j f (.osl b) i.1/\w i.2/\i.1.length+(p i.2).length<=h1) (λi=>⟨(a,.app id f b (p i.2) [a])::kill [id] [(id,f),(id,[])] st.g,(a,⟨.eL,()⟩)::(id,⟨m,j⟩)::del [id] st.h⟩)
     |.bad=>.bad
     else .bad
    |_=>.bad
   |_,_=>.bad
  |.view id [] r q=>match ay st.h id with
   |some ⟨.osl b,d⟩=>bif bi o b&&b5 b.size 1300 then
    (sA st.h b k).to (λl=>((d.take q).drop r).length+l<=h1) (λc=>⟨(a,.ref a [])::kill [id,a] [] st.g,(a,⟨.osl b,(d.take q).drop r++c⟩)::del [id,a] st.h⟩)
    else .bad
   |_=>.bad
  |.eN (.slice bv 0 0)=>match ay t a with
   |some (.osl b)=>bif bi o b&&b5 b.size 1300 then
    (sA st.h b k).to (λl=>l<=h1) (λc=>⟨(a,.ref a [])::kill [a] [] st.g,(a,⟨.osl b,c⟩)::del [a] st.h⟩)
    else .bad
   |_=>.bad
  |_=>.bad
section
variable {E:fY} {C:fb} {st:aW} {a:Act} {A:akY} {w:bH} {I:X->Prop} {rt:X->ak0} {fp:X->ak6} {o:bU} {Q:aW->Prop}
def z8 (I:X->Prop) (e:X->Prop) (w:bH) (d:ao) (g:Value) (c:bp d.den):Prop:=
 ∃b f a,g=.slice b c.length f/\k0 (cG I e) w d b c a/\a.flatten=[]
def JC {b:eC} (c:∀a∈b,a=[]):b.flatten=[]:=by
 induction b with
 |nil=>rfl
 |cons f g e=>rw[mq,c f ac,e (λa d=>c a (ht _ d))];rfl
theorem k0.pure {f:eW->X->Prop} {e:ao} {g:bA Addr} {d:bp e.den} {c:eC} (i:e.pure=bt) (a:k0 f w e g d c):c.flatten=[]:=by
 refine JC (λm h=>?_);obtain⟨q,a⟩:=a;obtain⟨b,n,rfl⟩:=hV.1 h;rcases a with rfl|⟨k,o,_,a⟩
 ·grind
 have p:b<d.length:=aa;obtain⟨l,_,_,j⟩:=a b d[b] c[b] ac ac;exact j.pure i
def mw.holds {c:ao} (e:mw c) (b:bp c.den):Prop:=
 match e with
 |.e9 f=>b=f
 |.part g h d=>∃a:g,h a/\b=d a
 |.bad=>b7
def mw.He {f:mw e} {g:bp e.den->aW} (b:(f.to j g).K Q):∃a,f.holds a/\j a.length/\Q (g a):=by
 unfold mw.to at b;cases f with
 |e9 a=>obtain⟨_,c,d⟩:=b;exact⟨a,bq,c,d⟩
 |part l m k=>obtain⟨h,⟨c,d⟩,i⟩:=b;exact⟨k h,⟨h,c,bq⟩,d,i⟩
 |bad=>exact b.elim
theorem w5 (x:c6 C st a.tmps w I rt fp) {s:bp e.den} (b:(sA st.h e (bc st.g c)).holds s):z8 I C.B w e (a.eval c) s:=by
 have f:=x.bc c;unfold sA at b;generalize V:a.eval c=bl at f;split at b
 ·rename_i av a4 q j;split at b
  case isFalse=>exact b.elim
  rename_i n;subst n;obtain rfl:s=q:=b;rw[j] at f;cases f with|val E=>
  have N:=E;obtain⟨_,t,m,rfl,_⟩:=N;obtain⟨_,d⟩:=k0.bb E;exact⟨t,m,_,bq,d,ac⟩
 ·rename_i j;obtain rfl:s=[]:=b;rw[j] at f;cases f;exact⟨bv,0,[],bq,⟨bq,.inl bq⟩,bq⟩
 ·rename_i id M j;split at b
  case h_2=>exact b.elim
  rename_i P O o;cases k:e.pure with
  |false=>rw[k] at b;exact b.elim
  |true=>
   rw[k] at b;obtain⟨q,y,rfl⟩:=b;rw[j] at f;cases f with|ref p z=>
   rw[o] at p;cases p;obtain⟨rfl,u,r,_⟩:=x.r8 o y z;have L:=r;obtain⟨t,m,rfl,_⟩:=L;obtain⟨_,_,v,d,_⟩:=k0.osl r;exact⟨t,m,v,bq,d,d.pure k⟩
 ·rename_i id M i l j;split at b
  case h_2=>exact b.elim
  rename_i P O o;cases k:e.pure with
  |false=>rw[k] at b;exact b.elim
  |true=>
   rw[k] at b;obtain⟨q,y,rfl⟩:=b;rw[j] at f;cases f with|mN=>(exact⟨bv,0,[],bq,⟨bq,.inl bq⟩,bq⟩)|view p z ad am an=>
   rename_i F a3 ap m;rw[o] at p;cases p;obtain⟨n,u,r,_⟩:=x.r8 o y z;cases n;obtain⟨ax,_,v,d,_⟩:=k0.osl r;have K:((q.take l).drop i).length=l-i:=ae;show z8 I C.B w e _ ((q.take l).drop i);refine⟨_,m-i,(v.take l).drop i,by rw[K],⟨by simp[d.1],?_⟩,?_⟩
   ·obtain⟨T,d⟩:=d;by_cases U:l=i
    ·grind
    right;rcases d with rfl|⟨Q,a0,n,d⟩
    ·grind
    cases n;refine⟨F,_,bq,λD c u f A=>?_⟩;have S:D<l-i:=ae;rw[qf,sK aa] at f A;obtain⟨J,G,R,H⟩:=d (i+D) c u f A;refine⟨J,G,?_,H⟩;grind
   have:=d.pure k;grind [FD]
 exact b.elim
theorem ag9 {c f l a:X} {m:bp e.den} (p:a5 d w (.osl e) [.slice (Y ⟨c,f,bv⟩) l i] m k) (B:k.Nodup) (D:b<=a) (E:a<=l) (F:l<=i):∃h,a5 d w (.osl e) [.slice (Y ⟨c,if i=b then f else f+b*e.size,bv⟩) (a-b) (i-b)] ((m.take a).drop b) h/\h.Nodup/\∀o∈h,o∈k:=by
 obtain⟨y,A,n,u⟩:=p;simp only[iC,alh,cf] at n;obtain⟨rfl,rfl,rfl⟩:=n;rcases u with⟨j,_⟩|⟨z,G,g,j,rfl,aE,H,x,I⟩
 ·cases j
 cases j;have t:((m.take a).drop b).length=a-b:=ae;have C:((g.take a).drop b).flatten.Sublist g.flatten:=FD _ _ _;refine⟨c::((g.take a).drop b).flatten,⟨Y ⟨c,if i=b then f else f+b*e.size,bv⟩,i-b,by rw[t],.inr ⟨c,_,(g.take a).drop b,bq,bq,ae,aa,?_,?_⟩⟩,?_,?_⟩
 ·intro v q r;by_cases s:i=b
  ·grind
  rw[aA s] at q r;have:b*e.size+(i-b)*e.size=i*e.size:=(by rw[<-kL];grind);exact x v aa aa
 ·grind
 ·grind
 grind
def Nw (b:o.op=.call {callee:=.builtin .append,args:=#[c,h],argTypes:=#[z,z]}) (d:(am3 #[z,z] o.type #[a.eval c,a.eval h]).run E.P w=.ok R f):(bT a.eval o).run E.P w=.ok (.value R) f:=by simp only[bT,b,resolve,invoke,builtin,b8,alp,cd,List.map_toArray,ir,sL,d]
theorem fI.Ac {L M:bS} (c1:o.op=.call {callee:=.builtin .append,args:=#[L,M],argTypes:=#[z,z]}) (ap:o.dst=Y b) (a4:C.ok b) (r:c6 C st a.tmps w I rt fp) {next:Act->bH->Prop} (cv:∀K A n,Q K->A.defers=a.defers->g0 C K A.tmps n->next A n) (ad:hd E.tt z=Y q) (ce:bi q e=bt) (ds:e.size<=1300) {S:ak6} (a0:b∈S) {D:bA Addr} {J F:X} {xs s:bp e.den} {f1:ak6} {x:eC} {N:bA Addr} (fs:a.eval L=.slice D J F) (dl:a5 (cG I C.B) w (.osl e) [.slice D J F] xs f1) (bs:f1.Nodup) (ex:∀j∈f1,∃k∈S,∃l,ay st.h k=Y l/\j∈fp k) (ft:a.eval M=.slice N s.length i) (bl:k0 (cG I C.B) w e N s x) (bx:x.flatten.Nodup) (fl:∀j∈x.flatten,∃k∈S,∃l,ay st.h k=Y l/\j∈fp k) (a3:∀j∈f1,j∉x.flatten) (ci:xs.length+s.length<=h1) (c2:Q ⟨(b,.ref b [])::kill S [] st.g,(b,⟨.osl e,xs++s⟩)::del S st.h⟩):o.wp E.P a w next u:=by
 obtain⟨k,ek,el,T,U⟩:=hd.ok ad;have G:=U.lay ce;obtain⟨fz,_,d1,_⟩:=G.info;have fr:∀k l,ay st.h k=Y l->∀j∈fp k,j<w.heap.size/\∀H,¬cG I C.B H j:=λk l y j m=>⟨((r.tree k l y).2.2 j m).2.2.1,r.notM y j m⟩;obtain⟨v,n,f2,f4,d3,_,aU,d4,d5,d6,d7,d8,d2,f5,_,d9⟩:=Nx (P:=E.P) (ty:=o.type) T G d1.info ds dl (c:=i) bl bs (λj m=>by grind) bx a3 (λH j co=>r.ib j (od co)) (λj m=>by grind) (λj m=>by grind) ci;have dg:(bT a.eval o).run E.P w=.ok (.value v) n:=Nw (E:=E) c1 ae;have an:∀j∈f2,(∃k∈S,∃l,ay st.h k=Y l/\j∈fp k)\/(w.heap.size<=j/\j<n.heap.size):=λj m=>by
  rcases d4 j m with p|p|p
  ·grind
  ·grind
  omega
 have d0:=r.eK (rB.one (st:=st) (C:=C) (rt:=rt) (w':=n) (I':=I) (S:=S) (d:=b) (t:=⟨.osl e,xs++s⟩) (cs:=[v]) (f:=f2) (.inl a0) d5 d6 d7 d8 (λj m em=>d2 j m (λeq=>by grind)) d9 (λ_ p=>p) (λ_ p=>.inl p) d3 aU (λj m=>by
   rcases an j m with⟨k,fn,l,y,am⟩|⟨O,R⟩
   ·obtain⟨aE,fT,f0,f3⟩:=(r.tree k l y).2.2 j am;grind
   exact⟨λV=>by have:=r.ib j (.inl V);omega,R,.inl O⟩))
 unfold alJ;rw[dg];show next (a.put o.dst v) n
 rw[ap];refine cv _ _ _ c2 bq ⟨I,_,_,d0.put a4 (av:=.ref b []) ?_⟩;have:v=eY (.osl e) [v]:=rfl;rw[this];refine .ref (t:=⟨.osl e,xs++s⟩) (loc:=bv) (by rw[lL,eX,aB bq];rfl) ?_;rw[Gd];exact a8.here
end
end
section
section
variable {E:fY} {C:fb} {st:aW} {a:Act} {A:akY} {w:bH} {I:X->Prop} {rt:X->ak0} {fp:X->ak6} {o:bU} {Q:aW->Prop}
theorem Nz {a3 fT:bS} (i1:o.op=.call {callee:=.builtin .append,args:=#[a3,fT],argTypes:=#[z,z]}) (ci:o.dst=Y b) (hc:C.ok b) (p:c6 C st a.tmps w I rt fp) {next:Act->bH->Prop} (i0:∀ft a4 w',Q ft->a4.defers=a.defers->g0 C ft a4.tmps w'->next a4 w') {a0:ao} (gf:hd E.tt z=Y a0) (ic:bi a0 q=bt) (i8:q.size<=1300) (dl:q.lm=bt) {id:X} (hi:bc st.g a3=.ref id n) {m:e.den} (v:ay st.h id=Y ⟨e,m⟩) (gt:ay st.h b=bv) {y R:bp q.den} (cv:e7 e m n (.osl q) y) {S2:ak6} (kg:∃d1 H D,a.eval fT=.slice d1 R.length H/\k0 (cG I C.B) w q d1 R D/\D.flatten.Nodup/\∀d∈D.flatten,∃f∈S2,∃A,ay st.h f=Y A/\d∈fp f) (ce:∀f∈S2,f≠id/\∃a0,ay st.h f=Y a0) (ii:y.length+R.length<=h1) (el:Q ⟨(b,.app id n q R (b::S2))::kill [id] [(id,n),(id,[])] st.g,(b,⟨.eL,()⟩)::(id,⟨e,m⟩)::del [id] st.h⟩):o.wp E.P a w next u:=by
 obtain⟨f,os,bx,f8,f9⟩:=hd.ok gf;have d4:=f9.lay ic;obtain⟨rg,_,l2,_⟩:=d4.info;have ds:=p.bc a3;rw[hi] at ds;generalize kd:a.eval a3=sz at ds;cases ds with|ref r dg=>
 rename_i s1 d2 f0;rw[v] at r;cases r;simp only at dg;obtain⟨mc,fn,mo⟩:=p.tree id _ v;obtain⟨ro,pl,J,d0,f4,d3,f5,T,ra,f6,f7⟩:=FE n (loc:=bv) mc (λ_ _ j=>by cases j) fn (λ_ _ j=>by cases j) (p.notM v) cv;obtain⟨f1,ax,f3⟩:=dg.mC f4;subst f1;subst ax;subst f3;have ek:=T.nodup_iff.1 fn;rw[j3] at ek;obtain⟨io,d9,is⟩:=ek;obtain⟨bl,bs,rfl,_⟩:=(show a5 (cG I C.B) w (.osl q) f0 y J from d3);obtain⟨d1,H,D,lc,hr,hv,cs⟩:=kg;have ad:∀d∈J,d∈fp id:=λd i=>T.mem_iff.2 ae;have c2:∀d∈fp id,d<w.heap.size/\∀N,¬cG I C.B N d:=λd i=>⟨(mo d i).2.2.1,p.notM v d i⟩;have lb:∀d∈D.flatten,d<w.heap.size:=λd i=>(by obtain⟨f,l,A,am,U⟩:=cs d i;exact((p.tree f A am).2.2 d U).2.2.1);obtain⟨fz,w',f2,mt,mz,fs,nd,ne,nn,no,nx,n7,fr,sl,_,of⟩:=Nx (P:=E.P) (ty:=o.type) f8 d4 l2.info i8 d3 (c:=H) hr io (λd i=>(c2 d (ad d i)).2) hv (λd i go=>by
  obtain⟨f,l,A,am,U⟩:=cs d go;exact p.dis id f _ A v am (ce f l).1.symm d (ad d i) U)
  (λN d d8=>p.ib d (od d8)) (λd i=>(c2 d (ad d i)).1) lb ii
 have i3:(bT a.eval o).run E.P w=.ok (.value fz) w':=Nw (E:=E) i1 (by rw[kd,lc];exact mt);have em:∀d∈d0,d<w.heap.size/\d∉J:=λd i=>⟨(c2 d (T.mem_iff.2 ae)).1,λj=>is d j d i bq⟩;have eq:∀d,(∃N,cG I C.B N d)\/d∈d0->eF w w' d:=λd i=>by
  rcases i with⟨N,d8⟩|i
  ·grind
  exact .of_heap (fr d (em d i).1 (em d i).2)
 have gi:∀d O,d2=Y (d,O)->fC w' d O [.slice bl y.length bs]:=λd O k=>(by have i:d∈d0:=ae;exact(f5 d O k).1.sm (eq d (.inr i)));obtain⟨pm,K,rl,_,le,_,lf,lk⟩:=f6 w' (cG I C.B) [.slice bl y.length bs] y J m (λ_ _ j=>j) (λd i=>by
  have V:eF w w' d:=eq d (by
   rcases i with j|j|⟨O,j⟩
   ·grind
   ·grind
   grind)
  exact⟨λx _=>(V.1 x).1,λx=>(V.1 x).2,λx=>by rw[(V.1 x).1],V.2⟩) fs (λ_ _=>rfl) gi (gD.same cv)
 obtain rfl:=le bq (.inr bq);have rb:K.Perm (fp id):=lf.trans T.symm;have s:b≠id:=λk=>ae;have d6:∀d∈f2,d∈J\/d∈D.flatten\/(w.heap.size<=d/\d<w'.heap.size):=λd i=>ne d i
 let L:=f2.filter λd=>bz (w.heap.size<=d)
 have hs:∀d∈L,w.heap.size<=d/\d<w'.heap.size:=λd i=>by
  have gl:=h4.1 i;have bx:w.heap.size<=d:=ae;rcases d6 d gl.1 with j|j|j
  ·grind
  ·grind
  omega
 have jp:=p.eK (S:=[id]) (keep:=[(id,n),(id,[])]) (new:=[(b,⟨.eL,()⟩),(id,⟨e,m⟩)]) (rtn:=λf=>if f=b then[] else rt id) (fpn:=λf=>if f=b then L else K) (w':=w') (I':=I) ⟨nn,no,nx,n7,λd i ge=>fr d i (λj=>ge id ac _ v (ad d j)),λd i=>.of_eq (of d i),λ_ j=>j,λ_ j=>.inl j,(by
   intro f G l;rw[eX] at l;split at l
   ·rename_i k;subst k;cases l;refine⟨.inr gt,(by simp only[cp];exact bq),ae,λd i=>?_⟩;simp only[cp] at i;obtain⟨aE,ap⟩:=hs d i;exact⟨λgc=>by have:=p.ib d (.inl gc);omega,ap,.inl aE⟩
   ·rw[eX] at l;split at l
    ·rename_i _ k;subst k;grind
    cases l),(by
   intro f x ol on l hw rd d i;have d5:∀an G,ay [(b,(⟨.eL,()⟩:aT)),(id,⟨e,m⟩)] an=Y G->an=b\/an=id:=λan G F=>by
    rw[eX] at F;split at F
    ·omega
    rw[eX] at F;split at F
    ·omega
    cases F
   have M:¬(id=b):=λk=>s k.symm;rcases d5 f ol l with rfl|rfl<;>rcases d5 x on hw with rfl|rfl
   ·omega
   ·grind
   ·grind
   omega),(by
   intro f l G r;have c1:f=(id,n)\/f=(id,[]):=ae;have bx:f.1=id:=ae;have r:ay st.h id=Y G:=ae;rw[v] at r;obtain rfl:=gy r;have M:¬(id=b):=λk=>s k.symm;refine⟨⟨e,m⟩,by rw[bx,eX,aA s,eX,aB bq],bq,ae,(by rcases c1 with rfl|rfl;exact⟨_,dg.ty⟩;exact⟨e,by cases e<;>rfl⟩),λfl _ _ _ F el=>?_⟩;grind [Ka]),(by
   intro f l G r fl tf s0 lo oN pr ci dl d9 d7 i2;have c1:f=(id,n)\/f=(id,[]):=ae;rcases c1 with rfl|rfl
   ·rw[v] at r;obtain rfl:=gy r;have M:¬(id=b):=λk=>s k.symm;refine⟨⟨e,m⟩,by rw[eX,aA s,eX,aB bq],d7,λH gs=>?_⟩;obtain⟨aE,ap⟩:=f7 fl _ _ _ _ _ ci (by exact dl) d7 d9 i2 H gs;grind
   grind [yu])⟩
 unfold alJ;rw[i3];show next (a.put o.dst fz) w'
 rw[ci];refine i0 _ _ _ el bq ⟨I,_,_,jp.put hc (av:=.app id n q R (b::S2)) ?_⟩;have M:¬(id=b):=λk=>s k.symm;have ll:ay ([(b,(⟨.eL,()⟩:aT)),(id,⟨e,m⟩)]++del [id] st.h) id=Y ⟨e,m⟩:=(by rw[lL,eX,aA s,eX,aB bq];rfl);have lo:ay ([(b,(⟨.eL,()⟩:aT)),(id,⟨e,m⟩)]++del [id] st.h) b=Y ⟨.eL,()⟩:=(by rw[lL,eX,aB bq];rfl);have ex:ay [(b,(⟨.eL,()⟩:aT)),(id,⟨e,m⟩)] id=Y ⟨e,m⟩:=(by rw[eX,aA s,eX,aB bq]);have lt:ay [(b,(⟨.eL,()⟩:aT)),(id,⟨e,m⟩)] b=Y ⟨.eL,()⟩:=(by rw[eX,aB bq]);have pv:fA [(b,(⟨.eL,()⟩:aT)),(id,⟨e,m⟩)] (λf=>if f=b then L else K) fp id=K:=(by simp only[fA,ex,aA M]);have ps:fA [(b,(⟨.eL,()⟩:aT)),(id,⟨e,m⟩)] (λf=>if f=b then L else K) fp b=L:=(by simp only[fA,lt,cp]);have mp:fA [(b,(⟨.eL,()⟩:aT)),(id,⟨e,m⟩)] (λf=>if f=b then[] else rt id) rt id=rt id:=(by simp only[fA,ex,aA M]);have ix:a8 w' e bv (rt id) n (.osl q) d2 [.slice bl y.length bs]:=lk.1;refine .app (t:=⟨e,m⟩) ll dl (by rw[mp];exact ix) cv fs (λd i=>by grind) mz ?_ ?_ nd
 ·intro f l;rcases gn.1 l with rfl|l
  ·grind
  obtain⟨aE,or,ap⟩:=ce f l;have co:¬(b=f):=λk=>ae;refine⟨aE,or,?_⟩;rw[lL,eX,aA co,eX,aA (λk=>aE k.symm),oc,aA ae,ap];rfl
 intro d i;rcases d6 d i with j|j|j
 ·grind
 ·obtain⟨f,l,A,am,U⟩:=cs d j;obtain⟨aE,_⟩:=ce f l;have co:¬(b=f):=λk=>ae;have rs:ay [(b,(⟨.eL,()⟩:aT)),(id,⟨e,m⟩)] f=bv:=(by rw[eX,aA co,eX,aA (λk=>aE k.symm)];rfl);exact .inr ⟨f,ht _ l,by grind [fA]⟩
 grind
def Ny {p:bS} (N:o.op=.call {callee:=.builtin .append,args:=#[c,p],argTypes:=#[z,z]}) (A:o.dst=Y b) (F:C.ok b) (x:c6 C st a.tmps w I rt fp) {next:Act->bH->Prop} (M:∀j d l,Q j->d.defers=a.defers->g0 C j d.tmps l->next d l) {k:ao} (y:hd E.tt z=Y k) (J:bi k e=bt) (R:e.size<=1300) (L:e.lm=bt) {id:X} (G:bc st.g c=.ref id n) {i:q.den} (S:ay st.h id=Y ⟨q,i⟩) (D:ay st.h b=bv) {m f:bp e.den} (H:e7 q i n (.osl e) m) (T:z8 I C.B w e (a.eval p) f) (K:m.length+f.length<=h1) (O:Q ⟨(b,.app id n e f [b])::kill [id] [(id,n),(id,[])] st.g,(b,⟨.eL,()⟩)::(id,⟨q,i⟩)::del [id] st.h⟩):o.wp E.P a w next u:=by obtain⟨U,r,s,t,v,V⟩:=T;exact Nz (S2:=[]) N A F x M y J R L G S D H ⟨U,r,s,t,v,ae,ae⟩ ac K O
end
end
section
section
variable {E:fY} {C:fb} {st:aW} {o:bU} {Q:aW->Prop}
theorem fI.app {d0:bp (X×ao)} {U:bN} {z L:bS} {s:X} (y:o.op=.call {callee:=.builtin .append,args:=#[z,L],argTypes:=#[U,U]}) (v:o.dst=Y s) (w:C.ok s) (a:(Do E.tt d0 st s U (bc st.g z) (bc st.g L)).K Q):fI E C o st Q:=by
 rintro A J ⟨F,R,H,c⟩ next fs x
 have q:=c.bc z;unfold Do at a;split at a
 ·exact a.elim
 rename_i T u;split at a
 ·rename_i id t;split at a
  case h_2=>exact a.elim
  rename_i e l f;cases b:(bi T e&&b5 e.size 1300) with
  |false=>rw[b] at a;exact a.elim
  |true=>
  rw[b] at a;simp only[cL] at b;obtain⟨j,d⟩:=b;have d:=g8 d;simp only[bI] at a;rw[t] at q;generalize D:A.eval z=dl at q;cases q with|ref I ap=>
  rw[f] at I;cases I;obtain⟨ax,_,G⟩:=a8.gY.1 ap;subst ax;subst G;obtain⟨O,P,ex⟩:=c.tree id _ f;obtain⟨a3,ad,fT,_⟩:=(show a5 (cG F C.B) J (.osl e) (R id) l (H id) from O);have c1:A.eval z=.slice a3 l.length ad:=(by rw[D];show(R id).headD bZ=_;grind);have dg:a5 (cG F C.B) J (.osl e) [.slice a3 l.length ad] l (H id):=ae;split at a
  ·rename_i k f3 d1;split at a
   case h_2=>exact a.elim
   rename_i ds r N;split at a
   case isFalse=>exact a.elim
   rename_i bs;subst bs;cases bx:bL id k with
   |true=>rw[bx] at a;exact a.elim
   |false=>
   rw[bx] at a;have d5:id≠k:=λbs=>(by grind [anG]);obtain⟨_,h,a⟩:=a;have av:=c.bc L;rw[d1] at av;generalize p:A.eval L=gc at av;cases av with|ref cv d4=>
   rw[N] at cv;cases cv;obtain⟨ax,_,G⟩:=a8.gY.1 d4;subst ax;subst G;obtain⟨fl,fp,f9⟩:=c.tree k _ N;obtain⟨a4,bl,f0,_⟩:=(show a5 (cG F C.B) J (.osl ds) (R k) r (H k) from fl);have d6:A.eval L=.slice a4 r.length bl:=(by rw[p];show(R k).headD bZ=_;grind);have fn:a5 (cG F C.B) J (.osl ds) [.slice a4 r.length bl] r (H k):=ae;obtain⟨_,_,M,n,ci,d3,_⟩:=k0.osl fn;exact fI.Ac y v w c x u j d (S:=[id,k,s]) ac c1 dg P (λm b=>⟨id,ac,_,f,b⟩) d6 n (d3 fp) (λm b=>⟨k,ac,_,N,ci m b⟩) (λm b d2=>c.dis id k _ _ f N d5 m b (ci m d2)) h a
  obtain⟨r,i,h,a⟩:=mw.He a;obtain⟨a0,V,M,p,n,am⟩:=w5 c i;exact fI.Ac y v w c x u j d (S:=[id,s]) ac c1 dg P (λm b=>⟨id,ac,_,f,b⟩) p n ae ae ae h a
 ·rename_i id f8 f4 t;split at a
  case h_2=>exact a.elim
  rename_i gi ge f ce;split at a
  case h_2=>exact a.elim
  rename_i e f5;cases b:(bi T e&&b5 e.size 1300&&e.lm) with
  |false=>rw[b] at a;exact a.elim
  |true=>
  rw[b] at a;simp only[cL] at b;obtain⟨⟨j,d⟩,cs⟩:=b;have d:=g8 d;simp only[bI] at a;split at a
  ·rename_i r i;obtain⟨l,⟨an,h⟩,a⟩:=a;exact Ny y v w c x u j d cs t f ce an (w5 c (by rw[i];exact bq)) h a
  ·rename_i gf gl ft i;obtain⟨⟨l,el⟩,⟨an,d7,h⟩,a⟩:=a;exact Ny y v w c x u j d cs t f ce an (w5 c (by rw[i];exact⟨el,d7,bq⟩)) h a
  exact a.elim
 ·rename_i id c2 co t;split at a
  case h_2=>exact a.elim
  rename_i e l f;cases b:(bi T e&&b5 e.size 1300) with
  |false=>rw[b] at a;exact a.elim
  |true=>
  rw[b] at a;simp only[cL] at b;obtain⟨j,d⟩:=b;have d:=g8 d;simp only[bI] at a;rw[t] at q;obtain⟨O,P,ex⟩:=c.tree id _ f;generalize D:A.eval z=dl at q;cases q with|mN=>(obtain⟨r,i,h,a⟩:=mw.He a;obtain⟨a0,V,M,p,n,am⟩:=w5 c i;exact fI.Ac y v w c x u j d (S:=[id,s]) ac (xs:=[]) (f1:=[]) D ⟨bv,0,bq,.inl ⟨bq,bq,bq,bq⟩⟩ ac ac p n ae ae ac ae ae)|view I ap d8 d9 ek=>
  rename_i m f7 f6 ad;rw[f] at I;cases I;obtain⟨ax,_,G⟩:=a8.gY.1 ap;cases ax;obtain⟨r,i,h,a⟩:=mw.He a;obtain⟨a0,V,M,p,n,am⟩:=w5 c i;rw[G] at O;obtain⟨fr,aE,em,eq⟩:=ag9 (show a5 (cG F C.B) J (.osl e) _ l (H id) from O) P d8 d9 ek;have f2:((l.take co).drop c2).length=co-c2:=(by grind [k0.osl]);exact fI.Ac y v w c x u j d (S:=[id,s]) ac D aE em (λm b=>⟨id,ac,_,f,eq m b⟩) p n ae ae ae h a
 ·rename_i t;split at a
  case h_2=>exact a.elim
  rename_i e fz;cases b:(bi T e&&b5 e.size 1300) with
  |false=>rw[b] at a;exact a.elim
  |true=>
  rw[b] at a;simp only[cL] at b;obtain⟨j,d⟩:=b;have d:=g8 d;simp only[bI] at a;rw[t] at q;generalize D:A.eval z=dl at q;cases q;obtain⟨r,i,h,a⟩:=mw.He a;obtain⟨a0,V,M,p,n,am⟩:=w5 c i;exact fI.Ac y v w c x u j d (S:=[s]) ac (xs:=[]) (f1:=[]) D ⟨bv,0,bq,.inl ⟨bq,bq,bq,bq⟩⟩ ac ac p n ae ae ac ae ae
 exact a.elim
end
end
section
def jf (E:fY) (C:fb) (A:bX bU) (g:ak6) (st:aW) (Q:aW->Prop):Prop:=
 ∀(a:Act) (e:bH),g0 C st a.tmps e->∀c:ca->Act->bH->Prop,(∀d b f,Q d->b.defers=a.defers->g0 C d b.tmps f->c .normal b f)->wpOps E.P A c g a e
def ls (A:bX bU) (st:aW) (d:bU) (a:bD):Prop:=
 match d.guard with
 |none=>a=bt
 |some (c,e)=>match(A[c]?).bind (·.dst) with
  |some b=>match gt st.g b with
   |.val .bool f=>(f==e)=a
   |.eN (.tuple _)=>a=br
   |_=>b7
  |none=>b7
section
variable {E:fY} {C:fb} {st:aW} {A:bX bU} {Q:aW->Prop}
theorem ls.ok {b:Act} (h:c6 C st b.tmps f j r s) {l:bU} {g:bD} (d:ls A st l g):anM l (yielded A b.tmps)=g:=by
 unfold ls at d;unfold anM;split at d
 ·grind
 rename_i t w m;rw[m];split at d
 ·rename_i c i;split at d
  ·rename_i q e;have:=h.tmp c;rw[e] at this;generalize a:b.tmps.getD c bZ=p at this;cases this with|val o=>
   obtain⟨_,rfl⟩:=o;have n:b.tmps[c]?=Y (.bool q):=by
    rw[aov] at a;cases k:b.tmps[c]? with
    |none=>rw[k] at a;cases a
    |some v=>rw[k] at a;simp only[sP] at a;rw[a];rfl
   simp only[yielded,i,aF,n];rw[<-d];grind
  ·rename_i u e;have:=h.tmp c;rw[e] at this;generalize a:b.tmps.getD c bZ=p at this;cases this;subst d;simp only[yielded,i,aF];rw[aov] at a;grind
  grind
 grind
def jf.nil (b:Q st):jf E C A [] st Q:=λa e c _ d=>d st a e b bq c
def jf.op {a:bU} (p:A[b]?=Y a) (t:ls A st a bt) (i:fI E C a st (λd=>jf E C A k d Q)):jf E C A (b::k) st Q:=by intro f v c e q;obtain⟨y,B,z,l⟩:=id c;simp only[wpOps,p];rw[t.ok l,aB bq];exact .inl (i f v c _ _ (λd g w o m r=>o g w r e (λu h x j n s=>q u h x j (n.trans m) s)))
theorem jf.skip {a:bU} (r:A[i]?=Y a) (o:a.dst=Y b) (q:C.ok b) (u:ls A st a br) (l:jf E C A k ⟨(b,.eN bZ)::st.g,st.h⟩ Q):jf E C A (i::k) st Q:=by intro z x n e s;obtain⟨d,v,j,c⟩:=id n;simp only[wpOps,r];rw[u.ok c,aA ac,o];exact l _ x ⟨d,v,j,c.put q (.eN bZ)⟩ e (λw f y m p t=>s w f y m p t)
def g0.Ap {b:akY} {c:bH} {st a:aW} (f:g0 C st b c) (j:pC a.g st) (k:pD a.h st) (l:m6 a.g a.h=bt):g0 C a b c:=by obtain⟨d,m,e,i⟩:=f;exact⟨d,m,e,i.Ap j k (m6.get l)⟩
def J (E:fY) (C:fb) (e:cA) (st:aW) (Q:ca->aW->Prop):Prop:=
 ∀(a:Act) (d:bH),g0 C st a.tmps d->a.defers=[]->e.wp E.P (λf b g=>∃c,Q f c/\g0 C c b.tmps g/\b.defers=[]) a d
variable {R:ca->aW->Prop}
def J.ahc {a:cA} (f:pC O.g st) (i:pD O.h st) (j:m6 O.g O.h=bt) (c:J E C a O R):J E C a st R:=λb k d e=>c b k (d.Ap f i j) e
theorem J.region {id:X} (c:jf E C A (bK A.size) st (λa=>R .normal a)):J E C (.region id A br) st R:=
 λb i d e=>wp_region (c b i d _ (λa _a' _w' g f h=>⟨a,g,h,f.trans e⟩))
theorem J.skip (a:R .normal st):J E C .skip st R:=λ_ _ b c=>wp_skip ⟨st,a,b,c⟩
theorem J.exit {id:X} (a:R (.exit id) st):J E C (.exit id) st R:=λ_ _ b c=>wp_exit ⟨st,a,b,c⟩
theorem J.ret (a:R .ret st):J E C .ret st R:=λ_ _ b c=>wp_ret ⟨st,a,b,c⟩
def afD (E:fY) (C:fb) (b:cA) (R:ca->aW->Prop):ca->aW->Prop
 |.normal,a=>J E C b a R
 |e,a=>R e a
def J.seq {d e:cA} (i:J E C d st (afD E C e R)):J E C (.seq d e) st R:=λf m j k=>by
 refine wp_seq (wp_mono (i f m j k) ?_);rintro h g n ⟨l,a,b,c⟩;cases h with
 |normal=>exact a g n b c
 |_=>exact⟨l,a,b,c⟩
def J.cond {a:bS} {l m:cA} {c:bD} (n:bc st.g a=.val .bool c) (p:c=bt->J E C l st R) (o:c=br->J E C m st R):J E C (.cond a l m) st R:=by
 rintro b k ⟨f,j,h,e⟩ i;have:=e.bc a;rw[n] at this;generalize q:b.eval a=s at this;cases this with|val r=>
 obtain⟨_,rfl⟩:=r;exact wp_cond_split q (λd=>p d b k ⟨f,j,h,e⟩ i) (λd=>o d b k ⟨f,j,h,e⟩ i)
def Ih (id:X) (R:ca->aW->Prop):ca->aW->Prop
 |.exit b,a=>match bL b id with
  |true=>R .normal a
  |false=>R (.exit b) a
 |e,a=>R e a
theorem J.block {id:X} {b:cA} (f:J E C b st (Ih id R)):J E C (.block id b) st R:=λd m i j=>by
 refine wp_block (wp_mono (f d m i j) ?_);rintro e n o ⟨l,a,g,h⟩;cases e with
 |exit c=>
  simp only[Exit.inBlock];simp only[Ih] at a;by_cases k:c=id
  ·subst k;rw[anG] at a;grind
  have:bL c id=br:=(by grind [alX]);grind
 |_=>exact⟨l,a,g,h⟩
def kE {a c:Type} (b:a->bA (a⊕c)):X->a->bA c
 |0,_=>bv
 |n+1,e=>match b e with
  |none=>bv
  |some (.inl f)=>kE b n f
  |some (.inr d)=>Y d
open Classical in
def loop {σ ρ:Type} (a:σ->bA (σ⊕ρ)) (d:σ):bA ρ:=
 if h:∃c,∃b,kE a b d=Y c then Y h.choose else bv
theorem Ks {e g:Type} {f:e->bA (e⊕g)}:∀{n b:X} {d:e} {c:g},n<=b->kE f n d=Y c->kE f b d=Y c
 |0,_,_,_,_,a=>by cases a
 |n+1,0,_,_,a,_=>by omega
 |n+1,b+1,d,c,h,a=>by
  simp only[kE] at a|-;split at a
  ·cases a
  ·exact Ks aa a
  omega
theorem yR {c:N->bA (N⊕S)} {d:N} {b:S}:loop c d=Y b↔∃a,kE c a d=Y b:=by
 unfold loop;constructor
 ·intro g;split at g
  ·grind
  grind
 rintro⟨a,f⟩;have e:∃b,∃a,kE c a d=Y b:=⟨b,a,f⟩;rw[dif_pos e];obtain⟨h,j⟩:=e.choose_spec;have i:=Ks (Nat.le_max_left a h) f;grind [Ks,Nat.le_max_right]
theorem Qk (c:N->bA (N⊕S)) (d:N):loop c d=match c d with
 |none=>bv
 |some (.inl f)=>loop c f
 |some (.inr e)=>Y e:=by
 apply Option.ext;intro e;rw[yR];cases i:c d with
 |none=>
  simp only[reduceCtorEq,iff_false];rintro⟨a,b⟩;cases a with
  |zero=>cases b
  |succ a=>grind [kE]
 |some g=>
  cases g with
  |inl f=>
   simp only;rw[yR];constructor
   ·rintro⟨a,b⟩;cases a with
    |zero=>cases b
    |succ a=>grind [kE]
   rintro⟨a,b⟩;exact⟨a+1,by grind [kE]⟩
  |inr j=>
   simp only;constructor
   ·rintro⟨a,b⟩;cases a with
    |zero=>cases b
    |succ a=>grind [kE]
   intro h;exact⟨1,by grind [kE]⟩
theorem J.loop {σ ρ K:Type} {b:cA} (lH:σ->aW) {z:σ->bA (σ⊕ρ)} {s:σ} {w:ρ->bA K} {I:K} (N:(loop z s).bind w=Y I) (T:pC (lH s).g st) (U:pD (lH s).h st) (V:m6 (lH s).g (lH s).h=bt) (S:∀d q,z d=Y q->(match q with|.inl _=>True|.inr G=>w G=Y I)->J E C b (lH d) (λc t=>match q with
  |.inl r=>c=.normal/\pC (lH r).g t/\pD (lH r).h t/\m6 (lH r).g (lH r).h=bt
  |.inr _=>(c=.normal->b7)/\R c t)):J E C (.loop b) st R:=by
 obtain⟨G,am,bl⟩:=fh.1 N;obtain⟨p,i⟩:=yR.1 am;have ap:∀(p:X) (d:σ) (e:Act) (l:bH),kE z p d=Y G->g0 C (lH d) e.tmps l->e.defers=[]->∀(j:Frame) (w:bp Item) (k:bp Frame),
  ∃c v B,(∃t,R c t/\g0 C t v.tmps B/\v.defers=[])/\Arrives E.P (lone (j.at e (.code b::.inLoop b::w)) k l) j w k c v B:=by
  intro p
  induction p with
  |zero=>intro d e l i;cases i
  |succ p an=>
   intro d e l i D F j A k;simp only[kE] at i;cases H:z d with
   |none=>grind
   |some q=>
    rw[H] at i;have Q:=S d q H (by
     grind)
    obtain⟨c,m,u,⟨y,a,o,n⟩,f⟩:=Q e l D F j (.inLoop b::A) k;cases q with
    |inl r=>
     simp only at i a;obtain⟨rfl,aE,av,a0⟩:=a;obtain⟨M,L,a3,ad,O⟩:=an r m u i (o.Ap aE av a0) n j A k;exact⟨M,L,a3,ad,.of_steps (Steps.trans f (.one step_inLoop)) O⟩
    |inr ce=>
     obtain⟨bs,a⟩:=a;cases c with
     |normal=>grind
     |exit id=>exact⟨_,m,u,⟨y,a,o,n⟩,.pass (x:=.inLoop b) rfl (λ_ _=>.inl ac) f⟩
     |goto bx=>exact⟨_,m,u,⟨y,a,o,n⟩,.pass (x:=.inLoop b) rfl (λ_ _=>.inl ac) f⟩
     |ret=>exact⟨_,m,u,⟨y,a,o,n⟩,.pass (x:=.inLoop b) rfl (λ_ _=>.inl ac) f⟩
     |panic a4=>exact⟨_,m,u,⟨y,a,o,n⟩,.pass (x:=.inLoop b) rfl (λ_ _=>.inl ac) f⟩
     |outgrown=>exact⟨_,m,u,⟨y,a,o,n⟩,.pass (x:=.inLoop b) rfl (λ_ _=>.inl ac) f⟩
 refine J.ahc T U V (λe l D F j A k=>?_);obtain⟨c,v,B,a,f⟩:=ap p s e l i D F j A k;exact⟨c,v,B,a,.of_steps (.one step_loop) f⟩
end
end
def ua:eW->eW->bD
 |.bo,_|.dm,.dm=>bt
 |.dm,.bo=>br
def yH:eW->bD
 |.dm=>bt
 |.bo=>br
def eS:ao->ao->bD
 |.int i,.int j=>if i=j then bt else br
 |.bool,.bool|.str,.str|.nil,.nil=>bt
 |.bb c a,.bb d b=>ua c d&&eS a b
 |.osl a,.bb c b=>yH c&&eS a b
 |.ptr c a,.ptr d b=>ua c d&&eS a b
 |.st a,.st b=>eS a b
 |.pr e f,.pr g h=>eS e g&&eS f h
 |.mp a,.fm c b=>yH c&&eS a b
 |.fm c a,.fm d b=>ua c d&&eS a b
 |.fn k a,.fn c b=>bL k c&&eS a b
 |_,_=>br
theorem ua.ok {f e:X->Prop} (h:∀b,j b->e b) {c d:eW} (g:ua c d=bt) (a:cG f j c b):cG f e d b:=by
 cases c<;>cases d
 ·exact a
 ·exact .inl a
 ·cases g
 exact a.imp id (h b)
theorem yH.ok {a:eW} (b:yH a=bt):a=.dm:=by cases a;cases b;rfl
theorem eS.den:∀{e b:ao},eS e b=bt->e.den=b.den:=by
 intro e
 induction e with
 |bb f c d=>
  intro b a;cases b<;>simp only[eS] at a<;>try (cases a;done)
  grind
 |ptr f c d=>
  intro b a;cases b<;>simp only[eS] at a<;>try (cases a;done)
  grind
 |osl c d=>
  intro b a;cases b<;>simp only[eS] at a<;>try (cases a;done)
  grind
 |st c d=>
  intro b a;cases b with
  |st m=>grind [eS]
  |_=>simp only[eS] at a;cases a
 |pr g h i j=>
  intro b a;cases b<;>simp only[eS] at a<;>try (cases a;done)
  grind
 |int k|bool|str|nil=>intro b a;cases b<;>simp only[eS] at a<;>first|rfl|cases a
 |optr c _|eL=>grind [eS]
 |mp c d=>
  intro b a;cases b<;>simp only[eS] at a<;>try (cases a;done)
  grind
 |fm f c d=>
  intro b a;cases b<;>simp only[eS] at a<;>try (cases a;done)
  grind
 |fn l c d=>
  intro b a;cases b<;>simp only[eS] at a<;>try (cases a;done)
  grind
theorem eS.size:∀{c b:ao},eS c b=bt->c.size=b.size:=by
 intro c
 induction c with
 |st i d=>intro b a;cases b<;>simp only[eS] at a<;>first|(simp only[ao.size];exact d a)|cases a
 |pr e f g h=>
  intro b a;cases b<;>simp only[eS] at a<;>try (cases a;done)
  simp only[cL] at a;grind [ao.size]
 |_=>intro b a;cases b<;>simp only[eS] at a<;>first|rfl|cases a
theorem PE (k:N=S) {d:bA (bp (Z×N)×X)} {g:bA (bp (Z×S)×X)} (l:HEq d g):(d=bv/\g=bv)\/∃i a j,d=Y (i,a)/\g=Y (j,a)/\∀e:bp (Z×X×N),nt e i a->∃f:bp (Z×X×S),nt f j a/\f.length=e.length/\∀(h:X) (c:Z×X×S),f[h]?=Y c->∃b:Z×X×N,e[h]?=Y b/\b.1=c.1/\b.2.1=c.2.1/\HEq b.2.2 c.2.2:=by
 subst k;cases l;cases d with
 |none|some m=>grind
theorem eS.eY {a b:ao} (d:eS a b=bt) (c:ak0):eY b c=l0.eY a c:=by cases a<;>cases b<;>simp only[eS] at d<;>first|rfl|cases d
theorem PD (f:S=N) {a:bp S} {b:bp N} (g:HEq a b):b.length=a.length/\∀(e:X) (d:N),b[e]?=Y d->∃c,a[e]?=Y c/\HEq c d:=by subst f;grind
theorem YM (e:N=S) {a:bA N} {c:bA S} (f:HEq a c):(a=bv/\c=bv)\/∃b d,a=Y b/\c=Y d/\HEq b d:=by
 subst e;cases f;cases a with
 |none|some b=>grind
theorem YN {c d:Type} (e:N=c) (f:S=d) {a:N×S} {b:c×d} (g:HEq a b):HEq a.1 b.1/\HEq a.2 b.2:=by grind
theorem a5.dm {E D:X->Prop} (N:∀d,D d->j d):∀{r υ:ao} {e:ak0} {x:r.den} {y:υ.den} {g:ak6},eS r υ=bt->HEq x y->a5 (cG E D) f r e x g->(∀d∈g,j d)->a5 (cG E j) f υ e y []:=by
 intro r
 induction r with
 |int cs=>
  intro υ e x y g a c b _;cases υ<;>simp only[eS] at a<;>try (cases a;done)
  split at a
  ·rename_i K;subst K;cases c;exact⟨bq,b.2⟩
  grind
 |bool|str|nil=>intro υ e x y g a c b _;cases υ<;>simp only[eS] at a<;>first|(cases a;done)|(cases c;exact⟨bq,b.2⟩)
 |optr l _|eL=>grind [eS]
 |mp l k=>
  intro υ e x y g a c b h;cases υ<;>simp only[eS] at a<;>try (cases a;done)
  simp only[cL] at a;obtain rfl:=yH.ok a.1;rcases PE (eS.den a.2) c with⟨rfl,rfl⟩|⟨R,G,S,rfl,rfl,i⟩
  ·exact⟨bq,b.2⟩
  obtain⟨d,v,s,aE,n,z,q,C,U⟩:=b;obtain⟨t,A,p,i⟩:=i s z;refine⟨d,v,t,aE,bq,A,.inr (h d ae),q,aa,λm T P=>?_⟩;grind [eS.size,eS.eY]
 |fm B l k=>
  intro υ e x y g a c b h;cases υ<;>simp only[eS] at a<;>try (cases a;done)
  simp only[cL] at a;rcases PE (eS.den a.2) c with⟨rfl,rfl⟩|⟨R,G,S,rfl,rfl,i⟩
  ·exact⟨bq,b.2⟩
  obtain⟨d,v,s,aE,n,z,O,q,C,U⟩:=b;obtain⟨t,A,p,i⟩:=i s z;refine⟨d,v,t,aE,bq,A,ua.ok N a.1 O,q,aa,λm T P=>?_⟩;grind [eS.size,eS.eY]
 |fn cv l k=>
  intro υ e x y g a c b h;cases υ<;>simp only[eS] at a<;>try (cases a;done)
  rename_i B o;simp only[cL] at a;obtain rfl:=fN a.1;obtain⟨_,V,aE,n⟩:=b;exact⟨bq,V,aE,k (υ:=o) (x:=x) (y:=y) a.2 c n ac⟩
 |st l k=>
  intro υ e x y g a c b h;cases υ with
  |st o=>exact k (υ:=o) (x:=x) (y:=y) (by grind [eS]) c b h
  |_=>simp only[eS] at a;cases a
 |pr J d ci co=>
  intro υ e x y g a c b h;cases υ<;>simp only[eS] at a<;>try (cases a;done)
  rename_i G an;simp only[cL] at a;obtain⟨bl,f2,rfl,w,M⟩:=b;obtain⟨ax,a4⟩:=YN (eS.den a.1) (eS.den a.2) c;have ce:=eS.size a.1;exact⟨[],[],bq,ae,ae⟩
 |bb B l k=>
  intro υ e x y g a c b h;obtain⟨rfl,F,u,rfl,aE,n,q⟩:=b;cases υ<;>simp only[eS] at a<;>try (cases a;done)
  rename_i H o;simp only[cL] at a;obtain⟨p,i⟩:=PD (eS.den a.2) c;refine⟨bq,F,u,by rw[p],aa,n,?_⟩;grind [ua.ok,eS.size,List.eq_nil_of_length_eq_zero]
 |osl l k=>
  intro υ e x y g a c b h;cases υ<;>simp only[eS] at a<;>try (cases a;done)
  rename_i H o;simp only[cL] at a;obtain rfl:=yH.ok a.1;obtain⟨F,u,rfl,b⟩:=b;obtain⟨p,i⟩:=PD (eS.den a.2) c;rcases b with⟨rfl,rfl,rfl,rfl⟩|⟨d,I,L,rfl,rfl,aE,n,q,C⟩
  ·obtain rfl:y=[]:=rk aa;exact⟨bq,bv,0,bq,bg _,λ_=>rfl,.inl bq⟩
  refine⟨bq,Y ⟨d,I,bv⟩,u,by rw[p],aa,(λa=>by cases a),.inr ⟨d,I,bq,.inr (h d ac),λm ad Q=>?_⟩⟩;obtain⟨am,w,M⟩:=i m ad Q;have bx:m<x.length:=(ih.1 w).1;obtain⟨a3,ap,av,a0⟩:=C m am (L[m]'(by omega)) w ac
  grind [anv,amy,b1,eS.size]
 |ptr B l k=>
  intro υ e x y g a c b h;obtain⟨rfl,b⟩:=b;cases υ<;>simp only[eS] at a<;>try (cases a;done)
  rename_i H o;simp only[cL] at a;refine⟨bq,?_⟩;rcases YM (eS.den a.2) c with⟨rfl,rfl⟩|⟨J,d,rfl,rfl,bs⟩
  ·exact b
  grind [ua.ok,eS.size]
inductive oI:(τ:ao)->τ.den->(υ:ao)->υ.den->Prop
 |same {τ υ:ao} {x:τ.den} {y:υ.den} (h:eS τ υ=bt) (YL:HEq x y):oI τ x υ y
 |ptr {t u:ao} {x:t.den} {y:u.den} (h:eS t u=bt) (YL:HEq x y):oI (.optr t) x (.ptr .dm u) (Y y)
theorem oI.rep {h B:X->Prop} (i:∀a,B a->j a) {m:e.den} {n:q.den} (b:oI e m q n) (l:a5 (cG h B) f e g m k) (d:∀a∈k,j a):a5 (cG h j) f q g n []:=by
 cases b with
 |same b c=>exact l.dm i b c d
 |ptr b c=>
  obtain⟨a,r,u,p,rfl,rfl,aE,s,w,t⟩:=l;exact⟨bq,a,r,p,bq,.inr (d a ac),by grind [eS.size],s,t.dm i b c (λo v=>d o ae)⟩
def oI.st {c:e.den} {d:q.den} (a:oI e c q d) (b:ak0):eY e b=eY q b:=by
 cases a with
 |same a _=>cases e<;>cases q<;>first|rfl|(simp only[eS] at a;cases a;done)
 |ptr a _=>rfl
section
def mZ {c d e:Type} (b:c->d->e->Prop):bp c->bp d->bp e->Prop
 |[],[],[]=>True
 |a::as,f::g,h::i=>b a f h/\mZ b as g i
 |_,_,_=>b7
def ku {c d:Type} (b:c->d->Prop):bp c->bp d->Prop
 |[],[]=>True
 |a::as,e::f=>b a e/\ku b as f
 |_,_=>b7
theorem Ni {d e:Type} {f:d->e->Prop}:∀{as:bp d} {c:bp e},ku f as c->c.length=as.length
 |[],[],_=>rfl
 |[],_::_,b|_::_,[],b=>b.elim
 |a::as,g::c,b=>by have:=Ni b.2;grind
def Nh {e f:Type} {c:e->f->Prop}:∀{as:bp e} {d:bp f} {g:bp e} {h:bp f},ku c as d->ku c g h->ku c (as++g) (d++h)
 |[],[],_,_,_,b=>b
 |[],_::_,_,_,b,_|_::_,[],_,_,b,_=>b.elim
 |a::as,j::d,_,_,b,i=>⟨b.1,Nh b.2 i⟩
theorem Dl {h i:Type} {f:h->i->Prop}:∀{as:bp h} {c:bp i},as.length=c.length->(∀(e:X) a b,as[e]?=Y a->c[e]?=Y b->f a b)->ku f as c
 |[],[],_,_=>trivial
 |[],_::_,d,_|_::_,[],d,_=>by cases d
 |a::as,b::c,d,g=>⟨g 0 a b bq rfl,Dl ae (λe j k l m=>g (e+1) j k ae ae)⟩
def Nj {b g h:Type} {c:g->h->Prop} {d:b->g} {e:b->h} (f:∀x,c (d x) (e x)):∀a:bp b,ku c (a.map d) (a.map e)
 |[]=>trivial
 |x::a=>⟨f x,Nj f a⟩
inductive ie where
 |v (t:aT)
 |m (t:aT) (y:t.1.den)
 |o (t:aT)
 |c (f:X) (ahS:bp aT)
 |n
 |s (f:X) (l:ak6)
 |w (σ:ao) (xs:bp σ.den) (lo hi:X) (ys:bp σ.den)
def zF (I c:X->Prop) (w:bH) (a:aT) (d:Value):Prop:=∃b,d=eY a.1 b/\a5 (cG I c) w a.1 b a.2 []
def zC (I f:X->Prop) (w:bH):ie->Value->ak6->Prop
 |.v b,d,a=>a=[]/\∃e,d=eY b.1 e/\a5 (cG I f) w b.1 e b.2 []
 |.m b _,d,a|.o b,d,a=>∃e,d=eY b.1 e/\a5 (cG I f) w b.1 e b.2 a
 |.n,d,a=>a=[]/\d=.slice bv 0 0
 |.s _ _,_,a=>a=[]
 |.w q h g j _,d,a=>∃k l i,d=.slice (Y ⟨k,l+g*q.size,bv⟩) (j-g) (i-g)/\(g<j/\j<=h.length/\h.length<=i)/\a5 (cG I f) w (.osl q) [.slice (Y ⟨k,l,bv⟩) h.length i] h a
 |.c r t,d,a=>a=[]/\∃p:ak0,d=.func (.func r) #[] p.toArray/\ku (zF I f w) t p
def qZ:X->bp ie->bA eh
 |_,[]=>bv
 |k,.s a b::_=>Y (k,a,b)
 |k,_::c=>qZ (k+1) c
def M4 (w:bH) (b:ak0) (i:eC):bA eh->Prop
 |none=>True
 |some (d,h,e)=>d<b.length/\(∀c∈e,c<b.length)/\∃a f g,b.getD d bZ=.pointer (Y ⟨a,f,bv⟩)/\a<w.heap.size/\a∉i.flatten/\w.cell? ⟨a,f,bv⟩=Y (.func (.func h) #[] g)/\g.toList=e.map λc=>b.getD c bZ
def zD (I e:X->Prop) (w:bH):ie->Value->ak6->Prop
 |.m i n,d,a=>∃g,d=eY i.1 g/\a5 (cG I e) w i.1 g n a
 |.w j l b k o,d,a=>∃f h c,d=.slice (Y ⟨f,h+b*j.size,bv⟩) (k-b) (c-b)/\b<c/\a5 (cG I e) w (.osl j) [.slice (Y ⟨f,h,bv⟩) l.length c] o a
 |_,_,a=>a=[]
def Db (I:X->Prop) (w:bH) (a:aT) (d:Value) (c:ak6):Prop:=∃b,d=eY a.1 b/\a5 (cG I (λ_=>b7)) w a.1 b a.2 c
def sp:ak0->Value
 |[v]=>v
 |vs=>.tuple vs.toArray
structure M2 (I B:X->Prop) (w:bH) (fs:eC) (args:bp ie) (vs:ak0) (res:bp aT) (I':X->Prop) (gs hs:eC) (cT:ak0) (w':bH):Prop where
 args:mZ (zD I' B w') args vs gs
 res:mZ (Db I' w') res cT hs
 nd:(gs.flatten++hs.flatten).Nodup
 NM:∀b∈gs.flatten++hs.flatten,¬I' b/\¬B b/\b<w'.heap.size/\(w.heap.size<=b\/b∈fs.flatten)
 i:∀b,I b->I' b
 i2:∀b,I' b->I b\/(b<w'.heap.size/\(w.heap.size<=b\/b∈fs.flatten))
 size:w.heap.size<=w'.heap.size
 os:w'.os=w.os
 tape:w'.tape=w.tape
 output:w'.output=w.output
 evo:∀b,b<w.heap.size->mQ w w' b
 heap:∀b,b<w.heap.size->b∉fs.flatten->w'.heap[b]?=w.heap[b]?
def mj (E:fY) (I:X->Prop) (w:bH):Prop:=∀a∈E.glob,a5 (cG I λ_=>b7) w (.bb .bo (.int a.k)) [.slice (Y ⟨a.b,0,bv⟩) a.xs.length a.xs.length] a.xs []
theorem mj.mono {E:fY} {I I':X->Prop} {w w':bH} (g:mj E I w) (c:∀a,I a->I' a) (i:∀a,I a->w'.heap[a]?=w.heap[a]?):mj E I' w':=λf h=>
 (g f h).mono (λe a d=>by
  have b:I a:=(by cases e;exact d;exact d.elim id False.elim);exact⟨by cases e;exact c a b;exact .inl (c a b),eF.of_heap (i a b)⟩) (λa b=>by cases b)
def uI (E:fY) (g:FuncId) (e:bp ie) (j:bp aT):Prop:=
 ∀(w:bH) (I c:X->Prop) (d:ak0) (b:eC),(∀a,I a\/c a->a<w.heap.size)->mZ (zC I c w) e d b->b.flatten.Nodup->(∀a∈b.flatten,¬I a/\¬c a/\a<w.heap.size)->M4 w d b (qZ 0 e)->mj E I w->Calls E.P g d.toArray w (λf w'=>∃I' h i cT,f=.returned (sp cT)/\M2 I c w b e d j I' h i cT w')
def ao.gx:ao->bD
 |.bb .dm _|.ptr .dm _|.fm .dm _=>br
 |.bb .bo a|.ptr .bo a|.osl a|.optr a|.st a|.mp a|.fm .bo a|.fn _ a=>a.gx
 |.pr b c=>b.gx&&c.gx
 |_=>bt
def sx:ao->bD
 |.pr _ _|.nil|.eL=>br
 |_=>bt
def ae6 (b:sx e=bt) (c:g.length=e.size) (d:y.length=e.size) (a:eY e g=eY e y):g=y:=by
 have i:e.size=1->eY e g=g.headD bZ->eY e y=y.headD bZ->g=y:=(by intro h ax f;rw[h] at c d;obtain⟨k,rfl⟩:=rn.1 c;obtain⟨l,rfl⟩:=rn.1 d;rw[ax,f] at a;simpa using a);cases e with
 |st j=>have a:apA g.toArray=apA y.toArray:=a;simpa using a
 |pr|nil|eL=>cases b
 |_=>exact i bq rfl rfl
def zB (g:bp (X×aT)) (f:ak6):au->aT->Prop
 |.val b i,a=>oI b i a.1 a.2
 |.eN d,a=>jl a.1 d.cells.toList=Y a.2/\eY a.1 d.cells.toList=d
 |.ref id h,a=>e6 id f=br/\∃c b e,ay g id=Y c/\e7 c.1 c.2 h b e/\oI b e a.1 a.2
 |_,_=>b7
mutual
inductive pk (h:bp (X×aT)) (S:ak6):au->(τ:ao)->τ.den->Prop
 |base {a:au} {τ:ao} {x:τ.den} (JV:zB h S a ⟨τ,x⟩):pk h S a τ x
 |hY {a:au} {τ:ao} {x:τ.den} (hv:pi τ=bt) (JV:pk h S a τ x):pk h S (.hY a) (.ptr .bo τ) (Y x)
 |eM {n:X} {l:bp au} {τ:ao} {x:τ.den} (FR:xb h S l τ x):pk h S (.eM n l) (.fn n τ) x
inductive xb (h:bp (X×aT)) (S:ak6):bp au->(τ:ao)->τ.den->Prop
 |nil:xb h S [] .nil ()
 |cons {a:au} {l:bp au} {τ υ:ao} {x:τ.den} {y:υ.den} (hv:pi τ=bt) (JV:pk h S a τ x) (FR:xb h S l υ y):xb h S (a::l) (.pr τ υ) (x,y)
end
def UB (b:bp (X×aT)) (f:ak6):au->ie->Prop
 |av,.v a=>zB b f av a
 |.ref id [],.m a _=>ay b id=Y a/\a.1.gx=bt/\sx a.1=bt
 |.ref id [],.o a=>ay b id=Y a
 |.eM p d,.c l q=>p=l/\ku (λj a=>pk b f j a.1 a.2) d q
 |.eN e,.o a=>e=.slice bv 0 0/\∃t,a=⟨.osl t,[]⟩
 |.eN e,.n=>e=.slice bv 0 0
 |.view id [] h g,.w i r d k _=>ay b id=Y ⟨.osl i,r⟩/\(d=h/\k=g)/\h<g/\i.gx=bt
 |_,.s _ _=>True
 |_,_=>b7
def p2 (c:bp (X×aT)) (b:ak6):bp au->bp ie->Prop
 |[],[]=>True
 |a::as,d::e=>UB c b a d/\p2 c b as e
 |_,_=>b7
def hy:bp au->bp ie->ak6
 |.ref id []::as,.m _ _::a|.ref id []::as,.o _::a|.view id [] _ _::as,.w _ _ _ _ _::a=>id::hy as a
 |_::as,_::a=>hy as a
 |_,_=>[]
def qM:bp au->bp ie->ak6
 |.ref id []::as,.m _ _::a|.view id [] _ _::as,.w _ _ _ _ _::a=>id::qM as a
 |_::as,_::a=>qM as a
 |_,_=>[]
def mG:bp au->bp ie->bp (X×aT)
 |.ref id []::as,.m b c::a=>(id,⟨b.1,c⟩)::mG as a
 |.view id [] _ _::as,.w e _ _ _ d::a=>(id,⟨.osl e,d⟩)::mG as a
 |_::as,_::a=>mG as a
 |_,_=>[]
def so (a:X) (c:bD) (b:X):X:=bif c then a else 1000*(a+1)+b
def wP (b:X) (c:bD):X->bp aT->bp au
 |_,[]=>[]
 |j,a::d=>(bif a.1.pure then .val a.1 a.2 else .ref (so b c j) [])::wP b c (j+1) d
def kU (a:X) (b:bD):X->bp aT->bp (X×aT)
 |_,[]=>[]
 |j,d::c=>bif d.1.pure then kU a b (j+1) c else(so a b j,d)::kU a b (j+1) c
def GU (a:X):bp aT->au
 |[t]=>bif t.1.pure then .val t.1 t.2 else .ref a []
 |l=>.fG (wP a br 0 l)
def kR:bp aT->bD
 |[_]=>bt
 |_=>br
def kn:ak6->bD
 |[]=>bt
 |a::b=>!(e6 a b)&&kn b
theorem kn.ok:∀{c:ak6},kn c=bt->c.Nodup
 |[],_=>List.nodup_nil
 |a::e,b=>by simp only[kn,cL,uG] at b;exact lx.2 ⟨(λd=>by rw[hQ.2 d] at b;cases b.1),kn.ok b.2⟩
def Wz (c:X) (st:aW) (b:bp au) (a:bp ie) (d:bp aT):aW:=
 ⟨(c,GU c d)::kill (hy b a) (F2 (qM b a)) st.g,(mG b a++kU c (kR d) 0 d)++del (hy b a) st.h⟩
theorem a5.gx {I G B':X->Prop} {w:bH}:∀{τ:ao} {f:ak0} {b:τ.den} {g:ak6},τ.gx=bt->a5 (cG I G) w τ f b g->a5 (cG I B') w τ f b g:=by
 intro τ
 induction τ with
 |bb o m h=>
  intro f b g c a;cases o
  ·obtain⟨j,r,s,aE,d,k,l⟩:=a;refine⟨j,r,s,aE,d,k,l.imp id ?_⟩;rintro⟨e,i,N,v,P⟩;refine⟨e,i,N,v,λp D F=>?_⟩;obtain⟨n,H,J,K⟩:=P p D F;exact⟨n,H,J,h (by simpa only[ao.gx] using c) K⟩
  grind [ao.gx]
 |ptr o m h=>
  intro f b g c a;cases o
  ·obtain⟨j,aE⟩:=a;refine⟨j,?_⟩;cases b with
   |none=>exact aE
   |some D=>
    obtain⟨e,i,n,z,A,B,aU,C⟩:=aE;exact⟨e,i,n,z,A,B,aU,h (by grind [ao.gx]) C⟩
  grind [ao.gx]
 |osl m h=>
  intro f b g c a;obtain⟨r,s,aE,d⟩:=a;refine⟨r,s,aE,d.imp id ?_⟩;rintro⟨e,i,M,z,A,B,aU,C,am⟩;refine⟨e,i,M,z,A,B,aU,C,λp D E F V=>?_⟩;grind [ao.gx]
 |optr m h=>
  intro f b g c a;obtain⟨e,i,E,n,aE,d,k,l,y,S⟩:=a;exact⟨e,i,E,n,aE,d,k,l,y,h (by grind [ao.gx]) S⟩
 |st m h=>intro f b g c a;exact h (by grind [ao.gx]) a
 |mp m h=>
  intro f b g c a;cases b with
  |none=>exact a
  |some x=>
   obtain⟨e,t,q,aE,d,u,k,l,y⟩:=a;refine⟨e,t,q,aE,d,u,k,l,λp x O=>?_⟩;grind [ao.gx]
 |fm o m h=>
  intro f b g c a;cases o
  ·cases b with
   |none=>exact a
   |some x=>
    obtain⟨e,t,q,aE,d,u,v,k,l,y⟩:=a;refine⟨e,t,q,aE,d,u,v,k,l,λp x O=>?_⟩;grind [ao.gx]
  grind [ao.gx]
 |fn ad m h=>
  intro f b g c a;obtain⟨j,T,aE,d⟩:=a;exact⟨j,T,aE,h (by simpa only[ao.gx] using c) d⟩
 |pr U e Q R=>
  intro f b g c a;simp only[ao.gx,cL] at c;obtain⟨L,f2,j,aE,d⟩:=a;exact⟨L,f2,j,Q c.1 aE,R c.2 d⟩
 |_=>intro f b g c a;exact a
theorem Qi {e f:Type} (c:e->f):∀(b:bp (X×e)) (a:X),ay (b.map λd=>(d.1,c d.2)) a=(ay b a).map c
 |[],_=>rfl
 |(g,v)::b,a=>by rw[ir,eX,eX,Qi c b a];grind
abbrev C8:=aT×ak0×ak6
def hl (rt:X->ak0):bp au->bp ie->eC->bp (X×C8)
 |.ref id []::as,.m d e::a,c::b=>(id,(⟨d.1,e⟩,rt id,c))::hl rt as a b
 |.view id [] _ _::as,.w g _ _ _ f::a,c::b=>(id,(⟨.osl g,f⟩,rt id,c))::hl rt as a b
 |_::as,_::a,_::b=>hl rt as a b
 |_,_,_=>[]
def lQ (a:X) (b:bD):X->bp aT->ey->eC->bp (X×C8)
 |j,f::e,g::c,h::d=>bif f.1.pure then lQ a b (j+1) e c d else(so a b j,(f,g,h))::lQ a b (j+1) e c d
 |_,_,_,_=>[]
theorem R4 {rt:X->ak0}:∀{as:bp au} {bs:bp ie} {gs:eC},gs.length=bs.length->(hl rt as bs gs).map (λf=>(f.1,f.2.1))=mG as bs
 |[],bs,gs,_=>by cases bs<;>cases gs<;>rfl
 |a::as,[],gs,e=>by cases gs with
  |nil=>cases a<;>first|rfl|(rename_i id b;cases b<;>rfl)|(rename_i id b h g;cases b<;>rfl)
  |cons=>cases e
 |a::as,c::bs,[],e=>by cases e
 |a::as,c::bs,i::gs,e=>by
  have d:=R4 (rt:=rt) (as:=as) (bs:=bs) (gs:=gs) ae;cases a with
  |ref id b=>cases b with
   |nil=>cases c<;>simp only[hl,mG,ir,d]
   |cons=>cases c<;>simp only[hl,mG,d]
  |view id b h g=>cases b with
   |nil=>cases c<;>simp only[hl,mG,ir,d]
   |cons=>cases c<;>simp only[hl,mG,d]
  |_=>cases c<;>simp only[hl,mG,d]
theorem GX {d:X} {s:bD}:∀{j:X} {res:bp aT} {cs:ey} {hs:eC},cs.length=res.length->hs.length=res.length->(lQ d s j res cs hs).map (λe=>(e.1,e.2.1))=kU d s j res
 |j,[],cs,hs,a,b=>by cases cs<;>cases hs<;>simp[lQ,kU]
 |j,f::c,[],hs,a,b=>by cases a
 |j,f::c,g::cs,[],a,b=>by cases b
 |j,f::c,g::cs,h::hs,a,b=>by have i:=GX (d:=d) (s:=s) (j:=j+1) (res:=c) (cs:=cs) (hs:=hs) ae ae;simp only[lQ,kU];grind
section
variable {C:fb} {st:aW} {A:akY} {w w':bH} {I I' B':X->Prop} {rt:X->ak0} {fp:X->ak6}
theorem R5 (D:c6 C st A w I rt fp) {S:ak6}:∀{avs:bp au} {t:ak0} {args:bp ie} {gs:eC},ku (c8 (cG I C.B) w st.h rt fp) avs t->p2 st.h S avs args->mZ (zD I' B' w') args t gs->∀a∈hl rt avs args gs,a5 (cG I' C.B) w' a.2.1.1 a.2.2.1 a.2.1.2 a.2.2.2/\a.2.2.1=rt a.1/\a.1∈hy avs args/\∃g,ay st.h a.1=Y g/\a.2.1.1=g.1
 |[],t,args,gs,l,p,q,a,b=>by cases args<;>cases gs<;>cases b
 |x::i,t,[],gs,l,p,q,a,b=>by cases x<;>exact p.elim
 |x::i,[],d::u,gs,l,p,q,a,b=>l.elim
 |x::i,v::t,d::u,[],l,p,q,a,b=>q.elim
 |av::i,v::t,d::u,ad::gs,l,p,q,a,b=>by
  obtain⟨M,am⟩:=l;obtain⟨J,an⟩:=p;obtain⟨K,ap⟩:=q;have a0:=R5 D (S:=S) (avs:=i) (args:=u) (gs:=gs) am an ap;have e:a∈hl rt i u gs->a5 (cG I' C.B) w' a.2.1.1 a.2.2.1 a.2.1.2 a.2.2.2/\a.2.2.1=rt a.1/\a.1∈hy (av::i) (d::u)/\∃g,ay st.h a.1=Y g/\a.2.1.1=g.1:=by
   intro b;obtain⟨aE,P,r,G⟩:=a0 a b;refine⟨aE,P,?_,G⟩;cases av with
   |ref id f|view id f O L=>cases f<;>cases d<;>simp only[hy]<;>first|exact ht _ r|exact r
   |_=>cases d<;>exact r
  cases av with
  |ref id f=>
   cases f with
   |cons s f=>exact e (by cases d<;>exact b)
   |nil=>
    cases d with
    |v g|o g|c n d0|n|s cs a3|w bs i O L Q=>exact e b
    |m g d1=>
     simp only[hl,gn] at b;rcases b with rfl|b
     ·obtain⟨j,N,F⟩:=J;obtain⟨ci,k,z⟩:=K;cases M with|ref y E=>
      rw[j] at y;cases y;obtain⟨rfl,rfl,rfl⟩:=a8.gY.1 E;have:=ae6 F (D.tree id _ j).1.len z.len k;subst this;exact⟨z.gx N,bq,by simp[hy],g,j,bq⟩
     grind
  |view id f O L=>
   cases f with
   |cons s f=>exact e (by cases d<;>exact b)
   |nil=>
    cases d with
    |w bs i a3 k Q=>
     simp only[hl,gn] at b;rcases b with rfl|b
     ·obtain⟨j,⟨rfl,rfl⟩,N,F⟩:=J;obtain⟨d,o,T,k,cv,z⟩:=K;cases M with
      |mN=>omega
      |view y E aE P r=>
      rename_i ds d2 c1 R bl a4 U;rw[j] at y;cases y;obtain⟨ax,co,V⟩:=a8.gY.1 E;simp only[ao.osl.injEq] at ax;subst ax;obtain⟨bx,ce,G,_⟩:=(D.tree id _ j).1;have H:rt id=[.slice (Y ⟨R,bl,bv⟩) a4 U]:=V;rw[G] at H;simp only[iC,alh,cf] at H;rw[aA aa] at k;simp only[alh,fc,alx,cf] at k;obtain⟨⟨c2,dg⟩,dl,aU⟩:=k;have:rt id=[.slice (Y ⟨d,o,bv⟩) i.length T]:=ae;refine⟨?_,bq,by simp[hy],_,j,bq⟩;show a5 (cG I' C.B) w' (.osl _) (rt id) Q ad;rw[this];exact z.gx F
     grind
    |_=>exact e b
  |_=>exact e (by cases d<;>exact b)
theorem R3 {x:ak6}:∀{as:bp au} {r:bp ie} {g:ak0} {e:eC},p2 st.h x as r->mZ (zD I' B' w') r g e->((hl rt as r e).map (λz=>z.2.2.2)).flatten=e.flatten
 |[],[],g,e,f,d=>by cases g<;>cases e<;>first|rfl|exact d.elim
 |[],q::t,g,e,f,d=>f.elim
 |a::as,[],g,e,f,d=>by cases a<;>exact f.elim
 |a::as,q::t,[],e,f,d|a::as,q::t,v::g,[],f,d=>d.elim
 |a::as,q::t,v::g,k::e,f,d=>by
  have y:=R3 (as:=as) f.2 d.2;have l:=f.1;have p:=d.1;rw[mq,<-y];cases q with
  |m u F=>
   cases a with
   |ref id b=>cases b with
    |nil=>grind [amn,hl]
    |cons=>exact l.elim
   |_=>exact l.elim
  |w H E C B G=>
   cases a with
   |view id b i j=>cases b with
    |nil=>grind [amn,hl]
    |cons=>exact l.elim
   |ref id b=>cases b<;>exact l.elim
   |_=>exact l.elim
  |v u=>
   have:k=[]:=p;subst this;cases a with
   |ref id b|view id b i j=>grind [hl]
   |_=>simp only[hl,iD]
  |o u=>
   have:k=[]:=p;subst this;cases a with
   |ref id b|view id b i j=>grind [hl]
   |_=>simp only[hl,iD]
  |n=>
   have:k=[]:=p;subst this;cases a with
   |ref id b|view id b i j=>grind [hl]
   |_=>simp only[hl,iD]
  |s A i=>
   have:k=[]:=p;subst this;cases a with
   |ref id b|view id b i j=>grind [hl]
   |_=>simp only[hl,iD]
  |c n D=>
   have:k=[]:=p;subst this;cases a with
   |ref id b|view id b i j=>grind [hl]
   |_=>simp only[hl,iD]
theorem SJ {I:X->Prop}:∀{e:bp aT} {cT:ak0} {b:eC},mZ (Db I w) e cT b->∃g:ey,g.length=e.length/\b.length=e.length/\cT.length=e.length/\∀(d:X) (t:aT) (c:ak0) (a:ak6) (f:Value),e[d]?=Y t->g[d]?=Y c->b[d]?=Y a->cT[d]?=Y f->f=eY t.1 c/\a5 (cG I (λ_=>b7)) w t.1 c t.2 a
 |[],cT,b,a=>by cases cT<;>cases b<;>first|exact⟨[],bq,bq,bq,λd t c a f q=>by grind⟩|exact a.elim
 |t::h,[],b,a|t::h,f::cT,[],a=>a.elim
 |t::h,f::cT,o::b,a=>by obtain⟨⟨c,k,s⟩,i⟩:=a;obtain⟨g,u,v,x,r⟩:=SJ i;refine⟨c::g,ae,ae,ae,λd y j p z ax l m n=>?_⟩;grind
theorem SL {m:X} {n:bD}:∀{j:X} {i:bp aT} {c:ey} {d:eC},c.length=i.length->d.length=i.length->∀a∈lQ m n j i c d,∃e:X,i[e]?=Y a.2.1/\c[e]?=Y a.2.2.1/\d[e]?=Y a.2.2.2
 |j,[],c,d,f,g,a,b=>by cases c<;>cases d<;>simp[lQ] at b
 |j,k::h,[],d,f,g,a,b=>by cases f
 |j,k::h,l::c,[],f,g,a,b=>by cases g
 |j,k::h,l::c,q::d,f,g,a,b=>by
  simp only[lQ] at b;have s:a∈lQ m n (j+1) h c d->∃e,(k::h)[e]?=Y a.2.1/\(l::c)[e]?=Y a.2.2.1/\(q::d)[e]?=Y a.2.2.2:=λb=>(by obtain⟨e,ax,o,p⟩:=SL ae ae a b;exact⟨e+1,by rw[HD];exact ax,by rw[HD];exact o,by rw[HD];exact p⟩);cases r:k.1.pure
  ·rw[r] at b;simp only[bR,gn] at b;rcases b with rfl|b
   ·exact⟨0,bq,bq,bq⟩
   grind
  grind
theorem SK {d:X} {s:bD}:∀{j:X} {res:bp aT} {cs:ey} {hs:eC},((lQ d s j res cs hs).map (λe=>e.2.2.2)).flatten.Sublist hs.flatten
 |j,[],cs,hs=>by simp[lQ]
 |j,b::a,[],hs=>by simp[lQ]
 |j,b::a,c::cs,[]=>by simp[lQ]
 |j,b::a,c::cs,f::hs=>by have g:=SK (d:=d) (s:=s) (j:=j+1) (res:=a) (cs:=cs) (hs:=hs);simp only[lQ];grind
theorem NC (n:c6 C st A w I rt fp) (f:∀a,C.B a->B' a) (m:∀id P,ay st.h id=Y P->e6 id k=br->∀a∈fp id,B' a) (c:c8 (cG I C.B) w st.h rt fp U R) (b:zB st.h k U P):∃e,R=eY P.1 e/\a5 (cG I B') w P.1 e P.2 []:=by
 cases U with
 |val l j=>
  have b:oI l j P.1 P.2:=b;cases c with|val u=>
  exact⟨_,b.st _,b.rep f u ac⟩
 |eN D=>
  obtain⟨aE,y⟩:=b;cases c;grind [qy]
 |ref id x=>
  obtain⟨o,z,l,j,d,t,i⟩:=b;cases c with|ref g r=>
  rw[d] at g;cases g;obtain⟨rfl,v,s,_,q⟩:=n.r8 d t r;exact⟨_,i.st _,i.rep f s (λa p=>m id _ d o a (q a p))⟩
 |_=>exact b.elim
mutual
theorem Il (j:c6 C st A w I rt fp) {m:ak6} (g:∀a,C.B a->B' a) (i:∀id J,ay st.h id=Y J->e6 id m=br->∀a∈fp id,B' a):∀{n:au} {d:ao} {u:d.den},pk st.h m n d u->∀{t:Value},c8 (cG I C.B) w st.h rt fp n t->∃e,t=eY d e/\a5 (cG I B') w d e u []
 |_,_,_,.base k,_,b=>NC j g i b k
 |_,_,_,.hY G k,_,b=>by
  cases b with|hY E F K f=>
  rename_i l a;obtain⟨e,ax,p⟩:=Il j g i k f;obtain⟨o,y⟩:=pM.one G;have c:=p.len;rw[o] at c;obtain⟨x,rfl⟩:=rn.1 c;rw[y] at ax;have ax:l=x:=ax;subst ax;have D:fC w a 0 [l]:=λr M q=>by
   cases r with
   |zero=>cases q;exact F
   |succ r=>cases q
  exact⟨[.pointer (Y ⟨a,0,bv⟩)],bq,bq,a,0,[l],bq,E,o.symm,D,p⟩
 |_,_,_,.eM c,_,b=>by
  cases b with|eM z f=>
  rename_i s;exact⟨[.func (.func _) #[] s],bq,bq,s.toList,bq,NV j g i c (Dl (by simpa using z) (λH v a aE L=>f H v a aE ae))⟩
theorem NV (k:c6 C st A w I rt fp) {f:ak6} (i:∀b,C.B b->B' b) (j:∀id x,ay st.h id=Y x->e6 id f=br->∀b∈fp id,B' b):∀{m:bp au} {e:ao} {n:e.den},xb st.h f m e n->∀{a:ak0},ku (c8 (cG I C.B) w st.h rt fp) m a->a5 (cG I B') w e a n []
 |_,_,_,.nil,a,c=>by
  cases a with
  |nil=>exact⟨bq,bq⟩
  |cons=>exact c.elim
 |_,_,_,.cons v t u,a,c=>by
  cases a with
  |nil=>exact c.elim
  |cons y a=>
   obtain⟨q,r⟩:=c;obtain⟨z,ax,g⟩:=Il k i j t q;have s:=NV k i j u r;obtain⟨d,p⟩:=pM.one v;have l:=g.len;rw[d] at l;obtain⟨o,rfl⟩:=rn.1 l;rw[p] at ax;have ax:y=o:=ax;subst ax;exact⟨[],[],bq,by rw[d];exact g,by rw[d];exact s⟩
end
def N0 (j:c6 C st A w I rt fp) {d:ak6} (g:∀b,C.B b->B' b) (i:∀id c,ay st.h id=Y c->e6 id d=br->∀b∈fp id,B' b):∀{e:bp au} {l:ak0} {k:bp aT},ku (c8 (cG I C.B) w st.h rt fp) e l->ku (λm c=>pk st.h d m c.1 c.2) e k->ku (zF I B' w) k l
 |[],[],[],_,_=>trivial
 |[],_::_,_,a,_|_::_,[],_,a,_|[],_,_::_,_,a|_::_,_,[],_,a=>a.elim
 |_::_,_::_,_::_,a,f=>⟨Il j g i f.1 a.1,N0 j g i a.2 f.2⟩
theorem NE (r:c6 C st A w I rt fp) {S:ak6} (E:∀d,C.B d->B' d) (H:∀id q,ay st.h id=Y q->e6 id S=br->∀d∈fp id,B' d):∀{F:bp au} {t:ak0} {args:bp ie},ku (c8 (cG I C.B) w st.h rt fp) F t->p2 st.h S F args->∃e,mZ (zC I B' w) args t e/\e.flatten=((hy F args).map fp).flatten
 |[],t,args,i,g=>by cases args with
  |nil=>cases t with
   |nil=>exact⟨[],trivial,bq⟩
   |cons=>exact i.elim
  |cons=>exact g.elim
 |x::l,t,[],i,g=>by cases x<;>exact g.elim
 |x::l,[],d::u,i,g=>i.elim
 |av::l,v::t,d::u,i,g=>by
  obtain⟨p,i⟩:=i;obtain⟨a,ad⟩:=g;obtain⟨e,f,V⟩:=NE r E H i ad;cases d with
  |v q=>
   have D:hy (av::l) (.v q::u)=hy l u:=by cases av<;>first|rfl|(rename_i id b;cases b<;>rfl)|(rename_i id b z D;cases b<;>rfl)
   have a:zB st.h S av q:=(by cases av<;>exact a);exact⟨[]::e,⟨⟨bq,NC r E H p a⟩,f⟩,ae⟩
  |s U z=>
   have D:hy (av::l) (.s U z::u)=hy l u:=by cases av<;>first|rfl|(rename_i id b;cases b<;>rfl)|(rename_i id b z D;cases b<;>rfl)
   exact⟨[]::e,⟨bq,f⟩,ae⟩
  |n=>
   cases av with
   |eN Q=>
    obtain rfl:Q=.slice none 0 0:=a;cases p;exact⟨[]::e,⟨⟨bq,bq⟩,f⟩,by grind [hy]⟩
   |ref id b=>cases b<;>exact a.elim
   |_=>exact a.elim
  |c n d1=>
   cases av with
   |eM m z=>
    obtain⟨rfl,a⟩:=a;cases p with|eM cs am=>
    rename_i a4;refine⟨[]::e,⟨⟨bq,a4.toList,bq,N0 r E H (Dl aa (λap R d f V=>am ap R d f ae)) a⟩,f⟩,by grind [hy]⟩
   |ref id b=>cases b<;>exact a.elim
   |_=>exact a.elim
  |w bl l c1 co d3=>
   cases av with
   |view id b z D=>cases b with
    |nil=>
     obtain⟨k,⟨rfl,rfl⟩,J,a0⟩:=a;cases p with
     |mN=>omega
     |view j y aE dg dl=>
     rename_i d0 d4 c2 K P O L;rw[k] at j;cases j;obtain⟨ax,ci,T⟩:=a8.gY.1 y;simp only[ao.osl.injEq] at ax;subst ax;have N:=(r.tree id _ k).1;have G:rt id=[.slice (Y ⟨K,P,bv⟩) O L]:=T;have an:=N;obtain⟨bx,ce,a3,ds⟩:=an;rw[a3] at G;simp only[iC,alh,cf] at G;have cv:l.length=O:=G.2.1;refine⟨fp id::e,⟨⟨K,P,L,?_,⟨J,aa,aa⟩,?_⟩,f⟩,by grind [amn,hy]⟩
     ·rw[aA aa]
     have:=a5.gx (τ:=.osl bl) (B':=B') a0 N;grind
    |cons=>exact a.elim
   |ref id b=>cases b<;>exact a.elim
   |_=>exact a.elim
  |m q d2=>
   cases av with
   |ref id b=>cases b with
    |nil=>
     obtain⟨k,J,_⟩:=a;cases p with|ref j y=>
     rw[k] at j;cases j;obtain⟨rfl,rfl,rfl⟩:=a8.gY.1 y;exact⟨fp id::e,⟨⟨rt id,bq,(r.tree id _ k).1.gx J⟩,f⟩,by grind [amn,hy]⟩
    |cons=>exact a.elim
   |_=>exact a.elim
  |o q=>
   cases av with
   |ref id b=>cases b with
    |nil=>
     have k:ay st.h id=Y q:=a;cases p with|ref j y=>
     rw[k] at j;cases j;obtain⟨rfl,rfl,rfl⟩:=a8.gY.1 y;refine⟨fp id::e,⟨⟨rt id,bq,(r.tree id _ k).1.mono (λm d M=>⟨?_,eF.refl w d⟩) (λd _=>eF.refl w d)⟩,f⟩,by grind [amn,hy]⟩;cases m
     ·exact M
     exact M.imp (λg=>g) (E d)
    |cons=>exact a.elim
   |eN Q=>
    obtain⟨rfl,bs,rfl⟩:=a;cases p;exact⟨[]::e,⟨⟨[.slice bv 0 0],bq,bv,0,bq,.inl ⟨bq,bq,bq,bq⟩⟩,f⟩,by grind [hy]⟩
   |_=>exact a.elim
end
end
section
def rH (d:X) (st:aW) (c:bp au) (b:bp ie) (a:bp aT):bD:=
 kn (hy c b)&&kn ((mG c b++kU d (kR a) 0 a).map (·.1))&&(kU d (kR a) 0 a).all λe=>(ay st.h e.1).isNone
section
variable {E:fY} {C:fb} {st:aW} {a:Act} {w w':bH} {I I' B':X->Prop} {rt:X->ak0} {fp:X->ak6}
theorem PU {rt:X->ak0} {l:ak6} {b:bp (X×aT)}:∀{as:bp au} {bs:bp ie} {gs:eC},p2 b l as bs->gs.length=bs.length->∀id∈qM as bs,∃e∈hl rt as bs gs,e.1=id/\ay b id=Y ⟨e.2.1.1,(match ay b id with|some h=>if i:h.1=e.2.1.1 then i▸h.2 else e.2.1.2|none=>e.2.1.2)⟩
 |[],bs,gs,_,_,id,b=>by cases bs<;>cases b
 |a::as,[],gs,f,_,id,b=>by cases a<;>exact f.elim
 |a::as,c::bs,[],_,k,id,b=>by cases k
 |a::as,c::bs,o::gs,f,k,id,b=>by
  have d:=PU (rt:=rt) (as:=as) (bs:=bs) (gs:=gs) f.2 ae id;have j:=f.1;cases a with
  |ref n g=>cases g with
   |nil=>
    cases c with
    |m h t=>
     simp only[qM,gn] at b;simp only[hl];rcases b with rfl|b
     ·refine⟨_,mU ..,bq,?_⟩;rw[j.1];simp
     grind
    |_=>exact d b
   |cons=>cases c<;>exact d b
  |view n g q i=>cases g with
   |nil=>
    cases c with
    |w v s r p u=>
     simp only[qM,gn] at b;simp only[hl];rcases b with rfl|b
     ·refine⟨_,mU ..,bq,?_⟩;rw[j.1];simp
     grind
    |_=>exact d b
   |cons=>cases c<;>exact d b
  |_=>cases c<;>exact d b
theorem H1 {e f g:Type} {h:e->f->g->Prop}:∀{as:bp e} {c:bp f} {d:bp g},mZ h as c d->c.length=as.length/\d.length=as.length
 |[],c,d,b=>by cases c<;>cases d<;>first|exact⟨bq,bq⟩|exact b.elim
 |a::as,[],d,b|a::as,i::c,[],b=>b.elim
 |a::as,i::c,j::d,b=>by obtain⟨k,l⟩:=H1 b.2;grind
theorem aau {a:bp (X×C8)} (c:((a.map λb=>b.2.2.2).flatten).Nodup):(∀b∈a,b.2.2.2.Nodup)/\∀d e g h,ay a d=Y g->ay a e=Y h->d≠e->∀j∈g.2.2,j∉h.2.2:=by
 induction a with
 |nil=>exact⟨ac,λd e g h c=>by cases c⟩
 |cons l a r=>
  obtain⟨z,l⟩:=l;simp only[ir,mq,j3] at c;obtain⟨s,m,t⟩:=c;obtain⟨i1,x⟩:=r m;refine⟨λb w=>?_,λd e g h o p v j u=>?_⟩
  ·grind
  rw[eX] at o p;have y:∀i f,ay a i=Y f->∀k∈f.2.2,k∈(a.map λb=>b.2.2.2).flatten:=λi f q k n=>ms.2 ⟨_,e1.2 ⟨(i,f),BG q,bq⟩,n⟩;grind
def F8 {e:Type}:∀{c:bp (X×e)},(c.map (·.1)).Nodup->∀{b:X×e},b∈c->ay c b.1=Y b.2
 |[],_,b,a=>by cases a
 |(k,x)::c,d,b,a=>by
  simp only[ir,lx] at d;rw[eX];rcases gn.1 a with rfl|a
  ·rw[aB bq]
  rw[aA (λf=>d.1 ae)];exact F8 d.2 a
theorem SG {e:X} {g:bD}:∀{j:X} {f:bp aT} {a:X} {c:au},(wP e g j f)[a]?=Y c->∃b,f[a]?=Y b/\c=(bif b.1.pure then .val b.1 b.2 else .ref (so e g (j+a)) [])
 |j,[],a,c,d=>by grind [wP]
 |j,b::k,a,c,d=>by
  simp only[wP] at d;cases a with
  |zero=>grind
  |succ a=>
   obtain⟨l,h,i⟩:=SG (by simpa using d);grind
theorem SH {b:X} {c:bD}:∀{j:X} {a:bp aT},(wP b c j a).length=a.length
 |j,[]=>rfl
 |j,e::d=>by simp[wP,SH]
theorem SM {d:X} {s:bD}:∀{j:X} {res:bp aT} {cs:ey} {hs:eC},cs.length=res.length->hs.length=res.length->∀(a:X) b c e,res[a]?=Y b->cs[a]?=Y c->hs[a]?=Y e->b.1.pure=br->(so d s (j+a),(b,c,e))∈lQ d s j res cs hs
 |j,[],cs,hs,_,_,a,b,c,e,ax,_,_,_=>by grind
 |j,b::f,[],hs,g,_,_,_,_,_,_,_,_,_=>by cases g
 |j,b::f,c::cs,[],_,h,_,_,_,_,_,_,_,_=>by cases h
 |j,b::f,c::cs,e::hs,g,h,a,m,i,k,ax,n,o,l=>by
  simp only[lQ];cases a with
  |zero=>
   grind
  |succ a=>
   have:=SM (d:=d) (s:=s) (j:=j+1) (res:=f) (cs:=cs) (hs:=hs) ae ae a m i k ae ae ae l;grind
end
section
variable {E:fY} {C:fb} {st:aW} {A:bX bU} {Q:aW->Prop}
theorem TW {i:bp (X×aT)} {j:ak6}:∀{as:bp au} {bs:bp ie},p2 i j as bs->∀id∈hy as bs,∃h,ay i id=Y h
 |[],bs,_,id,b=>by cases bs<;>cases b
 |a::as,[],e,id,b=>by cases a<;>exact e.elim
 |a::as,c::bs,e,id,b=>by
  have d:=TW (as:=as) (bs:=bs) e.2 id;have f:=e.1;cases a with
  |ref k g=>cases g with
   |nil=>
    cases c with
    |m h s=>
     simp only[hy,gn] at b;rcases b with rfl|b
     ·exact⟨_,f.1⟩
     grind
    |o h=>
     simp only[hy,gn] at b;rcases b with rfl|b
     ·exact⟨_,f⟩
     grind
    |_=>exact d b
   |cons=>cases c<;>exact d b
  |view k g p l=>cases g with
   |nil=>
    cases c with
    |w u r q n t=>
     simp only[hy,gn] at b;rcases b with rfl|b
     ·exact⟨_,f.1⟩
     grind
    |_=>exact d b
   |cons=>cases c<;>exact d b
  |_=>cases c<;>exact d b
theorem KN {s:akY} {w:bH} {I:X->Prop} {rt:X->ak0} {fp:X->ak6} (e:c6 C st s w I rt fp):∀{a:ak6},(∀id∈a,∃b,ay st.h id=Y b)->a.Nodup->((a.map fp).flatten).Nodup
 |[],_,_=>by simp
 |id::a,d,f=>by rw[lx] at f;simp only[ir,mq,j3];obtain⟨b,g⟩:=d id ac;refine⟨(e.tree id b g).2.1,KN e (λq u=>d q ae) f.2,λj m t n c=>?_⟩;subst c;obtain⟨v,k,l⟩:=ms.1 n;obtain⟨i,o,rfl⟩:=e1.1 k;obtain⟨r,p⟩:=d i ae;exact e.dis id i b r g p (λc=>f.1 (c▸o)) j m l
def Vn (e:eW->X->Prop) (w:bH) (c:X) (b:bp aT) (f:X->ak0) (g:Value):Prop:=
 ∀(d:bp (X×aT)) (rt:X->ak0) (fp:X->ak6),(∀a∈kU c (kR b) 0 b,ay d a.1=Y a.2/\rt a.1=f a.1)->c8 e w d rt fp (GU c b) g
def c6.glob {E:fY} {C:fb} {st:aW} {w:bH} {I:X->Prop} {rt:X->ak0} {fp:X->ak6} (b:c6 C st v w I rt fp) (d:∀a,C.I0 a\/C.B a->a<C.w0.heap.size/\¬C.F0 a) (e:mj E C.I0 C.w0):mj E I w:=
 e.mono b.i0 λa c=>b.frame a (d a (.inl c)).1 (d a (.inl c)).2
theorem c6.call {C:fb} {st:aW} {w:bH} {I:X->Prop} {rt:X->ak0} {fp:X->ak6} (J:c6 C st v w I rt fp) {ci:X} {o:bp au} (c2:ku (c8 (cG I C.B) w st.h rt fp) o g) {n:bp ie} {l:bp aT} (fr:uI E ci n l) (U:p2 st.h (hy o n) o n) (a3:rH b st o n l=bt) (gc:∀H:eC,(∀f∈H.flatten,∃id e,ay st.h id=Y e/\f∈fp id)->M4 w g H (qZ 0 n)) (eq:mj E I w):Calls E.P ci g.toArray w (λO w'=>∃I' K R cT,O=.returned (sp cT)/\rB C st w w' I I' rt fp (hy o n) (F2 (qM o n)) (mG o n++kU b (kR l) 0 l) K R/\Vn (cG I' C.B) w' b l K (sp cT)):=by
 simp only[rH,cL,hp] at a3;obtain⟨⟨dg,dl⟩,i0⟩:=a3;have dg:=kn.ok dg;have dl:=kn.ok dl
 let x:=hy o n
 let B':X->Prop:=λf=>C.B f\/∃id e,ay st.h id=Y e/\e6 id x=br/\f∈fp id
 have el:∀f,C.B f->B' f:=λf m=>.inl m;have em:∀id e,ay st.h id=Y e->e6 id x=br->∀f∈fp id,B' f:=λid e z p f m=>.inr ⟨id,e,z,p,m⟩;obtain⟨H,fz,ii⟩:=NE J (B':=B') (S:=x) el em (args:=n) c2 U;have i3:∀id∈x,∃e,ay st.h id=Y e:=λid y=>TW U id y;have V:∀f∈H.flatten,∃id∈x,∃e,ay st.h id=Y e/\f∈fp id:=ae;have fT:H.flatten.Nodup:=(by grind [KN]);have fs:=fr w I B' g H (λf m=>by
  rcases m with m|m|⟨id,e,z,_,m⟩
  ·exact J.ib f (.inl m)
  ·exact J.ib f (.inr m)
  ·exact((J.tree id e z).2.2 f m).2.2.1) fz fT (λf m=>by
  obtain⟨id,y,e,z,av⟩:=V f m;obtain⟨aE,d5,bx,d6⟩:=(J.tree id e z).2.2 f av;refine⟨aE,?_,bx⟩;rintro(D|⟨d3,am,ge,p,fn⟩)
  ·grind
  ·have f7:id≠d3:=λO=>(by grind [hQ]);exact J.dis id d3 e am z ge f7 f av fn) (gc H λf m=>by
  grind) eq
 refine fs.mono ?_;rintro O w' ⟨I',G,F,cT,rfl,q⟩;obtain⟨L,a4,bl,i8,d1⟩:=SJ q.res;have f0:=(H1 q.args).2;have c1:p2 st.h x o n:=U
 let r:bp (X×C8):=hl rt o n G++lQ b (kR l) 0 l L F
 have hs:r.map (λc=>(c.1,c.2.1))=mG o n++kU b (kR l) 0 l:=(by grind [R4,GX]);have cv:(r.map (·.1)).Nodup:=ae;have io:((hl rt o n G).map (λc=>c.2.2.2)).flatten=G.flatten:=R3 c1 q.args;have is:((lQ b (kR l) 0 l L F).map (λc=>c.2.2.2)).flatten.Sublist F.flatten:=SK;have cs:((r.map λc=>c.2.2.2).flatten).Sublist (G.flatten++F.flatten):=ae;obtain⟨hv,hc⟩:=aau (q.nd.sublist cs);have f8:∀c∈hl rt o n G,a5 (cG I' C.B) w' c.2.1.1 c.2.2.1 c.2.1.2 c.2.2.2/\c.2.2.1=rt c.1/\c.1∈x/\∃e,ay st.h c.1=Y e/\c.2.1.1=e.1:=(by exact R5 J (S:=x) (args:=n) (gs:=G) c2 U q.args);have fl:∀c∈r,a5 (cG I' C.B) w' c.2.1.1 c.2.2.1 c.2.1.2 c.2.2.2/\(c.1∈x\/ay st.h c.1=bv):=by
  intro c A;rcases hM.1 A with A|A
  ·grind
  obtain⟨k,ax,Q,an⟩:=SL a4 bl c A;have f4:k<cT.length:=ae;obtain⟨_,T⟩:=d1 k _ _ _ cT[k] ax Q an ac;refine⟨T.mono (λbs f p=>⟨?_,eF.refl _ _⟩) (λf _=>eF.refl _ _),.inr ?_⟩
  ·cases bs
   ·exact p
   exact p.elim .inl (λD=>D.elim)
  have p:(c.1,c.2.1)∈kU b (kR l) 0 l:=(by grind [GX]);grind [Option.isNone_iff_eq_none]
 have ex:∀c∈r,∀f∈c.2.2.2,f∈G.flatten++F.flatten:=λc A f m=>cs.subset (ms.2 ⟨_,e1.2 ⟨c,A,bq⟩,m⟩);have ds:∀k,ay (mG o n++kU b (kR l) 0 l) k=(ay r k).map (·.1):=λk=>by grind [Qi]
 let K:X->ak0:=λk=>match ay r k with|some c=>c.2.1|none=>[]
 let R:X->ak6:=λk=>match ay r k with|some c=>c.2.2|none=>[]
 have gf:rB C st w w' I I' rt fp x (F2 (qM o n)) (mG o n++kU b (kR l) 0 l) K R:=
  ⟨q.size,q.os,q.tape,q.output,λf m hw=>q.heap f m (λft=>by obtain⟨id,y,e,z,av⟩:=V f ft;grind),q.evo,q.i,(λf m=>by
    rcases q.i2 f m with D|⟨M,N|N⟩
    ·grind
    ·omega
    exact .inr ⟨M,.inr (V f N)⟩),
   (λid e y=>by
    rw[ds] at y;cases ap:ay r id with
    |none=>grind
    |some c=>
     rw[ap] at y;obtain rfl:c.1=e:=gy y;have p:=BG ap;obtain⟨M,N⟩:=fl _ p;refine⟨N,ae,ae,λf m=>?_⟩;simp only[R,ap] at m;obtain⟨aE,d5,bx,d6⟩:=q.NM f (ex _ p f m);exact⟨aE,bx,d6.imp (λD=>D) (V f)⟩),
   (λad d7 e lb f2 f3 ix f m=>by
    rw[ds] at f2 f3;cases hi:ay r ad with
    |none=>grind
    |some jp=>
     cases hr:ay r d7 with
     |none=>grind
     |some kd=>
      grind),
   (λd8 a0 e z=>by
    obtain⟨id,y,rfl⟩:=e1.1 a0;obtain⟨c,A,O,_⟩:=PU (rt:=rt) c1 f0 id y;subst O;have p:c∈r:=oF _ A;have i1:=F8 cv p;obtain⟨_,N,_,am,co,ek⟩:=f8 c A;rw[z] at co;obtain rfl:=gy co;exact⟨c.2.1,ae,ek,ae,⟨e.1,by cases e.1<;>rfl⟩,λc _ _ _ a3=>by grind [Ka]⟩),
   (λd8 a0 e z c _ _ _ _ _ ic=>by
    obtain⟨id,y,rfl⟩:=e1.1 a0;grind [yu])⟩
 refine⟨I',K,R,cT,bq,gf,λM gi d9 f1=>?_⟩;have d4:∀(k:X) (e:aT) (u:Value),l[k]?=Y e->cT[k]?=Y u->c8 (cG I' C.B) w' M gi d9 (bif e.1.pure then .val e.1 e.2 else .ref (so b (kR l) (0+k)) []) u:=by
  intro k e u ax Q;have f4:k<l.length:=(ih.1 ax).1;obtain⟨an,T⟩:=d1 k e L[k] F[k] u ax ac ac Q;subst an;cases d0:e.1.pure with
  |true=>
   simp only[bI];have:=T.pure d0;rw[this] at T;refine .val (T.mono (λbs f p=>⟨?_,eF.refl _ _⟩) ac);cases bs
   ·exact p
   exact p.elim .inl (λD=>D.elim)
  |false=>
   simp only[bR];have f5:=SM (d:=b) (s:=kR l) (j:=0) a4 bl k e L[k] F[k] ax ac ac d0;have p:(so b (kR l) (0+k),(e,L[k],F[k]))∈r:=lw _ f5;have f6:(so b (kR l) (0+k),e)∈kU b (kR l) 0 l:=(by rw[<-GX (d:=b) (s:=kR l) (j:=0) a4 bl];grind);obtain⟨aE,d5⟩:=f1 _ f6;refine .ref (t:=e) (loc:=bv) aE ?_;have gt:K (so b (kR l) (0+k))=L[k]:=(by simp only[K,F8 cv p]);grind [a8.here]
 cases d2:l with
 |nil=>
  have:cT=[]:=rk ae;subst this;exact .fG (vs:=#[]) rfl (λad a u D=>by grind)
 |cons e ce=>
  cases ce with
  |nil=>
   obtain⟨u,rfl⟩:∃u,cT=[u]:=rn.1 ae;have:=d4 0 e u ae bq;rw[d2] at this;exact this
  |cons gl ce=>
   have f9:sp cT=.tuple cT.toArray:=by
    have:cT.length=(e::gl::ce).length:=by grind
    match cT,this with
    |v1::fL::kg,_=>rfl
   rw[f9];refine .fG (by grind [SH]) (λad go u M N=>?_);obtain⟨am,ax,Q⟩:=SG M;have:=d4 ad am u ae ae;rw[d2] at this;rw[Q];exact this
theorem afb {d:bD} {c:bp aT} (e:((p++kU b d 0 c).map (·.1)).Nodup):∀a∈kU b d 0 c,ay (p++kU b d 0 c) a.1=Y a.2:=
 λa f=>F8 e (lw _ f)
theorem fI.call {Q:aW->Prop} {j d:X} {l:bU} {f:bS} {c:bp au} {b s:bX _} (K:l.op=.call {callee:=.value f,args:=b,argTypes:=s}) (S:bc st.g f=.eM d c) (G:l.dst=Y j) (H:C.ok j) (an:∀(r:akY) (w:bH),(amo d r).run E.P w=.ok (.enter d r) w) {i:bp ie} {n:bp aT} (D:uI E d i n) (N:qZ 0 i=bv) (x:∀m,C.I0 m\/C.B m->m<C.w0.heap.size/\¬C.F0 m) (y:mj E C.I0 C.w0) (z:p2 st.h (hy (b.toList.map (bc st.g)++c) i) (b.toList.map (bc st.g)++c) i) (p:rH j st (b.toList.map (bc st.g)++c) i n=bt) (u:Q (Wz j st (b.toList.map (bc st.g)++c) i n)):fI E C l st Q:=by
 rintro a w ⟨I,rt,fp,k⟩ next T J
 obtain⟨e,R,v⟩:∃e:akY,a.eval f=.func (.func d) #[] e/\ku (c8 (cG I C.B) w st.h rt fp) c e.toList:=by
  have o:=k.bc f;rw[S] at o;generalize bl:a.eval f=ce at o;cases o with|eM a0 ap=>
  grind [Dl]
 have A:ku (c8 (cG I C.B) w st.h rt fp) (b.toList.map (bc st.g)++c) (b.toList.map a.eval++e.toList):=Nh (Nj (λf=>k.bc f) _) v;have F:=k.call A D z p (λ_ _=>by rw[N];trivial) (k.glob x y);generalize am:b.toList.map (bc st.g)++c=U at*;have M:(bT a.eval l).run E.P w=.ok (.enter d (b.toList.map a.eval++e.toList).toArray) w:=(by have ax:b.map a.eval=(b.toList.map a.eval).toArray:=ae;have t:(b.toList.map a.eval++e.toList).toArray=(b.toList.map a.eval).toArray++e:=ac;rw[t];simp only[bT,K,resolve,ax,b8,R,Deferred.ofValue,alp,cd,invoke,apy,Array.append_empty];grind);unfold alJ;rw[M];show Calls E.P d _ w _;refine F.mono ?_;rintro V w' ⟨I',bx,ad,cT,rfl,O,L⟩;show next (a.put l.dst (sp cT)) w'
 rw[G];have q:=p;simp only[rH,cL] at q;have a3:=kn.ok q.1.2;refine J _ _ _ u bq ⟨I',_,_,(k.eK O).put H (av:=GU j n) (L _ _ _ (λbs a4=>?_))⟩;grind [lL,afb,fA]
end
end
end Go.l0
end
