import Derived.Lib.ItoaNum
import Derived.Tactics
import Derived.Test.YtoeokgpdmagjoaaGreatT3
/-
A part of the proof: steps of the walk and plain laws.
-/
set_option linter.unusedVariables false
namespace Go.Proofs.Tryz
open Go Go.RowKit Go.Proofs.VC
variable {M:List Nat} {w0 w:World} {L:List (Nat×Obj)}
def strE (s:List UInt8) (e:Nat):Value:= .tuple #[.string (S s),.int .i64 (e:Int)]
theorem T_block_loader_plain (a b c d e:Int) (p:Option Addr) (n k:Nat) (l:List Int) (w:World) (hs:SlI w p n l) (hl:8*l.length≤140737488355328):
 Calls prog n_block_loader_plain #[.agg #[.int .i64 a,.int .i64 b,.int .i64 c,.int .i64 d,.int .u64 e,.slice p n k]] w fun x w'=>x= .returned (strE (plainB l) 0)∧Fr [] w w':=by
 refine S_block_loader_plain ?_
 unfold F_block_loader_plain
 refine(St.start [] w).alloc fun w1 b1 H=>?_
 rw [A0_add]
 refine⟨_,_,_,H.cell 0 rfl rfl,?_⟩
 exact Calls.st H (T_plain_Put p n k l w1 (hs.fr0 H.fr) hl) fun w2 H=>⟨_,rfl,rfl,H.fr⟩
def loadErr (way a b c d:Int) (n:Nat):Bool:= !(mayB a b c d)|| !(isWayB way)|| !(inB (n:Int) 1 4096)
def loadV (way a b c d:Int) (n:Nat) (s:List UInt8) (er:Nat):Value:=if loadErr way a b c d n=true then strE [] 1 else strE s er
def loadF (way:Nat):Nat:=match way with|0=>n_block_loader_plain|1=>n_block_loader_codes|2=>n_block_loader_states|_=>n_block_loader_chances
def unlF (way:Nat):Nat:=match way with|0=>n_block_unloader_plain|1=>n_block_unloader_codes|2=>n_block_unloader_states|_=>n_block_unloader_chances
theorem way_cases {way:Int} (h:isWayB way=true):way=0∨way=1∨way=2∨way=3:=by
 simp only [isWayB,inB,Bool.and_eq_true,decide_eq_true_eq]at h
 omega
theorem T_block_Load (way a b c d e:Int) (p:Option Addr) (n k:Nat) (l:List Int) (s:List UInt8) (er:Nat) (w:World) (hs:SlI w p n l)
 (hw:loadErr way a b c d n=false→∀w1,SlI w1 p n l→Calls prog (loadF way.toNat) #[.agg #[.int .i64 a,.int .i64 b,.int .i64 c,.int .i64 d,.int .u64 e,.slice p n k]] w1 fun x w'=>x= .returned (strE s er)∧Fr [] w1 w'):
 Calls prog n_block_Load #[.int .i64 way,optV a b c d e,.slice p n k] w fun x w'=>x= .returned (loadV way a b c d n s er)∧Fr [] w w':=by
 refine S_block_Load ?_
 unfold F_block_Load
 refine(St.start [] w).alloc fun w1 b4 H=>?_
 intro J3 hJ
 refine⟨_,_,_,_,_,⟨by rw [A0_add];exact H.cell 0 rfl rfl,by rw [A0_add];exact H.cell 0 rfl rfl,by rw [A0_add];exact H.cell 0 rfl rfl,by rw [A0_add];exact H.cell 0 rfl rfl,by rw [A0_add];exact H.cell 0 rfl rfl,trivial⟩,?_⟩
 refine Calls.st H (T_block_May a b c d e w1) fun w2 H=>⟨_,rfl,bif_i (fun h1=>?_) fun h1=>?_⟩
 · exact⟨by rw [loadV,if_pos (by simp [loadErr,h1])];rfl,H.fr⟩
 · have h1':mayB a b c d=true:=by simpa using h1
   refine Calls.st H (T_block_isWay way w2) fun w3 H=>⟨_,rfl,bif_i (fun h2=>?_) fun h2=>?_⟩
   · exact⟨by rw [loadV,if_pos (by simp [loadErr,h1',h2])];rfl,H.fr⟩
   · have h2':isWayB way=true:=by simpa using h2
     refine Calls.st H (T_block_in _ _ _ w3) fun w4 H=>⟨_,rfl,bif_i (fun h3=>?_) fun h3=>?_⟩
     · exact⟨by rw [loadV,if_pos (by simp [loadErr,h1',h2',h3])];rfl,H.fr⟩
     · have h3':inB (n:Int) 1 4096=true:=by simpa using h3
       have herr:loadErr way a b c d n=false:=by simp [loadErr,h1',h2',h3']
       refine hJ _ (H.alloc fun w5 b8 H=>?_)
       simp only [A0_add]
       refine H.sto 0 rfl (by simp) fun w6 H=>?_
       refine H.sto 0 rfl (by simp) fun w6 H=>?_
       refine H.sto 0 rfl (by simp) fun w6 H=>?_
       refine H.sto 0 rfl (by simp) fun w6 H=>?_
       refine H.drew fun w8 H=>?_
       rw [Nat.mul_one]
       have key:∀g,loadF way.toNat=g→fok g=true→cond (fok g) (Calls prog g ((#[]:Array Value).toList++([.agg #[.int .i64 a,.int .i64 b,.int .i64 c,.int .i64 d,.int .u64 e,.slice p n k]]:List Value)++(#[]:Array Value).toList).toArray w8
        (fun e_1 w9=>∃x30r0:ByteArray,∃x30r1:Int,e_1= .returned (.tuple #[.string x30r0,.int .i64 x30r1])∧((w8.cell? ⟨b4,0,none⟩=some (.int .i64 a)→w9.cell? ⟨b4,0,none⟩=some (.int .i64 a))∧
         (w8.cell? ⟨b4,1,none⟩=some (.int .i64 b)→w9.cell? ⟨b4,1,none⟩=some (.int .i64 b))∧(w8.cell? ⟨b4,2,none⟩=some (.int .i64 c)→w9.cell? ⟨b4,2,none⟩=some (.int .i64 c))∧
         (w8.cell? ⟨b4,3,none⟩=some (.int .i64 d)→w9.cell? ⟨b4,3,none⟩=some (.int .i64 d))∧(w8.cell? ⟨b4,4,none⟩=some (.int .u64 e)→w9.cell? ⟨b4,4,none⟩=some (.int .u64 e))∧True)∧
         (fun v w'=>Ending.returned v= .returned (loadV way a b c d n s er)∧Fr [] w w') (.tuple #[.string x30r0,.int .i64 x30r1]) w9)) False:=by
        intro g hg hok
        rw [hok]
        have hc:=hw herr w8 (hs.fr0 H.fr)
        rw [hg]at hc
        refine Calls.stf H hc fun w9 hf H=>⟨_,_,rfl,⟨hf.cell0,hf.cell0,hf.cell0,hf.cell0,hf.cell0,trivial⟩,?_,H.fr⟩
        rw [loadV,if_neg (by simp [herr])];rfl
       rcases way_cases h2' with rfl|rfl|rfl|rfl
       all_goals
        refine⟨by decide,by decide,_,_,_,H.cell 0 rfl rfl,?_⟩
        refine⟨_,_,_,_,_,⟨by rw [A0_add];exact H.cell 1 rfl rfl,by rw [A0_add];exact H.cell 1 rfl rfl,by rw [A0_add];exact H.cell 1 rfl rfl,by rw [A0_add];exact H.cell 1 rfl rfl,by rw [A0_add];exact H.cell 1 rfl rfl,trivial⟩,?_⟩
        exact key _ rfl (by decide+kernel)
theorem T_plain_Get (s:List UInt8) (hl:s.length≤140737488355328) (w:World):Calls prog n_plain_Get #[.string (S s)] w fun e w'=>∃a c l,e= .returned (.tuple #[.slice a l.length c,.bool (s.length%8==0)])∧SlI w' a l.length l∧Fr [] w w'∧
 (s.length%8=0→l=(List.range (s.length/8)).map fun i=>IntKind.wrap .i64 ((le ((s.drop (8*i)).take 8):Nat):Int)):=by
 refine S_plain_Get ?_
 unfold F_plain_Get
 rw [S_size,show(8:Int)=((8:Nat):Int)from rfl,tmod_nat]
 refine⟨by decide,bif_i (fun h=>?_) fun h=>?_⟩
 · have h':s.length%8≠0:=by intro h0;rw [h0]at h;simp at h
   exact⟨none,0,[],by simp [h'],⟨rfl,Sl.nil _ _⟩,Fr.refl _ _,fun h0=>absurd h0 h'⟩
 · have h':s.length%8=0:=by
    have:¬(((s.length%8:Nat):Int)≠0):=by simpa using h
    omega
   refine⟨fun m a n c x w1=>∃(i:Nat),x=((8*i:Nat):Int)∧m+i=s.length/8∧n=i∧St [] w w1 []∧Ow [] w w1 [] t_int64 1 a n c (i64s ((List.range i).map fun i=>IntKind.wrap .i64 ((le ((s.drop (8*i)).take 8):Nat):Int))),
    ⟨s.length/8,0,rfl,rfl,rfl,St.start [] w,Ow.nil⟩,?_⟩
   rintro m a n c x w1 ⟨i,rfl,hm,rfl,H,ho⟩
   refine bif_i (fun hc=>?_) fun hc=>?_
   · have hi:8*n<s.length:=by have:=of_decide_eq_true hc;omega
     refine Calls.stf H (T_vint_GetWord s _ (by omega) w1) fun w2 hf H=>⟨_,_,_,rfl,?_⟩
     rw [wgetR_at (by omega)]
     refine H.alloc_own (ho.call0 hf) fun w3 b H ho=>?_
     refine app64 H ho (by omega) fun a' c2 w4 H ho=>⟨m-1,by omega,n+1,rfl,by omega,rfl,H,?_⟩
     rw [List.range_succ,List.map_append]
     exact ho
   · have hi:n=s.length/8:=by have:=of_decide_eq_false hc;omega
     subst hi
     refine⟨a,c,_,?_,⟨rfl,ho.sl⟩,H.fr,fun _=>rfl⟩
     simp [h']
end Go.Proofs.Tryz
namespace Go.Proofs.Tryz
open Go Go.RowKit Go.Proofs.VC
variable {M:List Nat} {w0 w:World} {L:List (Nat×Obj)}
def words (s:List UInt8):List Int:=(List.range (s.length/8)).map fun i=>IntKind.wrap .i64 ((le ((s.drop (8*i)).take 8):Nat):Int)
@[simp] theorem words_len (s:List UInt8):(words s).length=s.length/8:=by simp [words]
def unPlain (s:List UInt8) (n:Int):Option (List Int):=if s.length%8=0∧((s.length/8:Nat):Int)=n then some (words s)else none
def SlOk (w:World) (v:Value) (r:Option (List Int)):Prop:=
 match r with
 |some l=>∃a c,v= .tuple #[.slice a l.length c,.bool true]∧SlI w a l.length l
 |none=>∃a m c,v= .tuple #[.slice a m c,.bool false]
def SlE (w:World) (v:Value) (r:Except Nat (List Int)):Prop:=
 match r with
 | .ok l=>∃a c,v= .tuple #[.slice a l.length c,.int .i64 0]∧SlI w a l.length l
 | .error k=>v= .tuple #[.slice none 0 0,.int .i64 (k:Int)]
theorem T_block_unloader_plain (s:List UInt8) (n:Int) (hl:s.length≤140737488355328) (w:World):Calls prog n_block_unloader_plain #[.agg #[.string (S s),.int .i64 n]] w fun e w'=>∃v,e= .returned v∧SlOk w' v (unPlain s n)∧Fr [] w w':=by
 refine S_block_unloader_plain ?_
 unfold F_block_unloader_plain
 refine(St.start [] w).alloc fun w1 b1 H=>?_
 refine⟨_,H.cell 0 rfl rfl,?_⟩
 refine(T_plain_Get s hl w1).mono ?_
 rintro e w2 ⟨a,c,l,rfl,hs,hf,hw⟩
 refine⟨a,_,c,_,rfl,?_⟩
 replace H:=H.call0 hf
 refine H.drewf fun w3 hf3 H=>?_
 have hs3:SlI w3 a l.length l:=hs.fr0 hf3
 refine bif_i (fun h=>?_) fun h=>?_
 · have h':s.length%8=0:=by simpa using h
   have hll:=hw h'
   have hlen:l.length=s.length/8:=by rw [hll];simp
   refine⟨n,by rw [A0_add];exact H.cell 0 rfl rfl,_,rfl,?_,H.fr⟩
   by_cases hn:((s.length/8:Nat):Int)=n
   · rw [unPlain,if_pos ⟨h',hn⟩]
     have e2:words s=l:=hll.symm
     rw [e2]
     refine⟨a,c,?_,hs3⟩
     rw [hlen]
     simp [hn]
   · rw [unPlain,if_neg (fun hh=>hn hh.2)]
     refine⟨a,l.length,c,?_⟩
     rw [hlen,beq_eq_false_iff_ne.2 hn]
 · have h':s.length%8≠0:=by simpa using h
   refine⟨_,rfl,?_,H.fr⟩
   rw [unPlain,if_neg (fun hh=>h' hh.1)]
   exact⟨a,l.length,c,rfl⟩
def unlErr (way n:Int):Bool:= !(isWayB way)|| !(inB n 1 4096)
def unlR (way n:Int) (r:Option (List Int)):Except Nat (List Int):=if unlErr way n=true then .error 1 else match r with|some l=> .ok l|none=> .error 3
theorem T_block_Unload (way n:Int) (s:List UInt8) (r:Option (List Int)) (w:World)
 (hw:unlErr way n=false→∀w1,Calls prog (unlF way.toNat) #[.agg #[.string (S s),.int .i64 n]] w1 fun e w'=>∃v,e= .returned v∧SlOk w' v r∧Fr [] w1 w'):
 Calls prog n_block_Unload #[.int .i64 way,.string (S s),.int .i64 n] w fun e w'=>∃v,e= .returned v∧SlE w' v (unlR way n r)∧Fr [] w w':=by
 refine S_block_Unload ?_
 unfold F_block_Unload
 intro J3 hJ
 refine Calls.st (St.start [] w) (T_block_isWay way w) fun w2 H=>⟨_,rfl,bif_i (fun h1=>?_) fun h1=>?_⟩
 · exact⟨_,rfl,by unfold unlR;rw [if_pos (by simp [unlErr,h1])];rfl,H.fr⟩
 · have h1':isWayB way=true:=by simpa using h1
   refine Calls.st H (T_block_in _ _ _ w2) fun w3 H=>⟨_,rfl,bif_i (fun h2=>?_) fun h2=>?_⟩
   · exact⟨_,rfl,by unfold unlR;rw [if_pos (by simp [unlErr,h1',h2])];rfl,H.fr⟩
   · have h2':inB n 1 4096=true:=by simpa using h2
     have herr:unlErr way n=false:=by simp [unlErr,h1',h2']
     refine hJ _ (H.alloc fun w5 b8 H=>?_)
     simp only [A0_add]
     refine H.sto 0 rfl (by simp) fun w6 H=>?_
     refine H.sto 0 rfl (by simp) fun w6 H=>?_
     refine H.sto 0 rfl (by simp) fun w6 H=>?_
     refine H.sto 0 rfl (by simp) fun w6 H=>?_
     rw [Nat.mul_one]
     have key:∀g,unlF way.toNat=g→fok g=true→cond (fok g) (Calls prog g ((#[]:Array Value).toList++([.agg #[.string (S s),.int .i64 n]]:List Value)++(#[]:Array Value).toList).toArray w6
      (fun e_1 w7=>∃x27r0:Option Addr,∃x27r0n:Nat,∃x27r0c:Nat,∃x27r1:Bool,e_1= .returned (.tuple #[.slice x27r0 x27r0n x27r0c,.bool x27r1])∧
       bif !x27r1 then((fun v w'=>∃v_1,Ending.returned v= .returned v_1∧SlE w' v_1 (unlR way n r)∧Fr [] w w') (.tuple #[.slice none 0 0,.int .i64 (3:Int)]) w7)
        else((fun v w'=>∃v_1,Ending.returned v= .returned v_1∧SlE w' v_1 (unlR way n r)∧Fr [] w w') (.tuple #[.slice x27r0 x27r0n x27r0c,.int .i64 (0:Int)]) w7))) False:=by
      intro g hg hok
      rw [hok]
      have hc:=hw herr w6
      rw [hg]at hc
      refine hc.mono ?_
      rintro e w7 ⟨v,rfl,hv,hf⟩
      cases r with
      |none=>
       have hr:unlR way n none= .error 3:=by unfold unlR;rw [if_neg (by simp [herr])]
       obtain⟨a,m,c,rfl⟩:=hv
       exact⟨_,_,_,_,rfl,_,rfl,by rw [hr];rfl,H.fr.trans hf⟩
      |some l=>
       have hr:unlR way n (some l)= .ok l:=by unfold unlR;rw [if_neg (by simp [herr])]
       obtain⟨a,c,rfl,hs⟩:=hv
       exact⟨_,_,_,_,rfl,_,rfl,by rw [hr];exact⟨a,c,rfl,hs⟩,H.fr.trans hf⟩
     rcases way_cases h1' with rfl|rfl|rfl|rfl
     all_goals
      refine⟨by decide,by decide,_,_,_,H.cell 0 rfl rfl,?_⟩
      exact key _ rfl (by decide+kernel)
structure HD where
 way:Nat
 n:Nat
 size:Nat
 next:Nat
 e:Nat
 deriving DecidableEq
def HD.bad (e:Nat):HD:=⟨0,0,0,0,e⟩
def HD.val (x:HD):Value:= .tuple #[.int .i64 (x.way:Int),.int .i64 (x.n:Int),.int .i64 (x.size:Int),.int .i64 (x.next:Int),.int .i64 (x.e:Int)]
def headB (l:List UInt8) (way n next:Nat):HD:=
 if (readR l (next:Int) vgetR).2.2≠0 then .bad (readR l (next:Int) vgetR).2.2
 else if 16*n+1000<(readR l (next:Int) vgetR).1 then .bad 3
 else if l.length<(readR l (next:Int) vgetR).1+8+(readR l (next:Int) vgetR).2.1 then .bad 2
 else⟨way,n,(readR l (next:Int) vgetR).1,(readR l (next:Int) vgetR).2.1,0⟩
def headA (l:List UInt8) (at_:Nat) (most:Int):HD:=
 if 3<(l.getD at_ 0).toNat then .bad 3
 else if (readR l ((at_+1:Nat):Int) vgetR).2.2≠0 then .bad (readR l ((at_+1:Nat):Int) vgetR).2.2
 else if (readR l ((at_+1:Nat):Int) vgetR).1<1∨4096<(readR l ((at_+1:Nat):Int) vgetR).1 then .bad 3
 else if most<((readR l ((at_+1:Nat):Int) vgetR).1:Int)then .bad 5
 else headB l (l.getD at_ 0).toNat (readR l ((at_+1:Nat):Int) vgetR).1 (readR l ((at_+1:Nat):Int) vgetR).2.1
def headR (l:List UInt8) (at_ most:Int):HD:=
 if at_<0∨(l.length:Int)<at_ then .bad 1 else if at_=(l.length:Int)then .bad 2 else headA l at_.toNat most
theorem vgo_val:∀(l:List UInt8) (i acc:Nat),i≤10→acc<128^i→(vgo l i acc).1<WW
 | [],i,acc,hi,h=>by unfold vgo;split<;>simp
 |c::s,i,acc,hi,h=>by
  unfold vgo
  have hpow:(128:Nat)^(i+1)=128^i*128:=Nat.pow_succ ..
  split
  · simp
  · rename_i h10
    split
    · simp
    · rename_i h9
      have hmul:c.toNat%128*128^i≤127*128^i:=Nat.mul_le_mul_right _ (by omega)
      split
      · exact vgo_val s (i+1) _ (by omega) (by rw [hpow];omega)
      · rename_i h128
        split
        · simp
        · show acc+c.toNat*128^i<WW
          have hc:c.toNat=c.toNat%128:=by omega
          by_cases hi9:i=9
          · subst hi9
            have hle:c.toNat≤1:=by omega
            have:=Nat.mul_le_mul_right (128^9) hle
            have h9':(128:Nat)^9=9223372036854775808:=by decide
            have hW:WW=18446744073709551616:=rfl
            omega
          · have hle:(128:Nat)^i≤128^8:=Nat.pow_le_pow_right (by decide) (by omega)
            have h8:(128:Nat)^8=72057594037927936:=by decide
            have hW:WW=18446744073709551616:=rfl
            rw [←hc]at hmul
            omega
theorem vgetR_lt (l:List UInt8):(vgetR l).1<WW:=vgo_val l 0 0 (by decide) (by decide)
theorem readR_lt {l:List UInt8} {at_:Int}:(readR l at_ vgetR).1<WW:=by
 unfold readR
 split
 · show 0<WW;decide
 · split
   · show 0<WW;decide
   · exact vgetR_lt _
theorem vgo_sz':∀(l:List UInt8) (i acc:Nat),(vgo l i acc).2.2=0→(vgo l i acc).2.1≤i+l.length
 | [],i,acc=>by unfold vgo;split<;>simp
 |c::s,i,acc=>by
  unfold vgo
  split
  · simp
  · split
    · simp
    · split
      · intro h;have:=vgo_sz' s (i+1) _ h;simp only [List.length_cons];omega
      · split
        · simp
        · intro _
          show i+1≤i+(c::s).length
          rw [List.length_cons];omega
theorem readR_next {l:List UInt8} {at_:Int} (h:(readR l at_ vgetR).2.2=0):(readR l at_ vgetR).2.1≤l.length:=by
 unfold readR at h ⊢
 split at h
 · simp at h
 · rename_i h1
   rw [if_neg h1]
   split at h
   · rename_i h2;exact absurd h h2
   · rename_i h2
     rw [if_neg h2]
     have:=vgo_sz' (l.drop at_.toNat) 0 0 (by simpa [vgetR]using h2)
     rw [List.length_drop]at this
     show at_.toNat+(vgetR (l.drop at_.toNat)).2.1≤l.length
     have e:vgetR (l.drop at_.toNat)=vgo (l.drop at_.toNat) 0 0:=rfl
     rw [e];omega
end Go.Proofs.Tryz
namespace Go.Proofs.Tryz
open Go Go.RowKit Go.Proofs.VC
variable {M:List Nat} {w0 w:World} {L:List (Nat×Obj)}
theorem T_block_head (l:List UInt8) (at_ most:Int) (hl:l.length≤140737488355328) (w:World):Calls prog n_block_head #[.string (S l),.int .i64 at_,.int .i64 most] w fun e w'=>e= .returned (headR l at_ most).val∧Fr [] w w':=by
 refine S_block_head ?_
 unfold F_block_head
 rw [S_size]
 intro J5 hJ
 refine bif_i (fun h=>?_) (fun h=>bif_i (fun h2=>?_) fun h2=>bif_i (fun h3=>?_) fun h3=>?_)
 · have h':=of_decide_eq_true h
   exact⟨by rw [headR,if_pos (.inl h')];rfl,Fr.refl _ _⟩
 · have h':=of_decide_eq_true h2
   exact⟨by rw [headR,if_pos (.inr h')];rfl,Fr.refl _ _⟩
 · have h0:=of_decide_eq_false h
   have h1:=of_decide_eq_false h2
   have h':at_=(l.length:Int):=by simpa using h3
   exact⟨by rw [headR,if_neg (by omega),if_pos h'];rfl,Fr.refl _ _⟩
 · have h0:=of_decide_eq_false h
   have h1:=of_decide_eq_false h2
   have h':at_≠(l.length:Int):=by simpa using h3
   have hR:headR l at_ most=headA l at_.toNat most:=by rw [headR,if_neg (by omega),if_neg h']
   rw [hR]at hJ
   obtain⟨k,rfl⟩:∃k:Nat,at_=(k:Int):=⟨at_.toNat,by omega⟩
   rw [Int.toNat_natCast]at hJ
   have hk:k<l.length:=by omega
   have hget:l[k]? =some (l.getD k 0):=by simp [List.getD,hk]
   have hb:=(l.getD k 0).toNat_lt
   refine hJ _ ⟨by omega,_,by rw [S_get];exact hget,?_⟩
   rw [W64_nat (by omega:(l.getD k 0).toNat<9223372036854775808)]
   refine Calls.st (St.start [] w) (T_block_isWay _ w) fun w2 H=>⟨_,rfl,bif_i (fun h4=>?_) fun h4=>?_⟩
   · have h4':3<(l.getD k 0).toNat:=by
      have:isWayB ((l.getD k 0).toNat:Int)=false:=by simpa using h4
      simp only [isWayB,inB,Bool.and_eq_false_iff,decide_eq_false_iff_not]at this
      omega
     exact⟨by rw [headA,if_pos h4'];rfl,H.fr⟩
   · have h4':¬3<(l.getD k 0).toNat:=by
      have:isWayB ((l.getD k 0).toNat:Int)=true:=by simpa using h4
      simp only [isWayB,inB,Bool.and_eq_true,decide_eq_true_eq]at this
      omega
     have e1:W64 ((k:Int)+1)=((k+1:Nat):Int):=by rw [show(k:Int)+1=((k+1:Nat):Int) by omega,W64_nat (by omega)]
     rw [e1]
     refine Calls.st H (T_vint_Get l _ (by omega) w2) fun w3 H=>⟨_,_,_,rfl,?_⟩
     have hA:headA l k most=if (readR l ((k+1:Nat):Int) vgetR).2.2≠0 then .bad (readR l ((k+1:Nat):Int) vgetR).2.2
      else if (readR l ((k+1:Nat):Int) vgetR).1<1∨4096<(readR l ((k+1:Nat):Int) vgetR).1 then .bad 3
      else if most<((readR l ((k+1:Nat):Int) vgetR).1:Int)then .bad 5
      else headB l (l.getD k 0).toNat (readR l ((k+1:Nat):Int) vgetR).1 (readR l ((k+1:Nat):Int) vgetR).2.1:=by rw [headA,if_neg h4']
     have hxlt:=readR_lt (l:=l) (at_:=((k+1:Nat):Int))
     generalize readR l ((k+1:Nat):Int) vgetR=x at hA hxlt
     obtain⟨xn,xnext,xe⟩:=x
     intro J15 hJ15
     simp only at hA hxlt ⊢
     refine bif_i (fun h5=>?_) fun h5=>?_
     · have h5':xe≠0:=by intro h0;rw [h0]at h5;simp at h5
       exact⟨by rw [hA,if_pos h5'];rfl,H.fr⟩
     · have h5':xe=0:=by
        have:¬((xe:Int)≠0):=by simpa using h5
        omega
       subst h5'
       rw [if_neg (by simp)]at hA
       refine bif_i (fun h6=>?_) fun h6=>bif_i (fun h7=>?_) fun h7=>?_
       · have h6':=of_decide_eq_true h6
         exact⟨by rw [hA,if_pos (.inl (by omega))];rfl,H.fr⟩
       · have h7':=of_decide_eq_true h7
         exact⟨by rw [hA,if_pos (.inr (by omega))];rfl,H.fr⟩
       · have h6':=of_decide_eq_false h6
         have h7':=of_decide_eq_false h7
         rw [if_neg (by omega)]at hA
         rw [W64_nat (by omega:xn<9223372036854775808)]
         refine bif_i (fun h8=>?_) fun h8=>?_
         · have h8':=of_decide_eq_true h8
           exact⟨by rw [hA,if_pos (by omega)];rfl,H.fr⟩
         · have h8':=of_decide_eq_false h8
           rw [if_neg (by omega)]at hA
           refine hJ15 _ _ _ ?_
           refine Calls.st H (T_vint_Get l _ (by omega) w3) fun w4 H=>⟨_,_,_,rfl,?_⟩
           have hB:headB l (l.getD k 0).toNat xn xnext=if (readR l (xnext:Int) vgetR).2.2≠0 then .bad (readR l (xnext:Int) vgetR).2.2
            else if 16*xn+1000<(readR l (xnext:Int) vgetR).1 then .bad 3
            else if l.length<(readR l (xnext:Int) vgetR).1+8+(readR l (xnext:Int) vgetR).2.1 then .bad 2
            else⟨(l.getD k 0).toNat,xn,(readR l (xnext:Int) vgetR).1,(readR l (xnext:Int) vgetR).2.1,0⟩:=rfl
           have hylt:=readR_lt (l:=l) (at_:=(xnext:Int))
           have hynext:=readR_next (l:=l) (at_:=(xnext:Int))
           generalize readR l (xnext:Int) vgetR=y at hB hylt hynext
           obtain⟨yn,ynext,ye⟩:=y
           simp only at hB hylt hynext ⊢
           rw [hA,hB]
           refine bif_i (fun h9=>?_) fun h9=>?_
           · have h9':ye≠0:=by intro h0;rw [h0]at h9;simp at h9
             exact⟨by rw [if_pos h9'];rfl,H.fr⟩
           · have h9':ye=0:=by
              have:¬((ye:Int)≠0):=by simpa using h9
              omega
             subst h9'
             rw [if_neg (by simp)]
             have hyn:=hynext rfl
             have e2:U64 (U64 (16*(xn:Int))+1000)=((16*xn+1000:Nat):Int):=by
              rw [show(16:Int)*(xn:Int)=((16*xn:Nat):Int) by omega,U64_nat,Nat.mod_eq_of_lt (by omega),show((16*xn:Nat):Int)+1000=((16*xn+1000:Nat):Int) by omega,U64_nat,Nat.mod_eq_of_lt (by omega)]
             rw [e2]
             refine bif_i (fun h10=>?_) fun h10=>?_
             · have h10':=of_decide_eq_true h10
               exact⟨by rw [if_pos (by omega)];rfl,H.fr⟩
             · have h10':=of_decide_eq_false h10
               rw [if_neg (by omega),W64_nat (by omega:yn<9223372036854775808)]
               have e3:W64 ((yn:Int)+8)=((yn+8:Nat):Int):=by rw [show(yn:Int)+8=((yn+8:Nat):Int) by omega,W64_nat (by omega)]
               have e4:W64 ((l.length:Int)-(ynext:Int))=((l.length-ynext:Nat):Int):=by rw [show(l.length:Int)-(ynext:Int)=((l.length-ynext:Nat):Int) by omega,W64_nat (by omega)]
               rw [e3,e4]
               refine bif_i (fun h11=>?_) fun h11=>?_
               · have h11':=of_decide_eq_true h11
                 exact⟨by rw [if_pos (by omega)];rfl,H.fr⟩
               · have h11':=of_decide_eq_false h11
                 exact⟨by rw [if_neg (by omega),W64_nat (n:=xn) (by omega)];rfl,H.fr⟩
def getRest (l:List UInt8) (seed:Nat) (way next:Nat) (r:Except Nat (List Int)):Except Nat (Nat×List Int×Nat):=
 match r with
 | .error _=> .error 3
 | .ok ns=>if (readR l (next:Int) wgetR).2.2≠0 then .error (readR l (next:Int) wgetR).2.2
   else if (readR l (next:Int) wgetR).1≠sumN seed (plainB ns)then .error 4 else .ok (way,ns,(readR l (next:Int) wgetR).2.1)
def BlkV (w:World) (v:Value) (r:Except Nat (Nat×List Int×Nat)):Prop:=
 match r with
 | .error k=>v= .tuple #[.int .i64 0,.slice none 0 0,.int .i64 0,.int .i64 (k:Int)]
 | .ok (way,ns,next)=>∃a c,v= .tuple #[.int .i64 (way:Int),.slice a ns.length c,.int .i64 (next:Int),.int .i64 0]∧SlI w a ns.length ns
theorem headR_ok {l:List UInt8} {at_ most:Int} (h:(headR l at_ most).e=0):(headR l at_ most).next+(headR l at_ most).size+8≤l.length∧(headR l at_ most).way≤3∧1≤(headR l at_ most).n∧(headR l at_ most).n≤4096:=by
 unfold headR at h ⊢
 split at h
 · simp [HD.bad]at h
 · rename_i h1
   rw [if_neg h1]
   split at h
   · simp [HD.bad]at h
   · rename_i h2
     rw [if_neg h2]
     unfold headA at h ⊢
     split at h
     · simp [HD.bad]at h
     · rename_i h3
       rw [if_neg h3]
       split at h
       · rename_i h4;exact absurd h h4
       · rename_i h4
         rw [if_neg h4]
         split at h
         · simp [HD.bad]at h
         · rename_i h5
           rw [if_neg h5]
           split at h
           · simp [HD.bad]at h
           · rename_i h6
             rw [if_neg h6]
             unfold headB at h ⊢
             split at h
             · rename_i h7;exact absurd h h7
             · rename_i h7
               rw [if_neg h7]
               split at h
               · simp [HD.bad]at h
               · rename_i h8
                 rw [if_neg h8]
                 split at h
                 · simp [HD.bad]at h
                 · rename_i h9
                   rw [if_neg h9]
                   refine⟨?_,?_,?_,?_⟩<;>dsimp only<;>omega
def blkR (l:List UInt8) (at_:Int) (seed:Nat) (most:Int) (unl:Nat→Nat→List UInt8→Option (List Int)):Except Nat (Nat×List Int×Nat):=
 if (headR l at_ most).e≠0 then .error (headR l at_ most).e
 else getRest l seed (headR l at_ most).way ((headR l at_ most).next+(headR l at_ most).size)
  (match unl (headR l at_ most).way (headR l at_ most).n ((l.drop (headR l at_ most).next).take (headR l at_ most).size)with|some ns=> .ok ns|none=> .error 3)
theorem T_block_Get (l:List UInt8) (at_:Int) (seed:Nat) (hseed:seed<WW) (most:Int) (unl:Nat→Nat→List UInt8→Option (List Int)) (hl:l.length≤140737488355328) (w:World)
 (hw:(headR l at_ most).e=0→∀w1,Calls prog (unlF (headR l at_ most).way) #[.agg #[.string (S ((l.drop (headR l at_ most).next).take (headR l at_ most).size)),.int .i64 ((headR l at_ most).n:Int)]] w1 fun e w'=>
  ∃v,e= .returned v∧SlOk w' v (unl (headR l at_ most).way (headR l at_ most).n ((l.drop (headR l at_ most).next).take (headR l at_ most).size))∧Fr [] w1 w')
 (hlen:∀way n s ns,unl way n s=some ns→8*ns.length≤140737488355328):
 Calls prog n_block_Get #[.string (S l),.int .i64 at_,.int .u64 (seed:Int),.int .i64 most] w fun e w'=>∃v,e= .returned v∧BlkV w' v (blkR l at_ seed most unl)∧Fr [] w w':=by
 refine S_block_Get ?_
 unfold F_block_Get
 refine Calls.st (St.start [] w) (T_block_head l at_ most hl w) fun w1 H=>?_
 have hok:=headR_ok (l:=l) (at_:=at_) (most:=most)
 have hB:blkR l at_ seed most unl=if (headR l at_ most).e≠0 then .error (headR l at_ most).e
  else getRest l seed (headR l at_ most).way ((headR l at_ most).next+(headR l at_ most).size)
   (match unl (headR l at_ most).way (headR l at_ most).n ((l.drop (headR l at_ most).next).take (headR l at_ most).size)with|some ns=> .ok ns|none=> .error 3):=rfl
 generalize headR l at_ most=x at hw hok hB
 obtain⟨way,n,size,next,e⟩:=x
 refine⟨_,_,_,_,_,rfl,?_⟩
 dsimp only at hw hok hB ⊢
 refine bif_i (fun h1=>?_) fun h1=>?_
 · have h1':e≠0:=by intro h0;rw [h0]at h1;simp at h1
   exact⟨_,rfl,by rw [hB,if_pos h1'];rfl,H.fr⟩
 · have h1':e=0:=by
    have:¬((e:Int)≠0):=by simpa using h1
    omega
   subst h1'
   rw [if_neg (by simp)]at hB
   obtain⟨hsz,hway,hn1,hn2⟩:=hok rfl
   have e1:W64 ((next:Int)+(size:Int))=((next+size:Nat):Int):=by rw [show(next:Int)+(size:Int)=((next+size:Nat):Int) by omega,W64_nat (by omega)]
   rw [e1,S_size,Int.toNat_natCast,Int.toNat_natCast,S_extract,List.drop_take,Nat.add_sub_cancel_left]
   refine⟨by omega,by omega,by omega,by omega,?_⟩
   have hw1:=hw rfl
   refine(T_block_Unload (way:Int) (n:Int) _ _ w1 (fun _ w2=>by rw [Int.toNat_natCast];exact hw1 w2)).mono ?_
   rintro e2 w2 ⟨v,rfl,hv,hf⟩
   replace H:=H.call0 hf
   have hue:unlErr (way:Int) (n:Int)=false:=by
    simp [unlErr,isWayB,inB];omega
   cases hu:unl way n ((l.drop next).take size)with
   |none=>
    rw [hu]at hv hB
    have hv':v= .tuple #[.slice none 0 0,.int .i64 3]:=by
     have:unlR (way:Int) (n:Int) none= .error 3:=by unfold unlR;rw [if_neg (by simp [hue])]
     rw [this]at hv;exact hv
    subst hv'
    refine⟨_,_,_,_,rfl,bif_i (fun h2=>?_) fun h2=>?_⟩
    · exact⟨_,rfl,by rw [hB];rfl,H.fr⟩
    · simp at h2
   |some ns=>
    rw [hu]at hv hB
    have hv':SlE w2 v (.ok ns):=by
     have:unlR (way:Int) (n:Int) (some ns)= .ok ns:=by unfold unlR;rw [if_neg (by simp [hue])]
     rw [this]at hv;exact hv
    obtain⟨a,c,rfl,hs⟩:=hv'
    have hnl:=hlen _ _ _ _ hu
    refine⟨_,_,_,_,rfl,bif_i (fun h2=>?_) fun h2=>?_⟩
    · simp at h2
    · refine Calls.stf H (T_vint_GetWord l _ (by omega) w2) fun w3 hf3 H=>⟨_,_,_,rfl,?_⟩
      have hs3:=hs.fr0 hf3
      have hG:getRest l seed way (next+size) (.ok ns)=if (readR l ((next+size:Nat):Int) wgetR).2.2≠0 then .error (readR l ((next+size:Nat):Int) wgetR).2.2
       else if (readR l ((next+size:Nat):Int) wgetR).1≠sumN seed (plainB ns)then .error 4 else .ok (way,ns,(readR l ((next+size:Nat):Int) wgetR).2.1):=rfl
      generalize readR l ((next+size:Nat):Int) wgetR=y at hG
      obtain⟨yn,ynext,ye⟩:=y
      simp only at hG ⊢
      refine bif_i (fun h3=>?_) fun h3=>?_
      · have h3':ye≠0:=by intro h0;rw [h0]at h3;simp at h3
        exact⟨_,rfl,by rw [hB,hG,if_pos h3'];rfl,H.fr⟩
      · have h3':ye=0:=by
         have:¬((ye:Int)≠0):=by simpa using h3
         omega
        subst h3'
        rw [if_neg (by simp)]at hG
        refine Calls.stf H (T_plain_Put a ns.length c ns w3 hs3 hnl) fun w4 hf4 H=>⟨_,rfl,?_⟩
        refine Calls.stf H (T_xxh_Sum seed hseed (plainB ns) (by rw [plainB_len];omega) w4) fun w5 hf5 H=>⟨_,rfl,?_⟩
        refine bif_i (fun h4=>?_) fun h4=>?_
        · have h4':yn≠sumN seed (plainB ns):=by intro h0;rw [h0]at h4;simp at h4
          exact⟨_,rfl,by rw [hB,hG,if_pos h4'];rfl,H.fr⟩
        · have h4':yn=sumN seed (plainB ns):=by
           have:¬((yn:Int)≠(sumN seed (plainB ns):Int)):=by simpa using h4
           omega
          exact⟨_,rfl,by rw [hB,hG,if_neg (by simpa using h4')];exact⟨a,c,rfl,(hs3.fr0 hf4).fr0 hf5⟩,H.fr⟩
end Go.Proofs.Tryz
namespace Go.Proofs.Tryz
open Go Go.RowKit Go.Proofs.VC
variable {M:List Nat} {w0 w:World} {L:List (Nat×Obj)}
def headBytes (way n size:Nat):List UInt8:= [UInt8.ofNat way]++vput n++vput size
def blockB (way n:Nat) (s:List UInt8) (sum:Nat):List UInt8:=headBytes way n s.length++s++wput sum
def putV (way a b c d:Int) (n:Nat) (s:List UInt8) (er:Nat) (sum:Nat):Value:=
 if loadErr way a b c d n=true then strE [] 1 else if er≠0 then strE [] er else strE (blockB way.toNat n s sum) 0
theorem T_block_Put (way a b c d:Int) (e:Nat) (he:e<WW) (p:Option Addr) (n k:Nat) (l:List Int) (s:List UInt8) (er:Nat) (w:World) (hs:SlI w p n l) (hsz:s.length≤140737488355328)
 (hw:loadErr way a b c d n=false→∀w1,SlI w1 p n l→Calls prog (loadF way.toNat) #[.agg #[.int .i64 a,.int .i64 b,.int .i64 c,.int .i64 d,.int .u64 (e:Int),.slice p n k]] w1 fun x w'=>x= .returned (strE s er)∧Fr [] w1 w'):
 Calls prog n_block_Put #[.int .i64 way,optV a b c d (e:Int),.slice p n k] w fun x w'=>x= .returned (putV way a b c d n s er (sumN e (plainB l)))∧Fr [] w w':=by
 refine S_block_Put ?_
 unfold F_block_Put
 refine(St.start [] w).alloc fun w1 b4 H=>?_
 refine⟨_,_,_,_,_,⟨by rw [A0_add];exact H.cell 0 rfl rfl,by rw [A0_add];exact H.cell 0 rfl rfl,by rw [A0_add];exact H.cell 0 rfl rfl,by rw [A0_add];exact H.cell 0 rfl rfl,by rw [A0_add];exact H.cell 0 rfl rfl,trivial⟩,?_⟩
 refine(T_block_Load way a b c d (e:Int) p n k l s er w1 (hs.fr0 H.fr) hw).mono ?_
 rintro x w2 ⟨rfl,hf⟩
 replace H:=H.call0 hf
 by_cases hle:loadErr way a b c d n=true
 · rw [loadV,if_pos hle,putV,if_pos hle]
   refine⟨_,_,rfl,bif_i (fun h1=>⟨rfl,H.fr⟩) fun h1=>?_⟩
   simp at h1
 · rw [loadV,if_neg hle,putV,if_neg hle]
   refine⟨_,_,rfl,bif_i (fun h1=>?_) fun h1=>?_⟩
   · have h1':er≠0:=by intro h0;rw [h0]at h1;simp at h1
     rw [if_pos h1']
     exact⟨rfl,H.fr⟩
   · have h1':er=0:=by
      have:¬((er:Int)≠0):=by simpa using h1
      omega
     subst h1'
     rw [if_neg (by simp)]
     have hle':loadErr way a b c d n=false:=by simpa using hle
     simp only [loadErr,Bool.or_eq_false_iff,Bool.not_eq_false']at hle'
     have hway:=way_cases hle'.1.2
     have hn:n≤4096:=by
      have:=hle'.2
      simp only [inB,Bool.and_eq_true,decide_eq_true_eq]at this
      omega
     have hnl:=hs.1
     intro J5 hJ
     have hv1:=vput_len64 (n:=n) (by omega)
     have hv2:=vput_len64 (n:=s.length) (by omega)
     have fin:∀w3,St [] w w3 [(b4,.cells #[.int .i64 a,.int .i64 b,.int .i64 c,.int .i64 d,.int .u64 (e:Int)] t_api_Options (0,0))]→J5 (S (headBytes way.toNat n s.length)) w3:=by
      intro w3 H
      refine hJ _ _ (H.drew fun w4 H=>?_)
      have hhl:(headBytes way.toNat n s.length).length≤21:=by simp [headBytes];omega
      simp only [A0_add]
      refine⟨by rw [S_size,S_size];unfold strMax;omega,_,H.cell 0 rfl rfl,?_⟩
      refine Calls.stf H (T_plain_Put p n k l w4 (hs.fr0 H.fr) (by omega)) fun w5 hf5 H=>⟨_,rfl,⟨hf5.cell0,trivial⟩,?_⟩
      refine Calls.stf H (T_xxh_Sum e he (plainB l) (by rw [plainB_len];omega) w5) fun w6 hf6 H=>⟨_,rfl,trivial,?_⟩
      refine Calls.stf H (T_vint_Word _ (sumN_lt _ _) w6) fun w7 hf7 H=>⟨_,rfl,⟨hf7.cell0,trivial⟩,?_⟩
      refine⟨by rw [S_append,S_size,S_size,List.length_append,wput_len];unfold strMax;omega,?_,H.fr⟩
      rw [S_append,S_append];rfl
     have hby:U8 way=(((UInt8.ofNat way.toNat).toNat:Nat):Int):=by
      rcases hway with rfl|rfl|rfl|rfl<;>rfl
     have e1:U64 ((n:Nat):Int)=((n:Nat):Int):=by rw [U64_nat,Nat.mod_eq_of_lt (by omega)]
     have e2:U64 (((S s).size:Nat):Int)=((s.length:Nat):Int):=by rw [S_size,U64_nat,Nat.mod_eq_of_lt (by omega)]
     rw [e1,e2,hby]
     have hTn:∀w,Calls prog n_vint_Put #[.int .u64 (n:Int)] w fun e w'=>e= .returned (.string (S (vput n)))∧Fr [] w w':=T_vint_Put n (by omega)
     have hTs:∀w,Calls prog n_vint_Put #[.int .u64 (s.length:Int)] w fun e w'=>e= .returned (.string (S (vput s.length)))∧Fr [] w w':=T_vint_Put s.length (by omega)
     have sz1:(S [UInt8.ofNat way.toNat]).size+(S (vput n)).size≤strMax:=by rw [S_size,S_size];unfold strMax;simp;omega
     have sz2:(S [UInt8.ofNat way.toNat]++S (vput n)).size+(S (vput s.length)).size≤strMax:=by rw [S_append,S_size,S_size];unfold strMax;simp;omega
     have fin1:∀w3,St [] w w3 [(b4,.cells #[.int .i64 a,.int .i64 b,.int .i64 c,.int .i64 d,.int .u64 (e:Int)] t_api_Options (0,0))]→J5 (S [UInt8.ofNat way.toNat]++S (vput n)++S (vput s.length)) w3:=by
      intro w3 H
      rw [S_append,S_append];exact fin w3 H
     refine H.drew fun w8 H=>⟨H.alloc fun w9 b23 H=>⟨trivial,b2s (l:= [UInt8.ofNat way.toNat]) (H.sl 0 rfl) rfl ⟨trivial,?_⟩,?_⟩,?_⟩
     · exact Calls.st H (hTn _) fun w10 H=>⟨_,rfl,trivial,sz1,Calls.st H (hTs _) fun w11 H=>⟨_,rfl,trivial,sz2,fin1 _ H.tail⟩⟩
     · refine Calls.st H (hTn _) fun w10 H=>⟨_,rfl,trivial,b2s (l:= [UInt8.ofNat way.toNat]) (H.sl 0 rfl) rfl ⟨trivial,sz1,?_⟩,?_⟩
       · exact Calls.st H (hTs _) fun w11 H=>⟨_,rfl,trivial,sz2,fin1 _ H.tail⟩
       · exact Calls.st H (hTs _) fun w11 H=>⟨_,rfl,trivial,b2s (l:= [UInt8.ofNat way.toNat]) (H.sl 0 rfl) rfl ⟨trivial,sz1,sz2,fin1 _ H.tail⟩⟩
     · refine Calls.st H (hTn _) fun w10 H=>⟨_,rfl,trivial,H.alloc fun w9 b23 H=>⟨trivial,b2s (l:= [UInt8.ofNat way.toNat]) (H.sl 0 rfl) rfl ⟨trivial,sz1,?_⟩,?_⟩,?_⟩
       · exact Calls.st H (hTs _) fun w11 H=>⟨_,rfl,trivial,sz2,fin1 _ H.tail⟩
       · exact Calls.st H (hTs _) fun w11 H=>⟨_,rfl,trivial,b2s (l:= [UInt8.ofNat way.toNat]) (H.sl 0 rfl) rfl ⟨trivial,sz1,sz2,fin1 _ H.tail⟩⟩
       · exact Calls.st H (hTs _) fun w11 H=>⟨_,rfl,trivial,H.alloc fun w9 b23 H=>⟨trivial,b2s (l:= [UInt8.ofNat way.toNat]) (H.sl 0 rfl) rfl ⟨trivial,sz1,sz2,fin1 _ H.tail⟩⟩⟩
end Go.Proofs.Tryz
namespace Go.Proofs.Tryz
open Go Go.RowKit Go.Proofs.VC
theorem ltW {n:Nat} (h:n<18446744073709551616):n<WW:=h
theorem ofW {n:Nat} (h:n<WW):n<18446744073709551616:=h
theorem vgo_vput:∀(k n:Nat),n<128^(k+1)→∀(i acc:Nat) (r:List UInt8),i≤9→(i=9→n<2)→n<2^(64-7*i)→(0<i→n≠0)→
 vgo (vput n++r) i acc=(acc+n*128^i,i+(vput n).length,0):=by
 intro k
 induction k with
 |zero=>
  intro n hn i acc r hi h9 h64 h0
  have hn':n<128:=by omega
  rw [vput_lt hn']
  have ht:(UInt8.ofNat n).toNat=n:=toNat_ofNat8 (by omega)
  rw [List.cons_append,vgo,ht,if_neg (by omega),if_neg (by omega),if_neg (by omega),if_neg (by omega)]
  rfl
 |succ k ih=>
  intro n hn i acc r hi h9 h64 h0
  by_cases hlt:n<128
  · rw [vput_lt hlt]
    have ht:(UInt8.ofNat n).toNat=n:=toNat_ofNat8 (by omega)
    rw [List.cons_append,vgo,ht,if_neg (by omega),if_neg (by omega),if_neg (by omega),if_neg (by omega)]
    rfl
  · have hi8:i≤8:=by omega
    rw [vput_ge (by omega)]
    have ht:(UInt8.ofNat (n%128+128)).toNat=n%128+128:=toNat_ofNat8 (by omega)
    have hp:2^(64-7*i)=128*2^(64-7*(i+1)):=by
     rw [show 64-7*i=7+(64-7*(i+1)) by omega,Nat.pow_add]
    have h64':n/128<2^(64-7*(i+1)):=by omega
    have h9':i+1=9→n/128<2:=by
     intro h
     obtain rfl:i=8:=by omega
     have:2^(64-7*(8+1))=2:=by decide
     omega
    rw [List.cons_append,vgo,ht,if_neg (by omega),if_neg (by omega),if_pos (by omega),ih (n/128) (by rw [Nat.pow_succ]at hn;omega) (i+1) _ r (by omega) h9' h64' (by omega)]
    have e1:(n%128+128)%128=n%128:=by omega
    have e2:acc+n%128*128^i+n/128*128^(i+1)=acc+n*128^i:=by
     rw [Nat.pow_succ,Nat.add_assoc,Nat.mul_comm (128^i) 128,←Nat.mul_assoc,←Nat.add_mul]
     congr 2
     omega
    rw [e1,e2,List.length_cons]
    congr 2
    omega
theorem vgetR_vput (n:Nat) (hn:n<WW) (r:List UInt8):vgetR (vput n++r)=(n,(vput n).length,0):=by
 rw [vgetR,vgo_vput 9 n (by have:(128:Nat)^(9+1)=1180591620717411303424:=by decide
                            have:=ofW hn
                            omega) 0 0 r (by omega) (by omega) hn (by omega)]
 simp
theorem readR_mid (pre x:List UInt8) (g:List UInt8→Nat×Nat×Nat) (a b:Nat) (h:g x=(a,b,0)):readR (pre++x) (pre.length:Int) g=(a,pre.length+b,0):=by
 rw [readR,if_neg (by rw [List.length_append];omega),Int.toNat_natCast,List.drop_left,h]
 rfl
theorem le_wput (n:Nat) (hn:n<WW):le (wput n)=n:=by
 have hb:∀i,(UInt8.ofNat (n/2^(8*i)%256)).toNat=n/2^(8*i)%256:=fun i=>toNat_ofNat8 (Nat.mod_lt _ (by decide))
 have hr:List.range 8= [0,1,2,3,4,5,6,7]:=rfl
 simp only [wput,hr,List.map_cons,List.map_nil,le,hb]
 have hW:WW=18446744073709551616:=rfl
 rw [hW]at hn
 omega
theorem wgetR_wput (n:Nat) (hn:n<WW) (r:List UInt8):wgetR (wput n++r)=(n,8,0):=by
 rw [wgetR,if_neg (by rw [List.length_append,wput_len];omega),List.take_left' (wput_len n),le_wput n hn]
theorem headR_put (pre body:List UInt8) (way n size:Nat) (most:Int) (hw:way≤3) (hn1:1≤n) (hn2:n≤4096) (hm:(n:Int)≤most) (hs:size≤16*n+1000) (hb:size+8≤body.length):
 headR (pre++(headBytes way n size++body)) (pre.length:Int) most=⟨way,n,size,pre.length+(headBytes way n size).length,0⟩:=by
 have hlen:(pre++(headBytes way n size++body)).length=pre.length+((headBytes way n size).length+body.length):=by simp
 have hhl:(headBytes way n size).length=1+(vput n).length+(vput size).length:=by simp [headBytes];omega
 rw [headR,if_neg (by rw [hlen];omega),if_neg (by rw [hlen,hhl];omega),Int.toNat_natCast]
 have hget:(pre++(headBytes way n size++body)).getD pre.length 0=UInt8.ofNat way:=by simp [headBytes]
 have hwn:(UInt8.ofNat way).toNat=way:=toNat_ofNat8 (by omega)
 have e1:pre++(headBytes way n size++body)=(pre++ [UInt8.ofNat way])++(vput n++(vput size++body)):=by simp [headBytes]
 have l1:(pre++ [UInt8.ofNat way]).length=pre.length+1:=by simp
 have r1:readR (pre++(headBytes way n size++body)) ((pre.length+1:Nat):Int) vgetR=(n,pre.length+1+(vput n).length,0):=by
  have:=readR_mid (pre++ [UInt8.ofNat way]) (vput n++(vput size++body)) vgetR n _ (vgetR_vput n (ltW (by omega)) _)
  rw [l1,←e1]at this
  exact this
 have e2:pre++(headBytes way n size++body)=(pre++ [UInt8.ofNat way]++vput n)++(vput size++body):=by simp [headBytes]
 have l2:(pre++ [UInt8.ofNat way]++vput n).length=pre.length+1+(vput n).length:=by simp;omega
 have r2:readR (pre++(headBytes way n size++body)) ((pre.length+1+(vput n).length:Nat):Int) vgetR=(size,pre.length+1+(vput n).length+(vput size).length,0):=by
  have:=readR_mid (pre++ [UInt8.ofNat way]++vput n) (vput size++body) vgetR size _ (vgetR_vput size (ltW (by omega)) _)
  rw [l2,←e2]at this
  exact this
 rw [headA,hget,hwn,if_neg (by omega),r1]
 dsimp only
 rw [if_neg (by simp),if_neg (by omega),if_neg (by omega),headB,r2]
 dsimp only
 rw [if_neg (by simp),if_neg (by omega),if_neg (by rw [hlen,hhl];omega),hhl]
 congr 1
 omega
theorem headR_blk (pre post:List UInt8) (way n:Nat) (s:List UInt8) (sum:Nat) (most:Int) (hw:way≤3) (hn1:1≤n) (hn2:n≤4096) (hm:(n:Int)≤most) (hs:s.length≤16*n+1000):
 headR (pre++(blockB way n s sum++post)) (pre.length:Int) most=⟨way,n,s.length,pre.length+(headBytes way n s.length).length,0⟩:=by
 have hL:pre++(blockB way n s sum++post)=pre++(headBytes way n s.length++(s++(wput sum++post))):=by simp [blockB]
 rw [hL]
 exact headR_put pre (s++(wput sum++post)) way n s.length most hw hn1 hn2 hm hs (by simp)
theorem blkR_put (pre post:List UInt8) (way n:Nat) (s:List UInt8) (seed:Nat) (most:Int) (unl:Nat→Nat→List UInt8→Option (List Int)) (ns:List Int)
 (hw:way≤3) (hn1:1≤n) (hn2:n≤4096) (hm:(n:Int)≤most) (hs:s.length≤16*n+1000) (hu:unl way n s=some ns):
 blkR (pre++(blockB way n s (sumN seed (plainB ns))++post)) (pre.length:Int) seed most unl= .ok (way,ns,pre.length+(blockB way n s (sumN seed (plainB ns))).length):=by
 have hL:pre++(blockB way n s (sumN seed (plainB ns))++post)=pre++(headBytes way n s.length++(s++(wput (sumN seed (plainB ns))++post))):=by simp [blockB]
 have hH:=headR_put pre (s++(wput (sumN seed (plainB ns))++post)) way n s.length most hw hn1 hn2 hm hs (by simp)
 have hd:((pre++(headBytes way n s.length++(s++(wput (sumN seed (plainB ns))++post)))).drop (pre.length+(headBytes way n s.length).length)).take s.length=s:=by
  rw [←List.append_assoc,←List.length_append,List.drop_left,List.take_left]
 rw [hL,blkR,hH]
 dsimp only
 rw [if_neg (by simp),hd,hu]
 dsimp only
 have hr:readR (pre++(headBytes way n s.length++(s++(wput (sumN seed (plainB ns))++post)))) ((pre.length+(headBytes way n s.length).length+s.length:Nat):Int) wgetR
  =(sumN seed (plainB ns),pre.length+(headBytes way n s.length).length+s.length+8,0):=by
  have:=readR_mid (pre++headBytes way n s.length++s) (wput (sumN seed (plainB ns))++post) wgetR _ _ (wgetR_wput _ (sumN_lt _ _) _)
  rw [List.length_append,List.length_append]at this
  have e:pre++headBytes way n s.length++s++(wput (sumN seed (plainB ns))++post)=pre++(headBytes way n s.length++(s++(wput (sumN seed (plainB ns))++post))):=by simp
  rw [e]at this
  exact this
 unfold getRest
 dsimp only
 rw [hr]
 dsimp only
 rw [if_neg (by simp),if_neg (by simp)]
 have:pre.length+(headBytes way n s.length).length+s.length+8=pre.length+(blockB way n s (sumN seed (plainB ns))).length:=by simp [blockB];omega
 rw [this]
end Go.Proofs.Tryz
namespace Go.Proofs.Tryz
open Go Go.RowKit Go.Proofs.VC
def I64 (v:Int):Prop:= -9223372036854775808≤v∧v<9223372036854775808
theorem plainB_drop:∀(l:List Int) (i:Nat),(plainB l).drop (8*i)=plainB (l.drop i)
 |l,0=>by simp
 | [],i+1=>by simp [plainB]
 |v::l,i+1=>by
  have e:plainB (v::l)=wput (u64i v)++plainB l:=by simp [plainB]
  rw [e,show 8*(i+1)=(wput (u64i v)).length+8*i by rw [wput_len];omega,←List.drop_drop,List.drop_left,plainB_drop l i]
  rfl
theorem wrap_u64i {v:Int} (h:I64 v):IntKind.wrap .i64 ((u64i v:Nat):Int)=v:=by
 obtain⟨h1,h2⟩:=h
 have e:((u64i v:Nat):Int)=v%18446744073709551616:=by unfold u64i;omega
 rw [e]
 simp [IntKind.wrap,IntKind.bits,IntKind.signed]
 omega
theorem words_plainB {l:List Int} (h:∀v∈l,I64 v):words (plainB l)=l:=by
 apply List.ext_getElem
 · rw [words_len,plainB_len];omega
 · intro i h1 h2
   have e:(plainB l).drop (8*i)=wput (u64i l[i])++plainB (l.drop (i+1)):=by
    rw [plainB_drop,List.drop_eq_getElem_cons h2]
    simp only [plainB,List.flatMap_cons]
   simp only [words,List.getElem_map,List.getElem_range]
   rw [e,List.take_left' (wput_len _),le_wput _ (u64i_lt _),wrap_u64i (h _ (List.getElem_mem h2))]
theorem unPlain_plainB {l:List Int} (h:∀v∈l,I64 v):unPlain (plainB l) (l.length:Int)=some l:=by
 have e:(plainB l).length=8*l.length:=plainB_len l
 rw [unPlain,if_pos ⟨by omega,by rw [e];omega⟩,words_plainB h]
def unl0 (way n:Nat) (s:List UInt8):Option (List Int):=unPlain s (n:Int)
theorem unl0_len (N:Nat) (way n:Nat) (s:List UInt8) (ns:List Int) (h:unl0 way n s=some ns):ns.length=n:=by
 unfold unl0 unPlain at h
 split at h
 · rename_i h1
   cases h
   rw [words_len];omega
 · cases h
theorem T38p (l:List UInt8) (at_:Int) (seed:Nat) (hseed:seed<WW) (most:Int) (hl:l.length≤140737488355328) (hH:(headR l at_ most).e=0→(headR l at_ most).way=0) (w:World):
 Calls prog n_block_Get #[.string (S l),.int .i64 at_,.int .u64 (seed:Int),.int .i64 most] w fun e w'=>∃v,e= .returned v∧BlkV w' v (blkR l at_ seed most fun _ n s=>if n≤4096 then unl0 0 n s else none)∧Fr [] w w':=by
 refine T_block_Get l at_ seed hseed most _ hl w (fun h w1=>?_) (fun way n s ns h=>?_)
 · have hn:=(headR_ok h).2.2.2
   rw [if_pos hn,hH h]
   exact T_block_unloader_plain _ _ (by rw [List.length_take,List.length_drop];omega) w1
 · split at h
   · have:=unl0_len 0 0 n s ns h
     omega
   · cases h
theorem T_l21_awake (w:World):Calls prog n_l21_awake #[] w fun e w'=>e= .returned (.bool true)∧Fr [] w w':=by
 refine S_l21_awake ?_
 unfold F_l21_awake
 refine Calls.st (St.start [] w) (T_l21_Options 1 2 0 4 7 (by decide) (by decide) (by decide) (by decide) w) fun w1 H=>⟨_,_,_,_,_,rfl,?_⟩
 refine H.alloc fun w2 b1 H=>?_
 simp only [A0_add]
 refine H.sto 0 rfl (by simp) fun w3 H=>?_
 refine H.sto 0 rfl (by simp) fun w3 H=>?_
 refine H.sto 0 rfl (by simp) fun w3 H=>?_
 refine H.sto 0 rfl (by simp) fun w3 H=>?_
 refine H.sto 0 rfl (by simp) fun w7 H=>?_
 refine⟨_,_,_,_,_,⟨by rw [A0_add];exact H.cell 0 rfl rfl,by rw [A0_add];exact H.cell 0 rfl rfl,by rw [A0_add];exact H.cell 0 rfl rfl,by rw [A0_add];exact H.cell 0 rfl rfl,by rw [A0_add];exact H.cell 0 rfl rfl,trivial⟩,?_⟩
 refine H.alloc fun w8 b11 H=>?_
 have hs:SlI w8 (some (A0 b11)) 1 [0]:=⟨rfl,H.sl 0 rfl⟩
 have hle:loadErr 0 (optA 1:Nat) (optB 2:Nat) (optC 0:Nat) (optD 4:Nat) 1=false:=by decide
 have hp:=T_block_Put 0 (optA 1:Nat) (optB 2:Nat) (optC 0:Nat) (optD 4:Nat) 7 (by decide) (some (A0 b11)) 1 1 [0] (plainB [0]) 0 w8 hs (by decide) (fun _ w1 hs1=>T_block_loader_plain _ _ _ _ _ _ _ _ _ _ hs1 (by decide))
 refine Calls.st H hp fun w9 H=>?_
 rw [putV,if_neg (by rw [hle];simp),if_neg (by simp)]
 refine⟨_,_,rfl,?_⟩
 have hblen:(blockB 0 1 (plainB [0]) (sumN 7 (plainB [0]))).length=19:=by
  have e1:(vput 1).length=1:=by rw [vput_lt (by decide)];rfl
  have e2:(plainB [0]).length=8:=plainB_len _
  have e3:(vput 8).length=1:=by rw [vput_lt (by decide)];rfl
  simp only [blockB,headBytes,List.length_append,e1,e3,e2,wput_len,List.length_cons,List.length_nil]
 have hH:=headR_blk [] [] 0 1 (plainB [0]) (sumN 7 (plainB [0])) 9 (by decide) (by decide) (by decide) (by decide) (by rw [plainB_len];decide)
 rw [List.nil_append,List.append_nil]at hH
 have hb:=blkR_put [] [] 0 1 (plainB [0]) 7 9 (fun _ n s=>if n≤4096 then unl0 0 n s else none) [0] (by decide) (by decide) (by decide) (by decide) (by rw [plainB_len];decide) (unPlain_plainB (l:= [0]) (by simp [I64]))
 rw [List.nil_append,List.append_nil,hblen]at hb
 have z:(([]:List UInt8).length:Int)=0:=rfl
 rw [z]at hH hb
 rw [List.length_nil,Nat.zero_add]at hb
 rw [show Int.toNat 0=0 from rfl]
 have hg:=T38p (blockB 0 1 (plainB [0]) (sumN 7 (plainB [0]))) 0 7 (by decide) 9 (by rw [hblen];decide) (fun _=>by rw [hH]) w9
 · refine hg.mono ?_
   rintro e w10 ⟨v,rfl,hv,hf⟩
   replace H:=H.call0 hf
   rw [hb]at hv
   obtain⟨a,c,rfl,hsl⟩:=hv
   refine⟨_,_,_,_,_,_,rfl,?_⟩
   rw [S_size,hblen]
   refine bif_i (fun _=>?_) fun h=>by simp at h
   refine Calls.st H (T_l1_Err _ _) fun w11 H=>⟨_,rfl,Calls.st H (T_l1_Err _ _) fun w12 H=>⟨_,rfl,?_⟩⟩
   refine bif_i (fun _=>bif_i (fun _=>bif_i (fun _=>⟨rfl,H.fr⟩) fun h=>?_) fun h=>?_) fun h=>?_
   · simp at h
   · simp at h
   · exact absurd h (by decide)
end Go.Proofs.Tryz
namespace Go.Proofs.Tryz
open Go Go.RowKit Go.Proofs.VC
variable {M:List Nat} {w0 w:World} {L:List En}
def mapN (v:Int):Nat:=if 0≤v then(2*v).toNat else(-2*v-1).toNat
def backN (u:Nat):Int:=if u%2=0 then((u/2:Nat):Int)else-((u/2:Nat):Int)-1
theorem mapN_lt {v:Int} (h:I64 v):mapN v<WW:=by
 obtain⟨h1,h2⟩:=h
 show mapN v<18446744073709551616
 unfold mapN;split<;>omega
theorem not64 (a:Nat) (h:a<18446744073709551616):a^^^18446744073709551615=18446744073709551615-a:=by
 have h1:=congrArg BitVec.toNat (BitVec.xor_allOnes (x:=BitVec.ofNat 64 a))
 rw [BitVec.toNat_xor,BitVec.toNat_not,BitVec.toNat_ofNat,BitVec.toNat_allOnes,Nat.mod_eq_of_lt h]at h1
 exact h1
theorem T_zig_Map (v:Int) (h:I64 v) (w:World):Calls prog n_zig_Map #[.int .i64 v] w fun e w'=>e= .returned (.int .u64 (mapN v:Nat))∧Fr [] w w':=by
 obtain⟨h1,h2⟩:=h
 refine S_zig_Map ?_
 unfold F_zig_Map
 refine⟨by decide,by decide,?_,Fr.refl _ _⟩
 have e1:U64 v=(((v%18446744073709551616).toNat:Nat):Int):=by rw [show U64 v=_ from wrap_u64 _];omega
 rw [e1,show(1:Int)=((1:Nat):Int)from rfl,shlI_u64 _ 1 (by decide)]
 have e2:shrI .i64 v 63=if 0≤v then 0 else-1:=by
  show Int.fdiv v (2^(min (63:Nat) 64))=_
  rw [show(2:Int)^(min (63:Nat) 64)=9223372036854775808 from rfl,Int.fdiv_eq_ediv_of_nonneg _ (by decide)]
  split<;>omega
 rw [e2]
 by_cases h0:0≤v
 · rw [if_pos h0,show U64 0=((0:Nat):Int)from rfl,xorI_u64 _ _ (Nat.mod_lt _ (by decide)) (by decide),Nat.xor_zero,mapN,if_pos h0]
   congr 4
   omega
 · rw [if_neg h0,show U64 (-1)=((18446744073709551615:Nat):Int)from by rw [show U64 (-1)=_ from wrap_u64 _];decide,xorI_u64 _ _ (Nat.mod_lt _ (by decide)) (by decide),not64 _ (Nat.mod_lt _ (by decide)),mapN,if_neg h0]
   congr 4
   omega
theorem xorI_i64_zero (a:Nat) (ha:a<9223372036854775808):xorI .i64 (a:Int) 0=(a:Int):=by
 show IntKind.wrap .i64 (((BitVec.ofInt 64 (a:Int)^^^BitVec.ofInt 64 0).toNat:Nat):Int)=_
 rw [ofInt_nat,show BitVec.ofInt 64 0=0#64 from rfl,BitVec.xor_zero,BitVec.toNat_ofNat,Nat.mod_eq_of_lt (by omega)]
 exact wrap_i64 _ (by omega) (by omega)
theorem xorI_i64_ones (a:Nat) (ha:a<9223372036854775808):xorI .i64 (a:Int) (-1)= -(a:Int)-1:=by
 show IntKind.wrap .i64 (((BitVec.ofInt 64 (a:Int)^^^BitVec.ofInt 64 (-1)).toNat:Nat):Int)=_
 rw [ofInt_nat,show BitVec.ofInt 64 (-1)=BitVec.allOnes 64 from by decide,BitVec.toNat_xor,BitVec.toNat_ofNat,BitVec.toNat_allOnes,Nat.mod_eq_of_lt (by omega),show 2^64-1=18446744073709551615 from rfl,not64 _ (by omega)]
 simp only [IntKind.wrap,IntKind.bits,IntKind.signed]
 simp
 omega
theorem and_one (u:Nat):u&&&1=u%2:=Nat.and_one_is_mod u
theorem T_zig_Back (u:Nat) (h:u<WW) (w:World):Calls prog n_zig_Back #[.int .u64 (u:Int)] w fun e w'=>e= .returned (.int .i64 (backN u))∧Fr [] w w':=by
 have h':u<18446744073709551616:=h
 refine S_zig_Back ?_
 unfold F_zig_Back
 refine⟨by decide,?_,Fr.refl _ _⟩
 rw [show(1:Int)=((1:Nat):Int)from rfl,shrI_nat .u64 u 1 (by decide),andI_u64 u 1 h' (by decide),and_one,show u/2^1=u/2 from rfl,W64_nat (n:=u/2) (by omega)]
 rcases Nat.mod_two_eq_zero_or_one u with h0|h0
 · rw [h0,show W64 (0-W64 ((0:Nat):Int))=0 from rfl,xorI_i64_zero _ (by omega),backN,if_pos h0]
 · rw [h0,show W64 (0-W64 ((1:Nat):Int))= -1 from rfl,xorI_i64_ones _ (by omega),backN,if_neg (by omega)]
theorem T_zig_top (c:Nat) (h1:1≤c) (h2:c≤64) (w:World):Calls prog n_zig_top #[.int .i64 (c:Int)] w fun e w'=>e= .returned (.int .u64 ((2^(c-1):Nat):Int))∧Fr [] w w':=by
 refine S_zig_top ?_
 unfold F_zig_top
 rw [W64_idn (n:=(c:Int)-1) (m:=c-1) (by omega) (by omega),show(1:Int)=((1:Nat):Int)from rfl,shlI_u64 1 (c-1) (by omega),Nat.one_mul,Nat.mod_eq_of_lt (Nat.lt_of_le_of_lt (Nat.pow_le_pow_right (by decide) (show c-1≤63 by omega)) (by decide))]
 exact⟨by omega,rfl,Fr.refl _ _⟩
def splitN (v:Int):Pt:=if mapN v=0 then(0,0)else(Lib.bitLen (mapN v),mapN v-2^(Lib.bitLen (mapN v)-1))
theorem bitLen_zero:Lib.bitLen 0=0:=rfl
theorem bitLen_pos {u:Nat} (h:u<WW) (h0:u≠0):1≤Lib.bitLen u∧Lib.bitLen u≤64∧2^(Lib.bitLen u-1)≤u∧u<2^Lib.bitLen u:=by
 obtain⟨a,b,c⟩:=Lib.bitLenAux_bounds 64 u h h0
 exact⟨a,Lib.bitLen_le u 64 (Nat.le_refl _) h,b,c⟩
def OkPt (p:Pt):Prop:=(p.1=0∧p.2=0)∨(1≤p.1∧p.1≤64∧p.2<2^(p.1-1))
instance (p:Pt):Decidable (OkPt p):=inferInstanceAs (Decidable (_∨_))
theorem splitN_ok {v:Int} (h:I64 v):OkPt (splitN v):=by
 unfold splitN
 split
 · exact .inl ⟨rfl,rfl⟩
 · rename_i h0
   obtain⟨a,b,c,d⟩:=bitLen_pos (mapN_lt h) h0
   refine .inr ⟨a,b,?_⟩
   have:2^Lib.bitLen (mapN v)=2*2^(Lib.bitLen (mapN v)-1):=by rw [←Nat.pow_succ'];congr 1;omega
   show mapN v-2^(Lib.bitLen (mapN v)-1)<2^(Lib.bitLen (mapN v)-1)
   omega
def joinP (p:Pt):Option Int:=if OkPt p then some (if p.1=0 then 0 else backN (2^(p.1-1)+p.2))else none
theorem okPt_lt {p:Pt} (h:OkPt p):p.1≤64∧p.2<WW:=by
 rcases h with⟨a,b⟩|⟨a,b,c⟩
 · exact⟨by omega,by rw [b];decide⟩
 · refine⟨b,Nat.lt_of_lt_of_le c ?_⟩
   have:2^(p.1-1)≤2^64:=Nat.pow_le_pow_right (by decide) (by omega)
   exact this
theorem T_zig_Split (v:Int) (h:I64 v) (w:World):Calls prog n_zig_Split #[.int .i64 v] w fun e w'=>e= .returned (.agg #[.int .i64 ((splitN v).1:Int),.int .u64 ((splitN v).2:Int)])∧Fr [] w w':=by
 refine S_zig_Split ?_
 unfold F_zig_Split
 refine(Sx.start [] w).alloc fun w1 b2 _ H=>?_
 have hm:=mapN_lt h
 have hm':mapN v<18446744073709551616:=hm
 refine Calls.sx H (T_zig_Map v h w1) fun w2 _ H=>⟨_,rfl,?_⟩
 refine Calls.sx H ((bits_Len64 _ w2 (by omega) (by omega)).mono (fun e w' hh=>⟨hh.1,hh.2▸Fr.refl _ _⟩)) fun w3 _ H=>⟨_,rfl,?_⟩
 rw [Int.toNat_natCast]
 simp only [A0_add]
 refine bif_i (fun h0=>?_) fun h0=>?_
 · have hz:mapN v=0:=by
    by_cases hz:mapN v=0
    · exact hz
    · have:=(bitLen_pos hm hz).1
      have:=eq_of_beq h0
      omega
   refine H.sto 0 rfl (by simp) fun w4 _ H=>?_
   refine H.sto 0 rfl (by simp) fun w5 _ H=>?_
   refine⟨_,_,⟨by rw [A0_add];exact H.cell 0 rfl rfl,by rw [A0_add];exact H.cell 0 rfl rfl,trivial⟩,?_,H.fr⟩
   rw [splitN,if_pos hz];rfl
 · have hz:mapN v≠0:=by
    intro hz
    rw [hz,bitLen_zero]at h0
    exact absurd h0 (by decide)
   obtain⟨a,b,c,d⟩:=bitLen_pos hm hz
   refine Calls.sx H (T_zig_top _ a b w3) fun w6 _ H=>⟨_,rfl,?_⟩
   have e1:U64 (((mapN v:Nat):Int)-((2^(Lib.bitLen (mapN v)-1):Nat):Int))=((mapN v-2^(Lib.bitLen (mapN v)-1):Nat):Int):=by
    rw [←Int.ofNat_sub c,U64_nat,Nat.mod_eq_of_lt (Nat.lt_of_le_of_lt (Nat.sub_le _ _) hm')]
   rw [e1]
   refine H.sto 0 rfl (by simp) fun w4 _ H=>?_
   refine H.sto 0 rfl (by simp) fun w5 _ H=>?_
   refine⟨_,_,⟨by rw [A0_add];exact H.cell 0 rfl rfl,by rw [A0_add];exact H.cell 0 rfl rfl,trivial⟩,?_,H.fr⟩
   rw [splitN,if_neg hz]
def joinV:Option Int→Value
 |some v=> .tuple #[.int .i64 v,.bool true]
 |none=> .tuple #[.int .i64 0,.bool false]
theorem T_zig_Join (p:Pt) (h1:p.1<9223372036854775808) (h2:p.2<WW) (w:World):Calls prog n_zig_Join #[.agg #[.int .i64 (p.1:Int),.int .u64 (p.2:Int)]] w fun e w'=>e= .returned (joinV (joinP p))∧Fr [] w w':=by
 obtain⟨c,r⟩:=p
 have h2':r<18446744073709551616:=h2
 simp only at h1 h2
 refine S_zig_Join ?_
 unfold F_zig_Join
 refine(Sx.start [] w).alloc fun w1 b1 _ H=>?_
 intro J5 hJ
 simp only [A0_add]
 refine⟨_,_,⟨by rw [A0_add];exact H.cell 0 rfl rfl,by rw [A0_add];exact H.cell 0 rfl rfl,trivial⟩,_,aggB_Part _ _ _ _,?_⟩
 refine bif_i (fun h0=>?_) fun h0=>?_
 · simp only [Bool.and_eq_true,beq_iff_eq]at h0
   obtain⟨rfl,rfl⟩:c=0∧r=0:=by omega
   exact⟨rfl,H.fr⟩
 · have hcr:¬(c=0∧r=0):=by
    rintro⟨rfl,rfl⟩
    exact absurd h0 (by decide)
   have hbad:¬(1≤c∧c≤64∧r<2^(c-1))→joinP (c,r)=none:=by
    intro hh
    rw [joinP,if_neg]
    rintro(⟨a,b⟩|hh')
    · exact hcr ⟨a,b⟩
    · exact hh hh'
   refine H.drew fun w6 _ H=>⟨_,H.cell 0 rfl rfl,bif_i (fun h3=>?_) fun h3=>⟨_,H.cell 0 rfl rfl,bif_i (fun h4=>?_) fun h4=>?_⟩⟩
   · have h3':=of_decide_eq_true h3
     exact⟨⟨id,trivial⟩,by rw [hbad (by omega)];rfl,H.fr⟩
   · have h4':=of_decide_eq_true h4
     exact⟨⟨id,id,trivial⟩,by rw [hbad (by omega)];rfl,H.fr⟩
   · have h3':=of_decide_eq_false h3
     have h4':=of_decide_eq_false h4
     refine⟨_,H.cell 0 rfl rfl,_,H.cell 0 rfl rfl,Calls.sx H (T_zig_top c (by omega) (by omega) w6) fun w7 hf H=>⟨_,rfl,⟨hf.cell0,hf.cell0,hf.cell0,trivial⟩,bif_i (fun h5=>?_) fun h5=>?_⟩⟩
     · have h5':=of_decide_eq_true h5
       refine⟨?_,H.fr⟩
       rw [hbad]
       · rfl
       · intro hh
         have:=hh.2.2
         omega
     · have h5':=of_decide_eq_false h5
       have hr:r<2^(c-1):=by omega
       have hpow:2^(c-1)≤2^63:=Nat.pow_le_pow_right (by decide) (by omega)
       have h63:(2:Nat)^63=9223372036854775808:=by decide
       refine hJ _ (H.drew fun w3 _ H=>⟨_,H.cell 0 rfl rfl,_,H.cell 0 rfl rfl,?_⟩)
       refine Calls.sx H (T_zig_top c (by omega) (by omega) w3) fun w4 hf H=>⟨_,rfl,⟨hf.cell0,trivial⟩,?_⟩
       rw [←Int.natCast_add,U64_nat,Nat.mod_eq_of_lt (by omega)]
       refine Calls.sx H (T_zig_Back _ (show 2^(c-1)+r<WW by show _<18446744073709551616;omega) w4) fun w5 hf H=>⟨_,rfl,⟨hf.cell0,hf.cell0,trivial⟩,?_,H.fr⟩
       rw [joinP,if_pos (.inr ⟨by show 1≤c;omega,by show c≤64;omega,hr⟩),if_neg (show¬c=0 by omega)]
       rfl
end Go.Proofs.Tryz
namespace Go.Proofs.VC
section
variable {α:Type} [Inhabited α]
def gd (l:List α) (i:Nat):α:=l.getD i default
theorem gd_eq {l:List α} {i:Nat} (h:i<l.length):gd l i=l[i]:=by simp [gd,h]
theorem gd_some {l:List α} {i:Nat} (h:i<l.length):l[i]? =some (gd l i):=by rw [gd_eq h];exact List.getElem?_eq_getElem h
def swp (l:List α) (i j:Nat):List α:=(l.set i (gd l j)).set j (gd l i)
@[simp] theorem swp_len (l:List α) (i j:Nat):(swp l i j).length=l.length:=by simp [swp]
theorem swp_gd {l:List α} {i j:Nat} (hi:i<l.length) (hj:j<l.length) (k:Nat):gd (swp l i j) k=if k=j then gd l i else if k=i then gd l j else gd l k:=by
 have e:∀(l:List α) (i k:Nat) (v:α),i<l.length→gd (l.set i v) k=if k=i then v else gd l k:=by
  intro l i k v h
  unfold gd
  rw [List.getD_eq_getElem?_getD,List.getElem?_set]
  by_cases hik:i=k
  · subst hik;rw [if_pos rfl,if_pos h,if_pos rfl];rfl
  · rw [if_neg hik,if_neg (Ne.symm hik),List.getD_eq_getElem?_getD]
 unfold swp
 rw [e _ _ _ _ (by simpa using hj),e _ _ _ _ hi]
theorem swp_perm {l:List α} {i j:Nat} (hi:i<l.length) (hj:j<l.length):(swp l i j).Perm l:=by
 have h:=Array.perm_iff_toList_perm.1 (Array.swap_perm (xs:=l.toArray) (i:=i) (j:=j) (by simpa using hi) (by simpa using hj))
 rw [Array.toList_swap]at h
 unfold swp
 rw [gd_eq hi,gd_eq hj]
 simpa using h
structure TO (lt:α→α→Bool):Prop where
 asym:∀a b,lt a b=true→lt b a=false
 trans:∀a b c,lt b a=false→lt c b=false→lt c a=false
variable (lt:α→α→Bool)
def HeapN (l:List α) (n:Nat):Prop:=∀k,0<k→k<n→lt (gd l k) (gd l ((k-1)/2))=false
def UpInv (l:List α) (n j:Nat):Prop:=
 (∀k,0<k→k<n→k≠j→lt (gd l k) (gd l ((k-1)/2))=false)∧(∀k,0<k→k<n→(k-1)/2=j→0<j→lt (gd l k) (gd l ((j-1)/2))=false)
def DownInv (l:List α) (n i:Nat):Prop:=
 (∀k,0<k→k<n→(k-1)/2≠i→lt (gd l k) (gd l ((k-1)/2))=false)∧(∀k,0<k→k<n→(k-1)/2=i→0<i→lt (gd l k) (gd l ((i-1)/2))=false)
variable {lt}
theorem UpInv.done {l:List α} {n j:Nat} (h:UpInv lt l n j) (hd:j=0∨lt (gd l j) (gd l ((j-1)/2))=false):HeapN lt l n:=by
 intro k h0 hk
 by_cases hkj:k=j
 · subst hkj
   rcases hd with hd|hd
   · omega
   · exact hd
 · exact h.1 k h0 hk hkj
theorem UpInv.step (T:TO lt) {l:List α} {n j:Nat} (h:UpInv lt l n j) (hn:n≤l.length) (hj:j<n) (h0:0<j) (hlt:lt (gd l j) (gd l ((j-1)/2))=true):UpInv lt (swp l ((j-1)/2) j) n ((j-1)/2):=by
 have hi:(j-1)/2<j:=by omega
 have G:=swp_gd (l:=l) (i:=(j-1)/2) (j:=j) (by omega) (by omega)
 generalize hid:(j-1)/2=i at*
 refine⟨fun k hk0 hk hki=>?_,fun k hk0 hk hki hi0=>?_⟩
 · rw [G,G,if_neg hki]
   by_cases hkj:k=j
   · subst hkj
     rw [if_pos rfl,hid,if_neg (by omega),if_pos rfl]
     exact T.asym _ _ hlt
   · rw [if_neg hkj]
     by_cases hp:(k-1)/2=j
     · rw [if_pos hp]
       have:=h.2 k hk0 hk hp h0
       rwa [hid]at this
     · rw [if_neg hp]
       by_cases hp2:(k-1)/2=i
       · rw [if_pos hp2]
         have:=h.1 k hk0 hk hkj
         rw [hp2]at this
         exact T.trans _ _ _ (T.asym _ _ hlt) this
       · rw [if_neg hp2]
         exact h.1 k hk0 hk hkj
 · have hii:lt (gd l i) (gd l ((i-1)/2))=false:=h.1 i hi0 (by omega) (by omega)
   rw [G,G ((i-1)/2),if_neg (show(i-1)/2≠j by omega),if_neg (show(i-1)/2≠i by omega)]
   by_cases hkj:k=j
   · rw [if_pos hkj];exact hii
   · rw [if_neg hkj,if_neg (by omega)]
     have:=h.1 k hk0 hk hkj
     rw [hki]at this
     exact T.trans _ _ _ hii this
theorem DownInv.done {l:List α} {n i:Nat} (h:DownInv lt l n i) (hd:∀k,0<k→k<n→(k-1)/2=i→lt (gd l k) (gd l i)=false):HeapN lt l n:=by
 intro k h0 hk
 by_cases hp:(k-1)/2=i
 · rw [hp];exact hd k h0 hk hp
 · exact h.1 k h0 hk hp
theorem DownInv.step (T:TO lt) {l:List α} {n i j:Nat} (h:DownInv lt l n i) (hn:n≤l.length) (hj:j<n) (hj0:0<j) (hpj:(j-1)/2=i) (hlt:lt (gd l j) (gd l i)=true)
 (hmin:∀k,0<k→k<n→(k-1)/2=i→lt (gd l k) (gd l j)=false):DownInv lt (swp l i j) n j:=by
 have hi:i<j:=by omega
 have G:=swp_gd (l:=l) (i:=i) (j:=j) (by omega) (by omega)
 refine⟨fun k hk0 hk hkp=>?_,fun k hk0 hk hkp hj0=>?_⟩
 · rw [G,G ((k-1)/2),if_neg hkp]
   by_cases hp:(k-1)/2=i
   · rw [if_pos hp]
     by_cases hkj:k=j
     · rw [if_pos hkj];exact T.asym _ _ hlt
     · rw [if_neg hkj,if_neg (by omega)];exact hmin k hk0 hk hp
   · rw [if_neg hp,if_neg (by rintro rfl;exact hp hpj)]
     by_cases hki:k=i
     · subst hki
       rw [if_pos rfl]
       exact h.2 j hj0 hj hpj hk0
     · rw [if_neg hki];exact h.1 k hk0 hk hp
 · rw [G,G,hpj,if_neg (by omega),if_neg (by omega),if_neg (by omega),if_pos rfl]
   have:=h.1 k hk0 hk (by omega)
   rwa [hkp]at this
theorem HeapN.min (T:TO lt) {l:List α} {n:Nat} (h:HeapN lt l n) (hirr:∀a,lt a a=false):∀k,k<n→lt (gd l k) (gd l 0)=false:=by
 intro k
 induction k using Nat.strongRecOn with
 |_ k ih=>
  intro hk
  by_cases h0:k=0
  · subst h0;exact hirr _
  · exact T.trans _ _ _ (ih ((k-1)/2) (by omega) (by omega)) (h k (by omega) hk)
omit [Inhabited α] in
theorem TO.irr (T:TO lt) (a:α):lt a a=false:=by
 cases h:lt a a with
 |false=>rfl
 |true=>rw [T.asym _ _ h]at h;exact h.symm▸rfl
end
end Go.Proofs.VC
namespace Go.Proofs.Tryz
open Go Go.RowKit Go.Proofs.VC
variable {M:List Nat} {w0 w:World} {L:List En}
abbrev Pr:Type:=Int×Int
def prs (l:List Pr):List Value:=l.flatMap fun p=> [.int .i64 p.1,.int .i64 p.2]
theorem prs_len (l:List Pr):(prs l).length=l.length*2:=by
 induction l with
 |nil=>rfl
 |cons p l ih=>simp only [prs,List.flatMap_cons,List.length_append,List.length_cons,List.length_nil]at ih ⊢;omega
theorem prs_app (a b:List Pr):prs (a++b)=prs a++prs b:=by simp [prs]
def ifc (te:Nat) (x:Pr):Value:= .iface te (.agg #[.int .i64 x.1,.int .i64 x.2])
def HS (M:List Nat) (w0 w:World) (L:List En) (ts e b:Nat) (l:List Pr):Prop:=
 ∃a n c,n=l.length∧Sx M w0 w (.ob b (.cells #[.slice a n c] ts (0,0)):: .ow e 2 a n c (prs l)::L)
structure HI (t ts e te:Nat) (lt:Pr→Pr→Bool):Prop where
 len:∀ {M:List Nat} {w0 w:World} {L:List En} {b:Nat} {l:List Pr} {R:Ending→World→Prop},HS M w0 w L ts e b l→(∀w',HS M w0 w' L ts e b l→R (.returned (.int .i64 (l.length:Int))) w')→
  InvCall prog fok (.iface t (.pointer (some (A0 b)))) "Len" #[] w R
 less:∀ {M:List Nat} {w0 w:World} {L:List En} {b:Nat} {l:List Pr} {R:Ending→World→Prop} {i j:Nat},HS M w0 w L ts e b l→i<l.length→j<l.length→(∀w',HS M w0 w' L ts e b l→R (.returned (.bool (lt (gd l i) (gd l j)))) w')→
  InvCall prog fok (.iface t (.pointer (some (A0 b)))) "Less" #[.int .i64 (i:Int),.int .i64 (j:Int)] w R
 swap:∀ {M:List Nat} {w0 w:World} {L:List En} {b:Nat} {l:List Pr} {R:Ending→World→Prop} {i j:Nat},HS M w0 w L ts e b l→i<l.length→j<l.length→(∀w',HS M w0 w' L ts e b (swp l i j)→R (.returned (.tuple #[])) w')→
  InvCall prog fok (.iface t (.pointer (some (A0 b)))) "Swap" #[.int .i64 (i:Int),.int .i64 (j:Int)] w R
 push:∀ {M:List Nat} {w0 w:World} {L:List En} {b:Nat} {l:List Pr} {R:Ending→World→Prop} {x:Pr},HS M w0 w L ts e b l→l.length≤1000000→(∀w',HS M w0 w' L ts e b (l++ [x])→R (.returned (.tuple #[])) w')→
  InvCall prog fok (.iface t (.pointer (some (A0 b)))) "Push" #[ifc te x] w R
 pop:∀ {M:List Nat} {w0 w:World} {L:List En} {b:Nat} {l:List Pr} {R:Ending→World→Prop},HS M w0 w L ts e b l→0<l.length→(∀w',HS M w0 w' L ts e b (l.take (l.length-1))→R (.returned (ifc te (gd l (l.length-1)))) w')→
  InvCall prog fok (.iface t (.pointer (some (A0 b)))) "Pop" #[] w R
variable {t ts e te:Nat} {lt:Pr→Pr→Bool}
theorem tdiv2 (j:Nat):Int.tdiv (j:Int) 2=((j/2:Nat):Int):=by rw [Int.tdiv_eq_ediv_of_nonneg (by omega)];rfl
theorem T_heap_up (K:HI t ts e te lt) (T:TO lt) {b j:Nat} {l:List Pr} {R:Ending→World→Prop} (H:HS M w0 w L ts e b l) (hU:UpInv lt l l.length j) (hj:j<l.length) (hl:l.length≤1000001)
 (h:∀w' l',HS M w0 w' L ts e b l'→l'.Perm l→HeapN lt l' l'.length→R (.returned (.tuple #[])) w'):Calls prog n_heap_up #[.iface t (.pointer (some (A0 b))),.int .i64 (j:Int)] w R:=by
 refine S_heap_up ?_
 unfold F_heap_up
 refine⟨fun m x w1=>∃(j':Nat) (l':List Pr),x=(j':Int)∧m=j'∧HS M w0 w1 L ts e b l'∧l'.Perm l∧UpInv lt l' l'.length j'∧j'<l'.length,⟨j,j,l,rfl,rfl,H,List.Perm.refl _,hU,hj⟩,?_⟩
 rintro m x w1 ⟨j',l',rfl,rfl,H,hp,hU,hj'⟩
 have hl':l'.length≤1000001:=by rw [hp.length_eq];exact hl
 refine⟨by decide,?_⟩
 by_cases h0:m=0
 · subst h0
   refine bif_t (by decide) (h _ _ H hp (hU.done (.inl rfl)))
 · have e1:W64 (Int.tdiv (W64 ((m:Int)-1)) 2)=(((m-1)/2:Nat):Int):=by
    rw [W64_idn (n:=(m:Int)-1) (m:=m-1) (by omega) (by omega),tdiv2,W64_idn rfl (by omega)]
   rw [e1]
   refine bif_f (by simp;omega) (K.less H hj' (by omega) fun w2 H=>⟨_,rfl,bif_i (fun hlt=>?_) fun hlt=>?_⟩)
   · exact h _ _ H hp (hU.done (.inr (by simpa using hlt)))
   · have hlt':lt (gd l' m) (gd l' ((m-1)/2))=true:=by simpa using hlt
     refine K.swap H (by omega) hj' fun w3 H=>⟨rfl,(m-1)/2,by omega,(m-1)/2,_,rfl,rfl,H,(swp_perm (by omega) hj').trans hp,?_,by rw [swp_len];omega⟩
     rw [swp_len]
     exact hU.step T (Nat.le_refl _) hj' (by omega) hlt'
theorem T_heap_down (K:HI t ts e te lt) (T:TO lt) {b i0 n:Nat} {l:List Pr} {R:Ending→World→Prop} (H:HS M w0 w L ts e b l) (hD:DownInv lt l n i0) (hn:n≤l.length) (hl:l.length≤1000001) (hi0:i0≤n)
 (h:∀w' l' r,HS M w0 w' L ts e b l'→l'.Perm l→HeapN lt l' n→(∀k,n≤k→gd l' k=gd l k)→R (.returned (.bool r)) w'):Calls prog n_heap_down #[.iface t (.pointer (some (A0 b))),.int .i64 (i0:Int),.int .i64 (n:Int)] w R:=by
 refine S_heap_down ?_
 unfold F_heap_down
 refine⟨fun m x w1=>∃(i:Nat) (l':List Pr),x=(i:Int)∧m+i=n∧HS M w0 w1 L ts e b l'∧l'.Perm l∧DownInv lt l' n i∧(∀k,n≤k→gd l' k=gd l k),⟨n-i0,i0,l,rfl,by omega,H,List.Perm.refl _,hD,fun _ _=>rfl⟩,?_⟩
 rintro m x w1 ⟨i,l',rfl,hm,H,hp,hD,hk⟩
 have hl':l'.length=l.length:=hp.length_eq
 have e1:W64 ((W64 ((2:Int)*(i:Int)))+(1:Int))=((2*i+1:Nat):Int):=by
  rw [W64_idn (n:=(2:Int)*(i:Int)) (m:=2*i) (by omega) (by omega)]
  exact W64_idn (by omega) (by omega)
 rw [e1]
 have e2:W64 (((2*i+1:Nat):Int)+(1:Int))=((2*i+2:Nat):Int):=W64_idn (by omega) (by omega)
 rw [e2]
 intro J4 hJ
 have kids:∀k,0<k→(k-1)/2=i→k=2*i+1∨k=2*i+2:=by intro k h0 hk;omega
 have go:∀(j:Nat) (w2:World),(j=2*i+1∨j=2*i+2)→j<n→(∀k,0<k→k<n→(k-1)/2=i→lt (gd l' k) (gd l' j)=false)→HS M w0 w2 L ts e b l'→
  InvCall prog fok (.iface t (.pointer (some (A0 b)))) "Less" #[.int .i64 (j:Int),.int .i64 (i:Int)] w2 (fun e_2 w4=>∃x38:Bool,e_2= .returned (.bool x38)∧bif !x38 then
   (R (.returned (.bool (decide ((i:Int)>(i0:Int))))) w4)else(InvCall prog fok (.iface t (.pointer (some (A0 b)))) "Swap" #[.int .i64 (i:Int),.int .i64 (j:Int)]
   w4 (fun e_3 w5=>e_3= .returned (.tuple #[])∧∃m_3,m_3<m∧∃(i:Nat) (l':List Pr),(j:Int)=(i:Int)∧m_3+i=n∧HS M w0 w5 L ts e b l'∧l'.Perm l∧DownInv lt l' n i∧(∀k,n≤k→gd l' k=gd l k)))):=by
  intro j w2 hj hjn hmin H
  refine K.less H (by omega) (by omega) fun w4 H=>⟨_,rfl,bif_i (fun hlt=>?_) fun hlt=>?_⟩
  · refine h _ _ _ H hp (hD.done fun k h0 hkn hkp=>?_) hk
    have hlt':lt (gd l' j) (gd l' i)=false:=by simpa using hlt
    exact T.trans _ _ _ hlt' (hmin k h0 hkn hkp)
  · have hlt':lt (gd l' j) (gd l' i)=true:=by simpa using hlt
    refine K.swap H (by omega) (by omega) fun w5 H=>⟨rfl,n-j,by omega,j,_,rfl,by omega,H,(swp_perm (by omega) (by omega)).trans hp,hD.step T (by omega) hjn (by omega) (by omega) hlt' hmin,fun k hkn=>?_⟩
    rw [swp_gd (by omega) (by omega),if_neg (by omega),if_neg (by omega)]
    exact hk k hkn
 refine bif_i (fun h1=>?_) fun h1=>bif_f (by simp;omega) (hJ w1 (bif_i (fun h2=>?_) fun h2=>?_))
 · have h1':=of_decide_eq_true h1
   refine h _ _ _ H hp (hD.done fun k h0 hkn hkp=>?_) hk
   rcases kids k h0 hkp with rfl|rfl<;>omega
 · have h1':=of_decide_eq_false h1
   have h2':=of_decide_eq_true h2
   refine K.less H (by omega) (by omega) fun w3 H=>⟨_,rfl,bif_i (fun h3=>?_) fun h3=>?_⟩
   · refine go (2*i+2) w3 (.inr rfl) (by omega) (fun k h0 hkn hkp=>?_) H
     rcases kids k h0 hkp with rfl|rfl
     · exact T.asym _ _ h3
     · exact T.irr _
   · refine go (2*i+1) w3 (.inl rfl) (by omega) (fun k h0 hkn hkp=>?_) H
     rcases kids k h0 hkp with rfl|rfl
     · exact T.irr _
     · exact h3
 · have h1':=of_decide_eq_false h1
   have h2':=of_decide_eq_false h2
   refine go (2*i+1) w1 (.inl rfl) (by omega) (fun k h0 hkn hkp=>?_) H
   rcases kids k h0 hkp with rfl|rfl
   · exact T.irr _
   · omega
theorem T_heap_Push (K:HI t ts e te lt) (T:TO lt) {b:Nat} {l:List Pr} {x:Pr} {R:Ending→World→Prop} (H:HS M w0 w L ts e b l) (hh:HeapN lt l l.length) (hl:l.length≤1000000)
 (h:∀w' l',HS M w0 w' L ts e b l'→l'.Perm (x::l)→HeapN lt l' l'.length→R (.returned (.tuple #[])) w'):Calls prog n_heap_Push #[.iface t (.pointer (some (A0 b))),ifc te x] w R:=by
 refine S_heap_Push ?_
 unfold F_heap_Push
 refine K.push H hl fun w1 H=>⟨rfl,K.len H fun w2 H=>⟨_,rfl,?_⟩⟩
 have e0:(l++ [x]).length=l.length+1:=by simp
 have e1:W64 (((l++ [x]).length:Int)-1)=((l.length:Nat):Int):=W64_idn (by rw [e0];omega) (by omega)
 rw [e1]
 have hg:∀k,k<l.length→gd (l++ [x]) k=gd l k:=by
  intro k hk
  rw [gd_eq (by rw [e0];omega),gd_eq hk,List.getElem_append_left hk]
 refine T_heap_up K T H ⟨fun k h0 hk hkj=>?_,fun k h0 hk hkj _=>by omega⟩ (by omega) (by omega) fun w3 l' H hp hh'=>⟨rfl,h w3 l' H (hp.trans (List.perm_append_singleton x l)) hh'⟩
 rw [hg k (by omega),hg _ (by omega)]
 exact hh k h0 (by omega)
theorem T_heap_Pop (K:HI t ts e te lt) (T:TO lt) {b:Nat} {l:List Pr} {R:Ending→World→Prop} (H:HS M w0 w L ts e b l) (hh:HeapN lt l l.length) (h0:0<l.length) (hl:l.length≤1000000)
 (h:∀w' m l',HS M w0 w' L ts e b l'→l.Perm (m::l')→HeapN lt l' l'.length→(∀x∈l',lt x m=false)→R (.returned (ifc te m)) w'):Calls prog n_heap_Pop #[.iface t (.pointer (some (A0 b)))] w R:=by
 refine S_heap_Pop ?_
 unfold F_heap_Pop
 refine K.len H fun w1 H=>⟨_,rfl,?_⟩
 have e1:W64 ((l.length:Int)-1)=((l.length-1:Nat):Int):=W64_idn (by omega) (by omega)
 rw [e1]
 have G:=swp_gd (l:=l) (i:=0) (j:=l.length-1) h0 (by omega)
 refine K.swap (i:=0) H h0 (by omega) fun w2 H=>⟨rfl,?_⟩
 have hD:DownInv lt (swp l 0 (l.length-1)) (l.length-1) 0:=by
  refine⟨fun k hk0 hk hkp=>?_,fun k _ _ _ h=>absurd h (Nat.lt_irrefl 0)⟩
  rw [G,G,if_neg (by omega),if_neg (by omega),if_neg (by omega),if_neg hkp]
  exact hh k hk0 (by omega)
 refine T_heap_down (i0:=0) K T H hD (by rw [swp_len];omega) (by rw [swp_len];omega) (Nat.zero_le _) fun w3 l' r H hp hh' hk=>⟨_,rfl,?_⟩
 have hp':l'.Perm l:=hp.trans (swp_perm h0 (by omega))
 have hlen:l'.length=l.length:=hp'.length_eq
 have hm:gd l' (l'.length-1)=gd l 0:=by
  rw [hlen,hk _ (Nat.le_refl _),G,if_pos rfl]
 refine K.pop H (by omega) fun w4 H=>⟨_,rfl,?_⟩
 have hsplit:l'=l'.take (l'.length-1)++ [gd l' (l'.length-1)]:=by
  have:=List.take_succ_eq_append_getElem (l:=l') (i:=l'.length-1) (by omega)
  rw [←gd_eq (by omega),show l'.length-1+1=l'.length by omega,List.take_of_length_le (Nat.le_refl _)]at this
  exact this
 have hperm:l.Perm (gd l' (l'.length-1)::l'.take (l'.length-1)):=by
  refine hp'.symm.trans ?_
  have:=List.perm_append_singleton (gd l' (l'.length-1)) (l'.take (l'.length-1))
  rw [←hsplit]at this
  exact this
 refine h w4 _ _ H hperm ?_ fun x hx=>?_
 · intro k hk0 hk
   rw [List.length_take]at hk
   have hg:∀k,k<l'.length-1→gd (l'.take (l'.length-1)) k=gd l' k:=by
    intro k hk
    rw [gd_eq (by rw [List.length_take];omega),gd_eq (by omega),List.getElem_take]
   rw [hg _ (by omega),hg _ (by omega)]
   exact hh' k hk0 (by omega)
 · rw [hm]
   have hx':x∈l:=hperm.symm.subset (List.mem_cons_of_mem _ hx)
   obtain⟨k,hk,rfl⟩:=List.mem_iff_getElem.1 hx'
   rw [←gd_eq hk]
   exact hh.min T T.irr k hk
theorem T_heap_Fix0 (K:HI t ts e te lt) (T:TO lt) {b:Nat} {l:List Pr} {R:Ending→World→Prop} (H:HS M w0 w L ts e b l) (hD:DownInv lt l l.length 0) (h0:0<l.length) (hl:l.length≤1000000)
 (h:∀w' l',HS M w0 w' L ts e b l'→l'.Perm l→HeapN lt l' l'.length→R (.returned (.tuple #[])) w'):Calls prog n_heap_Fix #[.iface t (.pointer (some (A0 b))),.int .i64 (0:Int)] w R:=by
 refine S_heap_Fix ?_
 unfold F_heap_Fix
 refine K.len H fun w1 H=>⟨_,rfl,?_⟩
 refine T_heap_down (i0:=0) K T H hD (Nat.le_refl _) (by omega) (Nat.zero_le _) fun w2 l' r H hp hh hk=>⟨_,rfl,?_⟩
 have hlen:=hp.length_eq
 rw [←hlen]at hh
 refine bif_i (fun _=>?_) fun _=>h w2 l' H hp hh
 exact T_heap_up (j:=0) K T H ⟨fun k h0 hk _=>hh k h0 hk,fun k _ _ _ h=>absurd h (Nat.lt_irrefl 0)⟩ (by omega) (by omega) fun w3 l'' H hp2 hh2=>⟨rfl,h w3 l'' H (hp2.trans hp) hh2⟩
end Go.Proofs.Tryz
namespace Go.Proofs.VC
open Go
theorem run_method_ptr {P:Program} {t e f n:Nat} {x:Value} {name:String} {i:TypeInfo} {m:Method} (hi:P.info? t=some i) (hm:i.methods.find? (·.name==name)=some m) (hp:m.path= #[]) (hf:m.func=some (f,true))
 (hu:P.underlying t=some (.pointer e)) (w:World):(method (n+Made.depth) t x name).run P w= .ok (f,x) w:=by
 rw [show n+Made.depth=(n+99)+1 from rfl]
 unfold method
 rw [Sem.run_bind,run_typeInfo hi]
 simp only [Result.andThen,hm,hp,follow,Sem.run_bind,Sem.run_pure,hf,receiverAt,run_underlying P t _ hu,Place.get]
theorem run_wrapnil {P:Program} (ats:Array TypeId) (t:TypeId) (p:Addr) (a b:String) (w:World):(Builtin.ssaWrapNilChk_ ats t #[.pointer (some p),strVal a,strVal b]).run P w= .ok (.pointer (some p)) w:=rfl
theorem run_method_val {P:Program} {t e f n:Nat} {p:Addr} {v:Value} {name:String} {i:TypeInfo} {m:Method} (hi:P.info? t=some i) (hm:i.methods.find? (·.name==name)=some m) (hp:m.path= #[]) (hf:m.func=some (f,false))
 (hu:P.underlying t=some (.pointer e)) (w:World) (hl:(loadVar e p).run P w= .ok v w):(method (n+Made.depth) t (.pointer (some p)) name).run P w= .ok (f,v) w:=by
 rw [show n+Made.depth=(n+99)+1 from rfl]
 unfold method
 rw [Sem.run_bind,run_typeInfo hi]
 simp only [Result.andThen,hm,hp,follow,Sem.run_bind,Sem.run_pure,hf,receiverAt,run_underlying P t _ hu,Place.get]
 rw [if_pos (by rfl)]
 simp only [Sem.run_pure,Result.andThen,Sem.run_bind,run_wrapnil,asAddr,hl]
end Go.Proofs.VC
namespace Go.Proofs.Tryz
open Go Go.RowKit Go.Proofs.VC
def ltG (x y:Pr):Bool:=decide (x.2>y.2)||(x.2==y.2&&decide (x.1<y.1))
def ltL (x y:Pr):Bool:=decide (x.2<y.2)||(x.2==y.2&&decide (x.1<y.1))
theorem ltG_iff (x y:Pr):ltG x y=true↔y.2<x.2∨(x.2=y.2∧x.1<y.1):=by simp [ltG]
theorem ltL_iff (x y:Pr):ltL x y=true↔x.2<y.2∨(x.2=y.2∧x.1<y.1):=by simp [ltL]
theorem ltG_false (x y:Pr):ltG x y=false↔¬(y.2<x.2∨(x.2=y.2∧x.1<y.1)):=by rw [←ltG_iff];simp
theorem ltL_false (x y:Pr):ltL x y=false↔¬(x.2<y.2∨(x.2=y.2∧x.1<y.1)):=by rw [←ltL_iff];simp
theorem TO_G:TO ltG where
 asym a b h:=by rw [ltG_iff]at h;rw [ltG_false];omega
 trans a b c h1 h2:=by rw [ltG_false]at h1 h2 ⊢;omega
theorem TO_L:TO ltL where
 asym a b h:=by rw [ltL_iff]at h;rw [ltL_false];omega
 trans a b c h1 h2:=by rw [ltL_false]at h1 h2 ⊢;omega
theorem prs_get {l:List Pr}:∀ {i:Nat} {u:Pr},l[i]? =some u→(prs l)[i*2]? =some (.int .i64 u.1)∧(prs l)[i*2+1]? =some (.int .i64 u.2):=by
 induction l with
 |nil=>intro i u h;simp at h
 |cons p l ih=>
  intro i u h
  cases i with
  |zero=>simp at h;subst h;exact⟨rfl,rfl⟩
  |succ i=>
   have:=ih (i:=i) (u:=u) (by simpa using h)
   have e:prs (p::l)= .int .i64 p.1:: .int .i64 p.2::prs l:=rfl
   rw [e,show(i+1)*2=i*2+1+1 by omega,List.getElem?_cons_succ,List.getElem?_cons_succ,List.getElem?_cons_succ,List.getElem?_cons_succ]
   exact this
theorem prs_set:∀(l:List Pr) (i:Nat) (v:Pr),((prs l).set (i*2) (.int .i64 v.1)).set (i*2+1) (.int .i64 v.2)=prs (l.set i v)
 | [],i,v=>by simp [prs]
 |p::l,0,v=>rfl
 |p::l,i+1,v=>by
  have e:∀(q:Pr) (l:List Pr),prs (q::l)= .int .i64 q.1:: .int .i64 q.2::prs l:=fun _ _=>rfl
  rw [e,show(i+1)*2=i*2+1+1 by omega,List.set_cons_succ,List.set_cons_succ,List.set_cons_succ,List.set_cons_succ,prs_set l i v,List.set_cons_succ,e]
theorem readP {w:World} {l:List Pr} {a:Option Addr} (h:Sl w a (prs l)) {i:Nat} {u:Pr} (hu:l[i]? =some u):∃p,a=some p∧w.cell? (p.add (i*2))=some (.int .i64 u.1)∧w.cell? (p.add (i*2+1))=some (.int .i64 u.2):=by
 obtain⟨h1,h2⟩:=prs_get hu
 obtain⟨p,hp,hc⟩:=h _ _ h1
 obtain⟨p',hp',hc'⟩:=h _ _ h2
 rw [hp]at hp'
 cases hp'
 exact⟨p,hp,hc,hc'⟩
theorem prs_take (l:List Pr) (n:Nat):(prs l).take (n*2)=prs (l.take n):=by
 induction n generalizing l with
 |zero=>simp [prs]
 |succ n ih=>
  cases l with
  |nil=>simp [prs]
  |cons p l=>
   have e:∀(q:Pr) (l:List Pr),prs (q::l)= .int .i64 q.1:: .int .i64 q.2::prs l:=fun _ _=>rfl
   rw [e,show(n+1)*2=n*2+1+1 by omega,List.take_succ_cons,List.take_succ_cons,ih,List.take_succ_cons,e]
theorem setA_set {M:List Nat} {w0 w:World} {L:List En} {e size b n c:Nat} {a:Option Addr} {xs:List Value} {o:Obj} (H:Sx M w0 w (.ob b o:: .ow e size a n c xs::L)) {p:Addr} (hp:a=some p) {i:Nat} {v1 v2:Value} {G:World→Prop} (h1:i*2+1<xs.length)
 (h:∀w1,Sx M w0 w1 (.ob b o:: .ow e size a n c ((xs.set (i*2) v1).set (i*2+1) v2)::L)→G w1):Sto w (p.add (i*2)) v1 fun w2=>Sto w2 (p.add (i*2+1)) v2 G:=by
 refine H.stoW 1 rfl hp (by omega) fun w2 _ H=>?_
 exact H.stoW 1 rfl hp (by rw [List.length_set];exact h1) fun w3 _ H=>h w3 H
end Go.Proofs.Tryz
